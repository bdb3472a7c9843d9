/- reasm: odd, the closures of Add, cmp.Compare, slices.IndexFunc and ContainsFunc at pieces. -/
import Derived.Test.YtlgjhacmhkbkdaaRsm1
import Derived.Shelf.Abstract
namespace Go.Proofs.Ytlgjhacmhkbkdaa
open Go.RowKit

theorem F1.start {N : Nat} {a : Pc} {w W : World} (hN : N = w.heap.size) (hW : W = w.alloc (Obj.cells (ppCells a) 74)) : F1 N a w W := by
  rw [hW]
  exact ⟨(Blk.new_at hN (ppCells a) 74).cell, (Fr.refl _ _).alloc _⟩

set_option maxRecDepth 100000 in
set_option maxHeartbeats 2000000 in
theorem podd_any (p : Pc) (w : World) (hp : p.ok) : Calls Try.prog 30 #[ppV p] w fun e w' => e = .returned (.bool (oddP p)) ∧ Fr [] w w' := by
  obtain ⟨N, hN⟩ : ∃ N, N = w.heap.size := ⟨_, rfl⟩
  have hsz := hp.sz
  go_enter Try.func30, Try.ntmps30
  unfold ppV ppCells
  go_upto_region 1 with (fail)
  rw [← hN, ppV_lit p]
  refine Code.world fun W0 hW => ?_
  have K0 := Lib.hid (F1.start hN hW)
  clear hW hN
  have hod : oddP p = (decide (65515 < p.end) || (!lastP p && (p.s.size % 8 != 0 || p.s.size == 0)) || (decide (0 < p.from) && p.s.size == 0)) := rfl
  have HOD := Lib.hid hod
  clear hod
  have hie := isEmpty_size p.s
  refine wp_plain_keep (fun w' => Hid (F1 N p w w')) (K0) ?_
  clear K0
  cases hA : decide (65515 < p.end)
  case' false =>
    cases hL : lastP p
    all_goals cases hE : (p.s.size == 0)
    all_goals cases hB : decide (0 < p.from)
    all_goals cases hC : (p.s.size % 8 != 0)
  all_goals
    try rw [hA] at HOD
    try rw [hL] at HOD
    try rw [hE] at HOD
    try rw [hB] at HOD
    try rw [hC] at HOD
    try rw [hE] at hie
    have hA' : decide ((65515 : Int) < (p.end : Int)) = decide (65515 < p.end) := by rw [Bool.eq_iff_iff]; simp only [decide_eq_true_eq]; omega
    rw [hA] at hA'
    have hB' : decide ((0 : Int) < (p.from : Int)) = decide (0 < p.from) := by rw [Bool.eq_iff_iff]; simp only [decide_eq_true_eq]; omega
    try rw [hB] at hB'
    have hC' : ((p.s.size : Int).tmod 8 != 0) = (p.s.size % 8 != 0) := by rw [Int.tmod_eq_emod_of_nonneg (by omega), Bool.eq_iff_iff]; simp only [bne_iff_ne, ne_eq]; omega
    try rw [hC] at hC'
    repeat (first | (refine wpI_one (by rfl) (fun w1 hS => by (have q1 := hS.out.1; unfold ppCells at q1; go_simp; first | exact ⟨rfl, hS⟩ | exact rfl | (refine (pend_any _ _ (by assumption)).mono ?_; rintro e w4 ⟨rfl, hf4⟩; exact ⟨rfl, Lib.hid (hS.out.trans hf4)⟩) | (refine (plast_any _ _).mono ?_; rintro e w4 ⟨rfl, hf4⟩; exact ⟨rfl, Lib.hid (hS.out.trans hf4)⟩))) (fun K hK => ?_); go_simp; refine hK _ ?_; clear hK K) | (refine wpI_skip (by rfl) (fun K hK => ?_); go_simp; refine hK _ ?_; clear hK K))
    refine wpI_nil ?_; intro w' hS
    go_wp2_with fail
    go_ret
    exact ⟨by rw [HOD.out]; rfl, hS.out.2⟩

set_option maxRecDepth 100000 in
set_option maxHeartbeats 1000000 in
/-- Add's first closure: doesn't a piece fit? -/
theorem padda_any (x o : Pc) (b : Nat) (w : World) (hx : x.ok) (ho : o.ok) (hb : ∀ k, w.cell? ⟨b, k, none⟩ = (ppCells x)[k]?) :
    Calls Try.prog 33 #[ppV o, .pointer (some ⟨b, 0, none⟩)] w fun e w' => e = .returned (.bool (!fitP x o)) ∧ Fr [] w w' := by
  obtain ⟨N, hN⟩ : ∃ N, N = w.heap.size := ⟨_, rfl⟩
  go_enter Try.func33, Try.ntmps33
  unfold ppV ppCells
  go_upto_region 1 with (fail)
  rw [← hN, ppV_lit o]
  refine Code.world fun W0 hW => ?_
  have K0 := Lib.hid (F1.start hN hW)
  clear hW hN
  have HB := Lib.hid hb
  clear hb
  refine wp_plain_keep (fun w' => Hid (F1 N o w w')) (K0) ?_
  clear K0
  repeat (first | (refine wpI_one (by rfl) (fun w1 hS => by (have q1 := hS.out.1; have q2 := hS.out.2.cells HB.out (by simp) (ppCells_size x); unfold ppCells at q1 q2; go_simp; first | exact ⟨rfl, hS⟩ | exact rfl | (refine (pfits_any _ _ _ (by assumption) (by assumption)).mono ?_; rintro e w4 ⟨rfl, hf4⟩; exact ⟨rfl, Lib.hid (hS.out.trans hf4)⟩))) (fun K hK => ?_); go_simp; refine hK _ ?_; clear hK K) | (refine wpI_skip (by rfl) (fun K hK => ?_); go_simp; refine hK _ ?_; clear hK K))
  refine wpI_nil ?_; intro w' hS
  go_wp2_with fail
  go_ret
  exact ⟨rfl, hS.out.2⟩

theorem isnan_any (x : Int) (w : World) : Calls Try.prog 66 #[.int .i64 x] w fun e w' => e = .returned (.bool false) ∧ w' = w := by
  have h : (x != x) = false := by simp
  go_enter Try.func66, Try.ntmps66
  go_wp2_with fail
  go_ret
  exact ⟨rfl, rfl⟩

/-- cmp.Compare. -/
def cmpI (x y : Int) : Int := if x < y then -1 else if y < x then 1 else 0

set_option maxHeartbeats 1000000 in
theorem cmp_any (x y : Int) (w : World) : Calls Try.prog 37 #[.int .i64 x, .int .i64 y] w fun e w' => e = .returned (.int .i64 (cmpI x y)) ∧ w' = w := by
  have hc : cmpI x y = if x < y then -1 else if y < x then 1 else 0 := rfl
  have HC := Lib.hid hc
  clear hc
  by_cases h1 : x < y
  case' neg => by_cases h2 : y < x
  all_goals
    go_enter Try.func37, Try.ntmps37
    go_wp2_with (first | (go_at_call 66; refine (isnan_any _ _).mono ?_; rintro e w1 ⟨rfl, rfl⟩))
    go_ret
    exact ⟨by rw [HC.out]; (repeat' split) <;> first | rfl | omega, rfl⟩

set_option maxRecDepth 100000 in
set_option maxHeartbeats 1000000 in
/-- Add's second closure: pieces by their places. -/
theorem paddb_any (x y : Pc) (w : World) : Calls Try.prog 36 #[ppV x, ppV y] w fun e w' => e = .returned (.int .i64 (cmpI x.from y.from)) ∧ Fr [] w w' := by
  obtain ⟨N, hN⟩ : ∃ N, N = w.heap.size := ⟨_, rfl⟩
  go_enter Try.func36, Try.ntmps36
  unfold ppV ppCells
  go_upto_region 1 with (fail)
  rw [← hN, ppV_lit x, ppV_lit y]
  refine Code.world fun W0 hW => ?_
  have K0 := Lib.hid (F2.start hN hW)
  clear hW hN
  refine wp_plain_keep (fun w' => Hid (F2 N x y w w')) (K0) ?_
  clear K0
  repeat (first | (refine wpI_one (by rfl) (fun w1 hS => by (have q1 := hS.out.c1; have q2 := hS.out.c2; unfold ppCells at q1 q2; go_simp; first | exact ⟨rfl, hS⟩ | exact rfl | (refine (cmp_any _ _ _).mono ?_; rintro e w4 ⟨rfl, rfl⟩; exact ⟨rfl, hS⟩))) (fun K hK => ?_); go_simp; refine hK _ ?_; clear hK K) | (refine wpI_skip (by rfl) (fun K hK => ?_); go_simp; refine hK _ ?_; clear hK K))
  refine wpI_nil ?_; intro w' hS
  go_wp2_with fail
  go_ret
  exact ⟨rfl, hS.out.fr⟩

/-- A predicate on pieces that a closure asks, from a world on. -/
def Asks (g : FuncId) (first cap : Array Value) (q : Pc → Bool) (l : List Pc) (w : World) : Prop :=
  (∀ args W, (callFunc g args).run Try.prog W = .ok (.enter g args) W) ∧ ∀ W, Fr [] w W → ∀ o ∈ l, Calls Try.prog g (first ++ #[ppV o] ++ cap) W fun e w' => e = .returned (.bool (q o)) ∧ Fr [] W w'

theorem prow_cells {W : World} {g n cap : Nat} {l : List Pc} (h : Row W 74 12 (.slice (some ⟨g, 0, none⟩) n cap) (l.map ppCells)) (i : Nat) (hi : i < l.length) :
    W.cell? ⟨g, i * 12, none⟩ = some (Value.int IntKind.i64 (l[i]'hi).h.tos) ∧
    W.cell? ⟨g, i * 12 + 1, none⟩ = some (Value.int IntKind.i64 (l[i]'hi).h.id) ∧
    W.cell? ⟨g, i * 12 + 2, none⟩ = some (Value.int IntKind.i64 (l[i]'hi).h.off) ∧
    W.cell? ⟨g, i * 12 + 3, none⟩ = some (Value.int IntKind.i64 (l[i]'hi).h.ttl) ∧
    W.cell? ⟨g, i * 12 + 4, none⟩ = some (Value.int IntKind.i64 (l[i]'hi).h.proto) ∧
    W.cell? ⟨g, i * 12 + 5, none⟩ = some (Value.bool (l[i]'hi).h.df) ∧
    W.cell? ⟨g, i * 12 + 6, none⟩ = some (Value.bool (l[i]'hi).h.mf) ∧
    W.cell? ⟨g, i * 12 + 7, none⟩ = some (Value.string (l[i]'hi).h.src) ∧
    W.cell? ⟨g, i * 12 + 8, none⟩ = some (Value.string (l[i]'hi).h.dst) ∧
    W.cell? ⟨g, i * 12 + 9, none⟩ = some (Value.string (l[i]'hi).h.opts) ∧
    W.cell? ⟨g, i * 12 + 10, none⟩ = some (Value.int IntKind.i64 ((l[i]'hi).from : Nat)) ∧
    W.cell? ⟨g, i * 12 + 11, none⟩ = some (Value.string (l[i]'hi).s) := by
  have hc : ∀ k, k < 12 → W.cell? ⟨g, i * 12 + k, none⟩ = (ppCells l[i])[k]? := fun k hk => by
    have := h.cell i (by simpa using hi) k hk
    simpa using this
  exact ⟨hc 0 (by omega), hc 1 (by omega), hc 2 (by omega), hc 3 (by omega), hc 4 (by omega), hc 5 (by omega), hc 6 (by omega), hc 7 (by omega), hc 8 (by omega), hc 9 (by omega), hc 10 (by omega), hc 11 (by omega)⟩

def idxP (q : Pc → Bool) (l : List Pc) : Int :=
  match l.findIdx? q with
  | some i => i
  | none => -1

set_option maxRecDepth 100000 in
set_option maxHeartbeats 2000000 in
theorem pifunc_any (g : FuncId) (first cap : Array Value) (q : Pc → Bool) (l : List Pc) (v : Value) (w : World) (hrow : Row w 74 12 v (l.map ppCells)) (hq : Asks g first cap q l w) :
    Calls Try.prog 63 #[v, .func (.func g) first cap] w fun e w' => e = .returned (.int .i64 (idxP q l)) ∧ Fr [] w w' := by
  obtain ⟨a, cp, rfl, hcl, hcm⟩ := hrow.shape
  rw [List.length_map] at *
  unfold maxLen at hcm
  have hent := hq.1
  have HQ := Lib.hid hq.2
  have HROW := Lib.hid hrow
  clear hq hrow
  go_enter Try.func63, Try.ntmps63
  go_wp2_with fail
  go_loopw [8] (fun v wr => ∃ k : Nat, k ≤ l.length ∧ v = .int .i64 k ∧ Hid (∀ j (hj : j < l.length), j < k → q l[j] = false) ∧ Hid (Fr [] w wr)) (fun v _ => l.length - (intOf v).toNat)
  case atStart => exact ⟨0, by omega, rfl, fun j hj h => by omega, Fr.refl _ _⟩
  case round =>
    obtain ⟨k, hk, rfl, HB, HF⟩ := hrel
    by_cases hlt : k < l.length
    · have hr := HROW.out.keep' HF.out
      obtain ⟨gb, rfl, hgb⟩ := hr.at (by omega)
      obtain ⟨q0, q1, q2, q3, q4, q5, q6, q7, q8, q9, q10, q11⟩ := prow_cells hr k hlt
      have hqo := HQ.out wr HF.out l[k] (List.getElem_mem hlt)
      have HQO := Lib.hid hqo
      obtain ⟨p, hp⟩ : ∃ p, p = l[k]'hlt := ⟨_, rfl⟩
      rw [← hp] at q0 q1 q2 q3 q4 q5 q6 q7 q8 q9 q10 q11 HQO
      have HP := Lib.hid hp
      clear hp hqo hr
      cases hqp : q p
      · have HQP := Lib.hid hqp
        clear hqp
        go_wp2_with fail
        refine HQO.out.mono ?_
        rintro e w4 ⟨rfl, hf4⟩
        rw [HQP.out]
        go_wp2_with fail
        refine ⟨⟨k + 1, by omega, by go_num, ?_, HF.out.trans hf4⟩, by simp [intOf]; omega⟩
        intro j hj hjk
        by_cases e : j = k
        · subst e; rw [← HP.out]; exact HQP.out
        · exact HB.out j hj (by omega)
      · have hfin : idxP q l = k := by
          unfold idxP
          have : l.findIdx? q = some k := by
            rw [List.findIdx?_eq_some_iff_getElem]
            exact ⟨hlt, by rw [← HP.out]; exact hqp, fun j hj => by simp [HB.out j (by omega) hj]⟩
          rw [this]
        have HFIN := Lib.hid hfin
        have HQP := Lib.hid hqp
        clear hqp hfin
        go_wp2_with fail
        refine HQO.out.mono ?_
        rintro e w4 ⟨rfl, hf4⟩
        rw [HQP.out]
        go_wp2_with fail
        go_ret
        exact ⟨(by rw [HFIN.out]; try rfl), HF.out.trans hf4⟩
    · have hke : k = l.length := by omega
      subst hke
      have hend : idxP q l = -1 := by
        unfold idxP
        have : l.findIdx? q = none := by
          rw [List.findIdx?_eq_none_iff]
          intro e he
          obtain ⟨j, hj, rfl⟩ := List.getElem_of_mem he
          exact HB.out j hj hj
        rw [this]
      have HEND := Lib.hid hend
      clear hend hlt
      go_wp2_with fail
      go_ret
      exact ⟨(by rw [HEND.out]; try rfl), HF.out⟩

theorem idxP_any (q : Pc → Bool) (l : List Pc) : decide (0 ≤ idxP q l) = l.any q := by
  unfold idxP
  cases h : l.findIdx? q with
  | none =>
    rw [List.findIdx?_eq_none_iff] at h
    have : l.any q = false := by rw [List.any_eq_false]; intro x hx; simp [h x hx]
    rw [this]; simp
  | some i =>
    rw [List.findIdx?_eq_some_iff_getElem] at h
    obtain ⟨hi, hq, _⟩ := h
    have : l.any q = true := by rw [List.any_eq_true]; exact ⟨_, List.getElem_mem hi, hq⟩
    rw [this]; simp

set_option maxHeartbeats 400000 in
theorem pcfunc_any (g : FuncId) (first cap : Array Value) (q : Pc → Bool) (l : List Pc) (v : Value) (w : World) (hrow : Row w 74 12 v (l.map ppCells)) (hq : Asks g first cap q l w) :
    Calls Try.prog 31 #[v, .func (.func g) first cap] w fun e w' => e = .returned (.bool (l.any q)) ∧ Fr [] w w' := by
  have H := Lib.hid (pifunc_any g first cap q l v w hrow hq)
  have hx := idxP_any q l
  have HX := Lib.hid hx
  clear hx hrow hq
  go_enter Try.func31, Try.ntmps31
  go_wp2_with fail
  refine H.out.mono ?_
  rintro e w4 ⟨rfl, hf4⟩
  go_wp2_with fail
  go_ret
  exact ⟨by rw [← HX.out]; rfl, hf4⟩
end Go.Proofs.Ytlgjhacmhkbkdaa
