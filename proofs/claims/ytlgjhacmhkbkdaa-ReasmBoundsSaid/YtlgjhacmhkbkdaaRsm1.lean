/- reasm: pieces: end, last, odd, like, fits; the closures; cmp.Compare. -/
import Derived.Test.YtlgjhacmhkbkdaaRef16a
import Derived.Test.YtlgjhacmhkbkdaaRow
namespace Go.Proofs.Ytlgjhacmhkbkdaa
open Go.RowKit

/-- A piece of the program: a header, its first byte's place, and a payload. -/
def ppCells (p : Pc) : Array Value := #[.int .i64 p.h.tos, .int .i64 p.h.id, .int .i64 p.h.off, .int .i64 p.h.ttl, .int .i64 p.h.proto, .bool p.h.df, .bool p.h.mf, .string p.h.src, .string p.h.dst, .string p.h.opts, .int .i64 (p.from : Nat), .string p.s]
def ppV (p : Pc) : Value := .agg (ppCells p)

theorem ppV_lit (p : Pc) : Value.agg #[.int .i64 p.h.tos, .int .i64 p.h.id, .int .i64 p.h.off, .int .i64 p.h.ttl, .int .i64 p.h.proto, .bool p.h.df, .bool p.h.mf, .string p.h.src, .string p.h.dst, .string p.h.opts, .int .i64 (p.from : Nat), .string p.s] = ppV p := rfl
theorem ppCells_size (p : Pc) : 0 < (ppCells p).size := by simp [ppCells]

theorem Pc.from_le {p : Pc} (h : p.ok) : p.from ≤ 65528 := by have := h.o1; unfold Pc.from; omega

set_option maxHeartbeats 400000 in
theorem pend_any (p : Pc) (w : World) (hp : p.ok) : Calls Try.prog 61 #[ppV p] w fun e w' => e = .returned (.int .i64 p.end) ∧ Fr [] w w' := by
  have hsz := hp.sz
  have hf := Pc.from_le hp
  have HF := Lib.hid (show (p.end : Int) = (p.from : Int) + p.s.size by unfold Pc.end Pc.from; omega)
  unfold ppV ppCells
  go_enter Try.func61, Try.ntmps61
  go_wp2_with fail
  go_ret
  exact ⟨by rw [HF.out]; rfl, (Fr.refl _ _).alloc _⟩

/-- Is it the last one? -/
def lastP (p : Pc) : Bool := !p.h.mf

set_option maxHeartbeats 400000 in
theorem plast_any (p : Pc) (w : World) : Calls Try.prog 62 #[ppV p] w fun e w' => e = .returned (.bool (lastP p)) ∧ Fr [] w w' := by
  unfold ppV ppCells
  go_enter Try.func62, Try.ntmps62
  go_wp2_with fail
  go_ret
  exact ⟨rfl, (Fr.refl _ _).alloc _⟩

/-- May a piece not be? -/
def oddP (p : Pc) : Bool := decide (65515 < p.end) || (!lastP p && (p.s.size % 8 != 0 || p.s.size == 0)) || (decide (0 < p.from) && p.s.size == 0)

/-- A piece's box, and the frame. -/
def F1 (N : Nat) (a : Pc) (w W : World) : Prop := (∀ k, W.cell? ⟨N, k, none⟩ = (ppCells a)[k]?) ∧ Fr [] w W

theorem F1.trans {N : Nat} {a : Pc} {w W W' : World} (h : F1 N a w W) (hf : Fr [] W W') : F1 N a w W' := ⟨hf.cells h.1 (by simp) (ppCells_size a), h.2.trans hf⟩

/-- Two pieces' boxes, and the frame. -/
structure F2 (N : Nat) (a b : Pc) (w W : World) : Prop where
  c1 : ∀ k, W.cell? ⟨N, k, none⟩ = (ppCells a)[k]?
  c2 : ∀ k, W.cell? ⟨N + 1, k, none⟩ = (ppCells b)[k]?
  fr : Fr [] w W

theorem F2.trans {N : Nat} {a b : Pc} {w W W' : World} (h : F2 N a b w W) (hf : Fr [] W W') : F2 N a b w W' :=
  ⟨hf.cells h.c1 (by simp) (ppCells_size a), hf.cells h.c2 (by simp) (ppCells_size b), h.fr.trans hf⟩
theorem F2.drew {N : Nat} {a b : Pc} {w W : World} (h : F2 N a b w W) : F2 N a b w W.drew := h.trans (Fr.refl _ _).drew

theorem F2.start {N : Nat} {a b : Pc} {w W : World} (hN : N = w.heap.size) (hW : W = ((w.alloc (Obj.cells (ppCells a) 74)).alloc (Obj.cells (ppCells b) 74))) : F2 N a b w W := by
  rw [hW]
  exact ⟨(((Blk.new_at hN _ _).alloc _) : Blk _ N (ppCells a) 74).cell, (Blk.new_at (by simp [hN]) _ _ : Blk _ (N + 1) (ppCells b) 74).cell, ((Fr.refl _ _).alloc _).alloc _⟩

/-- Are two pieces alike? -/
def likeP (a b : Pc) : Bool := a.from == b.from && a.s.toList == b.s.toList && lastP a == lastP b

set_option maxRecDepth 100000 in
set_option maxHeartbeats 1000000 in
theorem plike_any (a b : Pc) (w : World) : Calls Try.prog 32 #[ppV a, ppV b] w fun e w' => e = .returned (.bool (likeP a b)) ∧ Fr [] w w' := by
  obtain ⟨N, hN⟩ : ∃ N, N = w.heap.size := ⟨_, rfl⟩
  go_enter Try.func32, Try.ntmps32
  unfold ppV ppCells
  go_wp2_with fail
  rw [← hN, ppV_lit a, ppV_lit b]
  refine Code.world fun W0 hW => ?_
  have K0 := Lib.hid (F2.start hN hW).drew
  clear hW hN
  refine wp_region_keep (fun w' => Hid (F2 N a b w w')) (by kernel_rfl) (by kernel_rfl) (K0) ?_
  clear K0
  cases k1 : (a.from == b.from)
  case' true => cases k2 : (a.s.toList == b.s.toList)
  all_goals
    have KK := Lib.hid k1
    have k1' := (int_beq a.from b.from).trans k1
    repeat (first | (refine wpI_one (by rfl) (fun w1 hS => by (have q1 := hS.out.c1; have q2 := hS.out.c2; unfold ppCells at q1 q2; go_simp; first | exact ⟨rfl, hS⟩ | exact rfl | (refine (plast_any _ _).mono ?_; rintro e w4 ⟨rfl, hf4⟩; exact ⟨rfl, Lib.hid (hS.out.trans hf4)⟩))) (fun K hK => ?_); go_simp; refine hK _ ?_; clear hK K) | (refine wpI_skip (by rfl) (fun K hK => ?_); go_simp; refine hK _ ?_; clear hK K))
    refine wpI_nil ?_; intro w' hS
    go_wp2_with fail
    go_ret
    exact ⟨by unfold likeP; first | (rw [KK.out]; rfl) | (rw [KK.out, k2]; rfl), hS.out.fr⟩

def apartP (a b : Pc) : Bool := decide (a.end ≤ b.from) || decide (b.end ≤ a.from)
/-- Do two pieces fit? -/
def fitP (a b : Pc) : Bool := apartP a b && !(lastP a && lastP b) && (!lastP a || decide (b.end ≤ a.end)) && (!lastP b || decide (a.end ≤ b.end))

set_option maxRecDepth 100000 in
set_option maxHeartbeats 2000000 in
theorem pfits_any (a b : Pc) (w : World) (ha : a.ok) (hb : b.ok) : Calls Try.prog 34 #[ppV a, ppV b] w fun e w' => e = .returned (.bool (fitP a b)) ∧ Fr [] w w' := by
  obtain ⟨N, hN⟩ : ∃ N, N = w.heap.size := ⟨_, rfl⟩
  go_enter Try.func34, Try.ntmps34
  unfold ppV ppCells
  go_wp2_with fail
  rw [← hN, ppV_lit a, ppV_lit b]
  refine Code.world fun W0 hW => ?_
  have K0 := Lib.hid (F2.start hN hW)
  clear hW hN
  go_cut [5] (fun v wx => v = .bool (apartP a b) ∧ Hid (F2 N a b w wx))
  case first =>
    refine wp_region_keep (fun w' => Hid (F2 N a b w w')) (by kernel_rfl) (by kernel_rfl) (Lib.hid K0.out.drew) ?_
    clear K0
    repeat (first | (refine wpI_one (by rfl) (fun w1 hS => by (have q1 := hS.out.c1; have q2 := hS.out.c2; unfold ppCells at q1 q2; go_simp; first | exact ⟨rfl, hS⟩ | exact rfl | (refine (pend_any _ _ (by assumption)).mono ?_; rintro e w4 ⟨rfl, hf4⟩; exact ⟨rfl, Lib.hid (hS.out.trans hf4)⟩))) (fun K hK => ?_); go_simp; refine hK _ ?_; clear hK K) | (refine wpI_skip (by rfl) (fun K hK => ?_); go_simp; refine hK _ ?_; clear hK K))
    have hap : apartP a b = (decide (a.end ≤ b.from) || decide (b.end ≤ a.from)) := rfl
    have HAP := Lib.hid hap
    clear hap
    generalize hx : decide (a.end ≤ b.from) = x
    have HX := Lib.hid hx
    clear hx
    cases x
    all_goals
      repeat (first | (refine wpI_one (by rfl) (fun w1 hS => by (have q1 := hS.out.c1; have q2 := hS.out.c2; unfold ppCells at q1 q2; go_simp; first | exact ⟨rfl, hS⟩ | exact rfl | (refine (pend_any _ _ (by assumption)).mono ?_; rintro e w4 ⟨rfl, hf4⟩; exact ⟨rfl, Lib.hid (hS.out.trans hf4)⟩))) (fun K hK => ?_); go_simp; refine hK _ ?_; clear hK K) | (refine wpI_skip (by rfl) (fun K hK => ?_); go_simp; refine hK _ ?_; clear hK K))
      refine wpI_nil ?_; intro w' hS
      go_wp2_with fail
      go_meet
      exact ⟨by rw [HAP.out, HX.out]; rfl, hS⟩
  case rest =>
    obtain ⟨rfl, hS0⟩ := hcut
    have hfit : fitP a b = (apartP a b && !(lastP a && lastP b) && (!lastP a || decide (b.end ≤ a.end)) && (!lastP b || decide (a.end ≤ b.end))) := rfl
    have HFIT := Lib.hid hfit
    clear hfit
    generalize hz : apartP a b = z at *
    have HZ := Lib.hid hz
    clear hz K0
    go_wp2_with fail
    refine wp_region_keep (fun w' => Hid (F2 N a b w w')) (by kernel_rfl) (by kernel_rfl) (Lib.hid hS0.out.drew) ?_
    clear hS0
    cases hla : lastP a
    all_goals cases hlb : lastP b
    all_goals rw [hla, hlb] at HFIT
    case' true.false =>
      cases hx3 : decide (b.end ≤ a.end)
      all_goals
        rw [hx3] at HFIT
        have hx4 := (int_le b.end a.end).trans hx3
    all_goals cases z
    all_goals
      repeat (first | (refine wpI_one (by rfl) (fun w1 hS => by (have q1 := hS.out.c1; have q2 := hS.out.c2; unfold ppCells at q1 q2; go_simp; first | exact ⟨rfl, hS⟩ | exact rfl | (refine (pend_any _ _ (by assumption)).mono ?_; rintro e w4 ⟨rfl, hf4⟩; exact ⟨rfl, Lib.hid (hS.out.trans hf4)⟩) | (refine (plast_any _ _).mono ?_; rintro e w4 ⟨rfl, hf4⟩; exact ⟨rfl, Lib.hid (hS.out.trans hf4)⟩))) (fun K hK => ?_); go_simp; refine hK _ ?_; clear hK K) | (refine wpI_skip (by rfl) (fun K hK => ?_); go_simp; refine hK _ ?_; clear hK K))
      refine wpI_nil ?_; intro w' hS
      go_wp2_with fail
      go_ret
      exact ⟨by rw [HFIT.out]; first | rfl | simp, hS.out.fr⟩
end Go.Proofs.Ytlgjhacmhkbkdaa
