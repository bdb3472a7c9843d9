/- slices.SortFunc at pieces: the row holds them by their places. -/
import Derived.Test.YtlgjhacmhkbkdaaRsm2
import Derived.Test.YtlgjhacmhkbkdaaSortLay
namespace Go.Proofs.Ytlgjhacmhkbkdaa
open Go.RowKit Go.Sort

instance instPc : Inhabited Pc := ⟨⟨Hdr.zero, ⟨#[]⟩⟩⟩

def encP (p : Pc) : List Value := (ppCells p).toList
def cmpP (x y : Pc) : Int := cmpI x.from y.from

theorem ltP (x y : Pc) : ltOf cmpP x y = decide (x.from < y.from) := by
  unfold ltOf cmpP cmpI
  rw [Bool.eq_iff_iff]
  simp only [decide_eq_true_eq]
  split
  · simp; omega
  · split
    · simp; omega
    · simp; omega

theorem swoP : SWO (ltOf cmpP) where
  irrefl x := by rw [ltP]; simp
  trans x y z h1 h2 := by rw [ltP] at *; simp at *; omega
  ntrans x y z h1 h2 := by rw [ltP] at *; simp at *; omega

/-- Pieces, sorted as Go sorts them. -/
def sortP (l : List Pc) : List Pc := (pdq (ltOf cmpP) l.toArray 0 l.length (Lib.bitLen l.length) true true).toList

theorem sortP_perm (l : List Pc) : (sortP l).Perm l := by
  have h := pdq_sorts (ltOf cmpP) swoP l.toArray 0 l.toArray.size (Lib.bitLen l.toArray.size) true true (Nat.zero_le _) (Nat.le_refl _) (Or.inl rfl)
  have hg : (pdq (ltOf cmpP) l.toArray 0 l.toArray.size (Lib.bitLen l.toArray.size) true true).toList = sortP l := by simp [sortP]
  generalize pdq (ltOf cmpP) l.toArray 0 l.toArray.size (Lib.bitLen l.toArray.size) true true = d at h hg
  obtain ⟨h1, h2, h3⟩ := h.1
  rw [← hg]
  rw [Array.extract_size] at h3
  have e : d.extract 0 l.toArray.size = d := by rw [← h1]; exact Array.extract_size
  rw [e] at h3
  simpa using h3

theorem sortP_sorted (l : List Pc) : (sortP l).Pairwise (fun x y => x.from ≤ y.from) := by
  have h := pdq_sorts (ltOf cmpP) swoP l.toArray 0 l.toArray.size (Lib.bitLen l.toArray.size) true true (Nat.zero_le _) (Nat.le_refl _) (Or.inl rfl)
  have hl := (sortP_perm l).length_eq
  rw [List.pairwise_iff_getElem]
  intro i j hi hj hij
  have h2 := h.2 i j (Nat.zero_le _) hij (by simp; omega)
  simp only [sortP, Array.length_toList] at hi hj
  simp only [List.size_toArray] at h2
  rw [ltP, getElem!_pos _ i hi, getElem!_pos _ j hj] at h2
  simp only [sortP, Array.getElem_toList]
  simpa using h2

set_option maxRecDepth 100000 in
set_option maxHeartbeats 1000000 in
/-- Add's second closure, its world too. -/
theorem paddb_world (x y : Pc) (w : World) : Calls Try.prog 36 #[ppV x, ppV y] w fun e w' => e = .returned (.int .i64 (cmpP x y)) ∧ w' = (w.alloc (.cells (ppCells x) 74)).alloc (.cells (ppCells y) 74) := by
  obtain ⟨N, hN⟩ : ∃ N, N = w.heap.size := ⟨_, rfl⟩
  go_enter Try.func36, Try.ntmps36
  unfold ppV ppCells
  go_upto_region 1 with (fail)
  rw [← hN, ppV_lit x, ppV_lit y]
  refine Code.world fun W0 hW => ?_
  have hW1 : W0 = (w.alloc (.cells (ppCells x) 74)).alloc (.cells (ppCells y) 74) := hW
  have K0 := Lib.hid (F2.start hN hW1)
  clear hW hN
  have HW := Lib.hid hW1
  clear hW1
  refine wp_plain_keep (fun w' => Hid (w' = W0)) (Lib.hid rfl) ?_
  repeat (first | (refine wpI_one (by rfl) (fun w1 hS => by (have q0 := hS.out; have q1 := K0.out.c1; have q2 := K0.out.c2; rw [← q0] at q1 q2; clear q0; unfold ppCells at q1 q2; go_simp; first | exact ⟨rfl, hS⟩ | exact rfl | (refine (cmp_any _ _ _).mono ?_; rintro e w4 ⟨rfl, rfl⟩; exact ⟨rfl, hS⟩))) (fun K hK => ?_); go_simp; refine hK _ ?_; clear hK K) | (refine wpI_skip (by rfl) (fun K hK => ?_); go_simp; refine hK _ ?_; clear hK K))
  refine wpI_nil ?_; intro w' hS
  go_wp2_with fail
  go_ret
  exact ⟨rfl, hS.out.trans HW.out⟩

theorem paddb_lays (blk size : Nat) (w : World) : CmpLays Try.prog 36 #[] encP 12 cmpP blk 0 size w := by
  intro m os dk _ x y
  refine (paddb_world x y _).mono ?_
  rintro e w' ⟨rfl, rfl⟩
  exact ⟨rfl, 0, _, by rw [alloc_eq_grow, alloc_eq_grow, grow_grow]; rfl⟩

theorem paddb_enters : ∀ args w, (callFunc 36 args).run Try.prog w = .ok (.enter 36 args) w := enters_of Try.func36 (by kernel_rfl) rfl

theorem row_holds {w : World} {g cap : Nat} {l : List Pc} (h : Row w 74 12 (.slice (some ⟨g, 0, none⟩) l.length cap) (l.map ppCells)) : HoldsK encP 12 w g 0 l.toArray := by
  intro j hj
  rw [size_flatK] at hj
  simp only [List.size_toArray] at hj
  have hq : j / 12 < l.length := by omega
  have hc := h.cell (j / 12) (by simpa using hq) (j % 12) (by omega)
  have e : j / 12 * 12 + j % 12 = j := by omega
  rw [e] at hc
  refine ⟨?_, by rw [Nat.zero_add]; exact h.free j⟩
  rw [Nat.zero_add, hc, get_flatK _ _ _ _ (by simpa using hj)]
  have h1 : (l.toArray)[j / 12]! = l[j / 12] := by rw [getElem!_pos _ _ (by simpa using hq)]; simp
  rw [h1]
  have h2 : j % 12 < (ppCells l[j / 12]).size := by show j % 12 < 12; omega
  simp only [List.getElem_map, id]
  rw [Array.getElem?_eq_getElem h2]
  congr 1
  unfold encP
  rw [getElem!_pos _ _ (by simpa using h2)]
  simp

theorem holds_row {w w' : World} {g cap n : Nat} {l l' : List Pc} {os : Array Obj} (h : Row w 74 12 (.slice (some ⟨g, 0, none⟩) l.length cap) (l.map ppCells)) (hl : l'.length = l.length) (hw : w' = sortWorldK encP 12 w g 0 n l'.toArray os) :
    Row w' 74 12 (.slice (some ⟨g, 0, none⟩) l'.length cap) (l'.map ppCells) ∧ Fr [g] w w' := by
  have hlt := h.lt (g := g) rfl
  have hH := holdsK_sortWorldK_c encP 12 w g 0 l.toArray l'.toArray n os (row_holds h) hlt (by simpa using hl)
  rw [← hw] at hH
  rcases h.2.2 with ⟨e, _⟩ | ⟨g', cap', cur, e, _, hb, hc, hm, hs, ht⟩
  · cases e
  · simp only [Value.slice.injEq, Option.some.injEq, Addr.mk.injEq, and_true] at e
    obtain ⟨rfl, _, rfl⟩ := e
    rw [List.length_map] at hc
    have hb' : ∃ cur', w'.heap[g]? = some (.cells cur' 74 (0, 0)) ∧ cur'.size = cur.size := by
      refine ⟨putCells id 0 (flatK encP 12 l'.toArray) cur, ?_, by simp [putCells]⟩
      rw [hw]
      unfold sortWorldK putRowK putRow mapBlock grow Sort.ahead
      have h1 : g < (w.heap.modify g (onCells (putCells id 0 (flatK encP 12 l'.toArray)))).size := by simpa using hlt
      simp only
      rw [Array.getElem?_append_left h1, Array.getElem?_modify, if_pos rfl, hb]
      rfl
    obtain ⟨cur', hb1, hb2⟩ := hb'
    refine ⟨⟨?_, ?_, .inr ⟨g, cap, cur', by simp, Nat.zero_le _, hb1, by simpa [hl] using hc, hm, by rw [hb2]; exact hs, ?_⟩⟩, ?_⟩
    · intro c hc'
      obtain ⟨p, _, rfl⟩ := List.mem_map.1 hc'
      rfl
    · rw [flat_length (K := 12) _ (by intro c hc'; obtain ⟨p, _, rfl⟩ := List.mem_map.1 hc'; rfl)]
    · have hfl := flat_length (K := 12) (l'.map ppCells) (by intro c hc'; obtain ⟨p, _, rfl⟩ := List.mem_map.1 hc'; rfl)
      rw [List.length_map] at hfl
      apply List.ext_getElem?
      intro j
      by_cases hj : j < l'.length * 12
      · rw [List.length_map, List.getElem?_take_of_lt hj, Array.getElem?_toList]
        have hq : j / 12 < l'.length := by omega
        have h1 := (hH j (by rw [size_flatK]; simpa using hj)).1
        rw [Nat.zero_add, get_flatK _ _ _ _ (by simpa using hj)] at h1
        have h2 : w'.cell? ⟨g, j, none⟩ = cur'[j]? := by simp [World.cell?, hb1]
        rw [← h2, h1]
        have h3 := flat_get (K := 12) (l'.map ppCells) (by intro c hc'; obtain ⟨p, _, rfl⟩ := List.mem_map.1 hc'; rfl) (j / 12) (j % 12) (by simpa using hq) (by omega)
        rw [show j / 12 * 12 + j % 12 = j by omega] at h3
        rw [h3]
        have h4 : (l'.toArray)[j / 12]! = l'[j / 12] := by rw [getElem!_pos _ _ (by simpa using hq)]; simp
        have h5 : j % 12 < (ppCells l'[j / 12]).size := by show j % 12 < 12; omega
        rw [h4]
        simp only [List.getElem_map, id]
        rw [Array.getElem?_eq_getElem h5]
        congr 1
        unfold encP
        rw [getElem!_pos _ _ (by simpa using h5)]
        simp
      · rw [List.getElem?_eq_none (by rw [List.length_take, List.length_map]; omega), List.getElem?_eq_none (by rw [hfl]; omega)]
    · rw [hw]
      unfold sortWorldK putRowK putRow mapBlock grow Sort.ahead
      refine ⟨rfl, rfl, rfl, by simp, fun k hk hn => ?_⟩
      have h1 : k < (w.heap.modify g (onCells (putCells id 0 (flatK encP 12 l'.toArray)))).size := by simpa using hk
      simp only
      rw [Array.getElem?_append_left h1, Array.getElem?_modify, if_neg (fun e => hn (by simp [e]))]

set_option maxHeartbeats 1000000 in
theorem psort_any (g cap : Nat) (l : List Pc) (w : World) (h : Row w 74 12 (.slice (some ⟨g, 0, none⟩) l.length cap) (l.map ppCells)) (hn : l.length < 4611686018427387904) :
    Calls Try.prog 35 #[.slice (some ⟨g, 0, none⟩) l.length cap, .func (.func 36) #[] #[]] w fun e w' => e = .returned (.tuple #[]) ∧ Row w' 74 12 (.slice (some ⟨g, 0, none⟩) l.length cap) ((sortP l).map ppCells) ∧ Fr [g] w w' := by
  have hcon := AnyQ.slices_SortFunc_eq Try.sortPiece 12 Try.isAgg74 Try.sizeOf74 encP (fun _ => rfl) (fun x v hv => by simp [encP, ppCells] at hv; rcases hv with rfl | rfl | rfl | rfl | rfl | rfl | rfl | rfl | rfl | rfl | rfl | rfl <;> rfl) cmpP swoP 36 #[] g 0 cap l.toArray w paddb_enters (paddb_lays g _ w) (row_holds h) (h.lt rfl) (by simpa using hn)
  have hl := (sortP_perm l).length_eq
  rw [List.size_toArray] at hcon
  refine Calls.mono (show Calls Try.prog 35 _ _ _ from hcon) ?_
  rintro e w' ⟨rfl, n, os, hw⟩
  have hd : (sortP l).toArray = pdq (ltOf cmpP) l.toArray 0 l.length (Lib.bitLen l.length) true true := by simp [sortP]
  rw [← hd] at hw
  have := holds_row (l' := sortP l) (n := n) (os := os) h hl hw
  rw [hl] at this
  exact ⟨rfl, this.1, this.2⟩
end Go.Proofs.Ytlgjhacmhkbkdaa
