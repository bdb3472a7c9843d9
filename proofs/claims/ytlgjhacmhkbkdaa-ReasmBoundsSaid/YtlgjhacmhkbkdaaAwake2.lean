/- law 16: awake. -/
import Derived.Test.YtlgjhacmhkbkdaaAwake1
import Derived.Test.YtlgjhacmhkbkdaaRef15b
namespace Go.Proofs.Ytlgjhacmhkbkdaa
open Go.RowKit

/-- A new table. -/
theorem PT.new {bt bm : Nat} {e b l : Int} {W : World} (hs : stoOk e b l = true) (ht : Blk W bt (tbCells e b l bm 0) 65) (hm : Mp bm [] W) (hne : bt ≠ bm) : PT bt bm e b l [] W := by
  unfold stoOk inS at hs
  simp only [Bool.and_eq_true, Bool.not_eq_true', decide_eq_false_iff_not] at hs
  exact ⟨ht, hm, by simp, by simp, by simp [ptFoot, hne], by simp, by simp, by simp [sizeE], by simp, by omega, by omega, by omega, by simp⟩

/-- A table, and a row of texts beside it. -/
structure AW (bt bm n2 : Nat) (ent byt life : Int) (v : Value) (l : List ByteArray) (E : List PEn) (w W : World) : Prop where
  pt : PT bt bm ent byt life E W
  row : Row W 9 1 v (l.map strC)
  fr : Fr [] w W
  new : ∀ i ∈ ptFoot bt bm E, n2 ≤ i
  old : ∀ g, v.ownBlock = some g → g < n2
  le : w.heap.size ≤ n2 ∧ n2 ≤ W.heap.size

theorem AW.keep {bt bm n2 : Nat} {ent byt life : Int} {v : Value} {l : List ByteArray} {E : List PEn} {w W W' : World} (h : AW bt bm n2 ent byt life v l E w W) (hf : Fr [] W W') : AW bt bm n2 ent byt life v l E w W' :=
  ⟨h.pt.keep' hf, h.row.keep' hf, h.fr.trans hf, h.new, h.old, h.le.1, Nat.le_trans h.le.2 hf.size⟩

theorem AW.step {bt bm n2 : Nat} {ent byt life : Int} {v : Value} {l : List ByteArray} {E E' : List PEn} {w W W' : World} (h : AW bt bm n2 ent byt life v l E w W) (hf : Fr (ptFoot bt bm E) W W') (hp : PT bt bm ent byt life E' W')
    (hn : ∀ i ∈ ptFoot bt bm E', i ∈ ptFoot bt bm E ∨ W.heap.size ≤ i) : AW bt bm n2 ent byt life v l E' w W' := by
  have hle := h.le
  refine ⟨hp, h.row.keep hf (fun g hg hi => ?_), h.fr.trans' hf (fun i hi => ?_), fun i hi => ?_, h.old, hle.1, Nat.le_trans hle.2 hf.size⟩
  · have := h.old g hg; have := h.new g hi; omega
  · have := h.new i hi; right; omega
  · rcases hn i hi with h1 | h1
    · exact h.new i h1
    · omega

set_option maxRecDepth 100000 in
set_option maxHeartbeats 2000000 in
theorem awake_any (w : World) : Calls Try.prog 9 #[] w fun e w' => e = .returned (.bool true) ∧ Fr [] w w' := by
  go_enter Try.func9, Try.ntmps9
  go_wp2_with fail
  refine (rput5_any awH awY _ (by decide) (by decide)).mono ?_
  rintro e w1 ⟨rfl, hf1⟩
  rw [aw_put]
  go_wp2_with fail
  refine (rcut_any awP 28 w1 (by decide)).mono ?_
  rintro e w2 ⟨v, rfl, hrow, hown, hf2⟩
  rw [aw_cut] at hrow ⊢
  obtain ⟨a, cp, rfl, hc1, hc2⟩ := hrow.shape
  obtain ⟨g, rfl, hg⟩ := hrow.at (by decide)
  have HR := Lib.hid (And.intro hrow (And.intro hg (hf1.trans hf2)))
  clear hrow hown hf1 hf2 hc1 hc2 hg
  simp only [List.length_map, List.length_cons, List.length_nil] at HR ⊢
  go_wp2_with fail
  refine (roomy_any w2).mono ?_
  rintro e w3 ⟨rfl, hf3⟩
  go_wp2_with fail
  refine (pnew_any 64 1048576 64 w3).mono ?_
  rintro e w4 ⟨hf4, h4⟩
  rcases h4 with ⟨h5, _⟩ | ⟨hs, bt, bm, rfl, hb, hm, l1, l2, hne⟩
  · exact absurd h5 (by decide)
  have hP := PT.new hs hb hm hne
  have hle := hf3.size
  have h4 : AW bt bm w2.heap.size 64 1048576 64 (.slice (some ⟨g, 0, none⟩) 2 cp) [awA, awB] [] w w4 :=
    ⟨hP, HR.out.1.keep' (hf3.trans hf4), (HR.out.2.2.trans hf3).trans hf4, by intro i hi; simp [ptFoot] at hi; omega, by intro g' hg'; cases hg'; exact HR.out.2.1, HR.out.2.2.size, (hf3.trans hf4).size⟩
  have H4 := Lib.hid h4
  have c4 : w4.cell? ⟨g, 1, none⟩ = some (.string awB) := H4.out.row.cell 1 (by decide) 0 (by decide)
  clear hP hle hs hb hm l1 l2 hne hf3 hf4 h4 HR
  generalize w2.heap.size = n2 at *
  go_wp2_with fail
  refine (padd_any bt bm 64 1048576 64 [] awB w4 H4.out.pt (by decide)).mono ?_
  rintro e w5 ⟨he, hf5, E5, hP5, hL5, hn5⟩
  have hb1 : addP 64 1048576 (([] : List PEn).map absE) awB = ([⟨awK, [awXB], false, 0⟩], ⟨#[]⟩, 10) := aw_add1
  rw [hb1] at he hL5
  dsimp only at hL5
  subst he
  have H5 := Lib.hid (H4.out.step hf5 hP5 hn5)
  have HL5 := Lib.hid hL5
  have c5 : w5.cell? ⟨g, 0, none⟩ = some (.string awA) := H5.out.row.cell 0 (by decide) 0 (by decide)
  clear c4 H4 hf5 hP5 hn5 hL5 hb1
  go_wp2_with fail
  refine (padd_any bt bm 64 1048576 64 E5 awA w5 H5.out.pt (by decide)).mono ?_
  rintro e w6 ⟨he, hf6, E6, hP6, hL6, hn6⟩
  rw [HL5.out, aw_add2] at he hL6
  dsimp only at hL6
  subst he
  have H6 := Lib.hid (H5.out.step hf6 hP6 hn6)
  have HL6 := Lib.hid hL6
  have c6 : w6.cell? ⟨g, 0, none⟩ = some (.string awA) := H6.out.row.cell 0 (by decide) 0 (by decide)
  clear c5 H5 hf6 hP6 hn6 hL6 HL5
  go_wp2_with fail
  refine (padd_any bt bm 64 1048576 64 E6 awA w6 H6.out.pt (by decide)).mono ?_
  rintro e w7 ⟨he, hf7, E7, hP7, hL7, hn7⟩
  rw [HL6.out, aw_add3] at he
  subst he
  have H7 := Lib.hid (H6.out.step hf7 hP7 hn7)
  clear c6 H6 hf7 hP7 hn7 hL7 HL6
  go_wp2_with fail
  go_ret
  exact ⟨rfl, H7.out.fr⟩
end Go.Proofs.Ytlgjhacmhkbkdaa
