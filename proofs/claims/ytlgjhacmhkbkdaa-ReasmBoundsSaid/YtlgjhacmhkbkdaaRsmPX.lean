/- reasm: the table with one entry in hand. -/
import Derived.Test.YtlgjhacmhkbkdaaRsm8
import Derived.Test.YtlgjhacmhkbkdaaRsm7
namespace Go.Proofs.Ytlgjhacmhkbkdaa
open Go.RowKit

/-- Add behind the look-up. -/
structure AS (bt bm n1 nk be : Nat) (ent byt life : Int) (E : List PEn) (x : Pc) (ok : Bool) (v : Value) (ps : List Pc) (done : Bool) (age : Int) (w W : World) : Prop where
  bh : Blk W n1 (hdrCells x.h) 43
  bp : Blk W (n1 + 1) (ppCells x) 74
  bk : Blk W nk (keyCells (keyH x.h)) 68
  pt : PT bt bm ent byt life E W
  en : Blk W be (enCells v done age) 72
  row : Row W 74 12 v (ps.map ppCells)
  fr : Fr [] w W
  n0 : w.heap.size ≤ n1 ∧ n1 + 1 < nk
  src : (ok = true ∧ (⟨keyH x.h, be, v, ps, done, age⟩ : PEn) ∈ E) ∨ (ok = false ∧ nk < be ∧ v = .slice none 0 0 ∧ ps = [] ∧ done = false ∧ age = 0 ∧ mget (mapE E) (keyH x.h) = none)

theorem AS.trans {bt bm n1 nk be : Nat} {ent byt life : Int} {E : List PEn} {x : Pc} {ok : Bool} {v : Value} {ps : List Pc} {done : Bool} {age : Int} {w W W' : World} (h : AS bt bm n1 nk be ent byt life E x ok v ps done age w W) (hf : Fr [] W W') :
    AS bt bm n1 nk be ent byt life E x ok v ps done age w W' :=
  ⟨hf.keep h.bh (by simp), hf.keep h.bp (by simp), hf.keep h.bk (by simp), h.pt.keep' hf, hf.keep h.en (by simp), h.row.keep' hf, h.fr.trans hf, h.n0, h.src⟩

theorem mget_mem {E : List PEn} {k : Key} {b : Nat} (h : mget (mapE E) k = some b) : ∃ e ∈ E, e.key = k ∧ e.be = b := by
  obtain ⟨e, he, hk⟩ := List.mem_map.1 (mget_some h)
  exact ⟨e, he, congrArg Prod.fst hk, congrArg Prod.snd hk⟩

theorem absE_find {E : List PEn} {k : Key} (hn : (E.map PEn.key).Nodup) : ∀ {e : PEn}, e ∈ E → e.key = k → (E.map absE).find? (fun e => decide (e.key = k)) = some (absE e) := by
  induction E with
  | nil => intro e h; cases h
  | cons y r ih =>
    intro e h hk
    simp only [List.map_cons, List.nodup_cons] at hn
    rw [List.map_cons]
    by_cases hy : y.key = k
    · have : y = e := by
        rcases List.mem_cons.1 h with h | h
        · exact h.symm
        · exact absurd (List.mem_map.2 ⟨e, h, by rw [hk, hy]⟩ : y.key ∈ r.map PEn.key) hn.1
      subst this
      rw [List.find?_cons_of_pos (by simp [absE, hy])]
    · rw [List.find?_cons_of_neg (by simp [absE, hy])]
      rcases List.mem_cons.1 h with h | h
      · exact absurd (by rw [← h]; exact hk) hy
      · exact ih hn.2 h hk

theorem absE_none {E : List PEn} {k : Key} (h : mget (mapE E) k = none) : (E.map absE).find? (fun e => decide (e.key = k)) = none := by
  rw [List.find?_eq_none]
  intro y hy
  obtain ⟨e, he, rfl⟩ := List.mem_map.1 hy
  have := mget_none h (e.key, e.be) (List.mem_map.2 ⟨e, he, rfl⟩)
  intro hdec
  exact this (of_decide_eq_true hdec)

theorem plike_enters : ∀ args w, (callFunc 32 args).run Try.prog w = .ok (.enter 32 args) w := enters_of Try.func32 (by kernel_rfl) rfl
theorem padda_enters : ∀ args w, (callFunc 33 args).run Try.prog w = .ok (.enter 33 args) w := enters_of Try.func33 (by kernel_rfl) rfl

theorem AS.oks {bt bm n1 nk be : Nat} {ent byt life : Int} {E : List PEn} {x : Pc} {ok : Bool} {v : Value} {ps : List Pc} {done : Bool} {age : Int} {w W : World} (h : AS bt bm n1 nk be ent byt life E x ok v ps done age w W) : ∀ o ∈ ps, o.ok := by
  intro o ho
  rcases h.src with ⟨_, he⟩ | ⟨_, _, _, hp, _⟩
  · exact h.pt.ok _ he o ho
  · rw [hp] at ho; cases ho


/-- The table, its bytes at hand. -/
structure PX (bt bm : Nat) (ent byt life tot : Int) (E : List PEn) (W : World) : Prop where
  tb : Blk W bt (tbCells ent byt life bm tot) 65
  mp : Mp bm (mapE E) W
  en : ∀ e ∈ E, Blk W e.be (enCells e.v e.done e.age) 72
  row : ∀ e ∈ E, Row W 74 12 e.v (e.ps.map ppCells)
  nd : (ptFoot bt bm E).Nodup

theorem PT.px {bt bm : Nat} {ent byt life : Int} {E : List PEn} {W : World} (h : PT bt bm ent byt life E W) : PX bt bm ent byt life (sizeE E) E W := ⟨h.tb, h.mp, h.en, h.row, h.nd⟩

theorem PX.keep {bt bm : Nat} {ent byt life tot : Int} {E : List PEn} {W W' : World} (h : PX bt bm ent byt life tot E W) (hf : Fr [] W W') : PX bt bm ent byt life tot E W' :=
  ⟨hf.keep h.tb (by simp), h.mp.keep hf (by simp), fun e he => hf.keep (h.en e he) (by simp), fun e he => (h.row e he).keep' hf, h.nd⟩

theorem ptFoot_mid (bt bm : Nat) (A B : List PEn) (e : PEn) : ptFoot bt bm (A ++ e :: B) = bt :: bm :: (A.flatMap PEn.foot ++ (e.foot ++ B.flatMap PEn.foot)) := by
  simp [ptFoot]

/-- The table's bytes turn. -/
theorem PX.bytes {bt bm : Nat} {ent byt life tot tot' : Int} {E : List PEn} {W W' : World} (h : PX bt bm ent byt life tot E W) (hf : Fr [bt] W W') (ht : Blk W' bt (tbCells ent byt life bm tot') 65) : PX bt bm ent byt life tot' E W' := by
  have hfa := foot_apart h.nd
  refine ⟨ht, h.mp.keep hf (by simp; exact fun e => hfa.1 e.symm), fun e he => hf.keep (h.en e he) (by simp; exact (hfa.2 e he).1), fun e he => (h.row e he).keep hf (fun g hg => by simp; exact ((hfa.2 e he).2.2 g hg).1), h.nd⟩

/-- One entry turns, and the bytes. -/
theorem PX.turn2 {bt bm : Nat} {ent byt life tot tot' : Int} {A B : List PEn} {e e' : PEn} {W W' : World} (h : PX bt bm ent byt life tot (A ++ e :: B) W) (hf : Fr (bt :: e.foot) W W') (htb : Blk W' bt (tbCells ent byt life bm tot') 65) (hk : e'.key = e.key) (hbe : e'.be = e.be)
    (hen : Blk W' e'.be (enCells e'.v e'.done e'.age) 72) (hrow : Row W' 74 12 e'.v (e'.ps.map ppCells)) (hv : ∀ g, e'.v.ownBlock = some g → g ≠ e.be ∧ (e.v.ownBlock = some g ∨ W.heap.size ≤ g)) :
    PX bt bm ent byt life tot' (A ++ e' :: B) W' := by
  have hfa := foot_apart h.nd
  have hfe := hfa.2 e (by simp)
  have hbm : ∀ b, b ∈ e.foot → b ≠ bt ∧ b ≠ bm := by
    intro b hb
    simp only [PEn.foot, List.mem_cons, Option.mem_toList] at hb
    rcases hb with rfl | hb
    · exact ⟨hfe.1, hfe.2.1⟩
    · exact ⟨(hfe.2.2 b hb).1, (hfe.2.2 b hb).2.1⟩
  have hxb : ∀ x ∈ A ++ B, ∀ i, i ∈ x.foot → i ≠ bt := by
    intro x hx i hi
    have hxf := hfa.2 x (by simp only [List.mem_append, List.mem_cons] at hx ⊢; rcases hx with h | h <;> simp [h])
    simp only [PEn.foot, List.mem_cons, Option.mem_toList] at hi
    rcases hi with rfl | hi
    · exact hxf.1
    · exact (hxf.2.2 i hi).1
  have hx : ∀ x ∈ A ++ B, ∀ i, i ∈ x.foot → i ∉ bt :: e.foot := fun x hx i hi hie => (List.mem_cons.1 hie).elim (hxb x hx i hi) fun hie => foot_two h.nd hx i hie hi
  have hfl : ∀ x ∈ A ++ e :: B, ∀ i ∈ x.foot, i < W.heap.size := by
    intro x hx i hi
    simp only [PEn.foot, List.mem_cons, Option.mem_toList] at hi
    rcases hi with rfl | hi
    · exact (h.en x hx).lt
    · exact (h.row x hx).lt hi
  have hm : mapE (A ++ e' :: B) = mapE (A ++ e :: B) := by simp [mapE, hk, hbe]
  have hAB : ∀ x ∈ A ++ e' :: B, x = e' ∨ x ∈ A ++ B := by
    intro x hx
    simp only [List.mem_append, List.mem_cons] at hx ⊢
    rcases hx with h | h | h
    · exact .inr (.inl h)
    · exact .inl h
    · exact .inr (.inr h)
  have hAB2 : ∀ x ∈ A ++ B, x ∈ A ++ e :: B := by
    intro x hx
    simp only [List.mem_append, List.mem_cons] at hx ⊢
    rcases hx with h | h
    · exact .inl h
    · exact .inr (.inr h)
  refine ⟨htb, by rw [hm]; exact h.mp.keep hf (fun hb => (List.mem_cons.1 hb).elim (fun e2 => hfa.1 e2.symm) fun hb => (hbm bm hb).2 rfl), fun x hxx => ?_, fun x hxx => ?_, ?_⟩
  · rcases hAB x hxx with rfl | hxx
    · exact hen
    · exact hf.keep (h.en x (hAB2 x hxx)) (hx x hxx x.be (by simp [PEn.foot]))
  · rcases hAB x hxx with rfl | hxx
    · exact hrow
    · exact (h.row x (hAB2 x hxx)).keep hf (fun g hg => hx x hxx g (by simp [PEn.foot, hg]))
  · have hnd := h.nd
    have h1 := h.tb.lt
    have h2 := h.mp.lt
    rw [ptFoot_mid] at hnd ⊢
    have hfoot : ∀ i ∈ e'.foot, i ∈ e.foot ∨ W.heap.size ≤ i := by
      intro i hi
      simp only [PEn.foot, List.mem_cons, Option.mem_toList] at hi
      rcases hi with rfl | hi
      · left; rw [hbe]; simp [PEn.foot]
      · rcases (hv i hi).2 with h3 | h3
        · left; simp [PEn.foot, h3]
        · exact .inr h3
    have hnd' : e'.foot.Nodup := by
      unfold PEn.foot
      cases hg : e'.v.ownBlock with
      | none => simp
      | some g => simp [hbe]; exact fun e2 => (hv g hg).1 e2.symm
    simp only [List.nodup_cons, List.nodup_append, List.mem_cons, List.mem_append, not_or, List.mem_flatMap, not_exists, not_and] at hnd ⊢
    obtain ⟨⟨n1, n2, n3, n4⟩, ⟨n5, n6, n7⟩, n8, ⟨n9, n10, n11⟩, n12⟩ := hnd
    have hA : ∀ x ∈ A, ∀ i ∈ x.foot, i < W.heap.size := fun x hx i hi => hfl x (by simp [hx]) i hi
    have hB : ∀ x ∈ B, ∀ i ∈ x.foot, i < W.heap.size := fun x hx i hi => hfl x (by simp [hx]) i hi
    refine ⟨⟨n1, n2, fun hb => ?_, n4⟩, ⟨n5, fun hb => ?_, n7⟩, n8, ⟨hnd', n10, ?_⟩, ?_⟩
    · rcases hfoot bt hb with h3 | h3
      · exact n3 h3
      · omega
    · rcases hfoot bm hb with h3 | h3
      · exact n6 h3
      · omega
    · intro a ha b hb hab
      obtain ⟨x, hxB, hxb⟩ := hb
      rcases hfoot a ha with h3 | h3
      · exact n11 a h3 b ⟨x, hxB, hxb⟩ hab
      · have := hB x hxB b hxb; omega
    · intro a ha b hb hab
      rcases hb with hb | hb
      · obtain ⟨x, hxA, hxa⟩ := ha
        rcases hfoot b hb with h3 | h3
        · exact n12 a ⟨x, hxA, hxa⟩ b (.inl h3) hab
        · have := hA x hxA a hxa; omega
      · exact n12 a ha b (.inr hb) hab

/-- One entry turns. -/
theorem PX.turn {bt bm : Nat} {ent byt life tot : Int} {A B : List PEn} {e e' : PEn} {W W' : World} (h : PX bt bm ent byt life tot (A ++ e :: B) W) (hf : Fr e.foot W W') (hk : e'.key = e.key) (hbe : e'.be = e.be)
    (hen : Blk W' e'.be (enCells e'.v e'.done e'.age) 72) (hrow : Row W' 74 12 e'.v (e'.ps.map ppCells)) (hv : ∀ g, e'.v.ownBlock = some g → g ≠ e.be ∧ (e.v.ownBlock = some g ∨ W.heap.size ≤ g)) :
    PX bt bm ent byt life tot (A ++ e' :: B) W' := by
  refine h.turn2 (hf.mono fun i hi => List.mem_cons_of_mem _ hi) (hf.keep h.tb ?_) hk hbe hen hrow hv
  have hfa := (foot_apart h.nd).2 e (by simp)
  simp only [PEn.foot, List.mem_cons, Option.mem_toList, not_or]
  exact ⟨hfa.1.symm, fun hb => (hfa.2.2 bt hb).1 rfl⟩
end Go.Proofs.Ytlgjhacmhkbkdaa
