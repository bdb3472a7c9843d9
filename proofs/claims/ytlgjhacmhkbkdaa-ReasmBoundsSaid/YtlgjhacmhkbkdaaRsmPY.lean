/- reasm: the table once an entry is in it for good. -/
import Derived.Test.YtlgjhacmhkbkdaaRsmPX
namespace Go.Proofs.Ytlgjhacmhkbkdaa
open Go.RowKit

/-- What Add leaves. -/
def AddPost (bt bm : Nat) (ent byt life : Int) (E : List PEn) (a : List Ent × ByteArray × Nat) (w : World) (r : Ending) (w' : World) : Prop :=
  r = .returned (.tuple #[.string a.2.1, .int .i64 a.2.2]) ∧ Fr (ptFoot bt bm E) w w' ∧ ∃ E', PT bt bm ent byt life E' w' ∧ E'.map absE = a.1 ∧ (∀ i ∈ ptFoot bt bm E', i ∈ ptFoot bt bm E ∨ w.heap.size ≤ i)

theorem AddPost.same {bt bm : Nat} {ent byt life : Int} {E : List PEn} {a : List Ent × ByteArray × Nat} {w w' : World} (ha : a.1 = E.map absE) (hp : PT bt bm ent byt life E w) (hf : Fr [] w w') : AddPost bt bm ent byt life E a w (.returned (.tuple #[.string a.2.1, .int .i64 a.2.2])) w' :=
  ⟨rfl, hf.nil, E, hp.keep' hf, ha.symm, fun _ hg => .inl hg⟩

/-- Add with its entry in the map. -/
structure BS (bt bm n1 : Nat) (ent byt life tot : Int) (E : List PEn) (x : Pc) (A B : List PEn) (e : PEn) (w W : World) : Prop where
  bp : Blk W (n1 + 1) (ppCells x) 74
  px : PX bt bm ent byt life tot (A ++ e :: B) W
  fr : Fr (ptFoot bt bm E) w W
  n0 : w.heap.size ≤ n1
  new : ∀ i ∈ ptFoot bt bm (A ++ e :: B), i ≠ n1 + 1 ∧ (i ∈ ptFoot bt bm E ∨ w.heap.size ≤ i)

/-- What is known of it beside. -/
structure BX (ent byt life : Int) (E : List PEn) (x : Pc) (ok : Bool) (A B : List PEn) (e : PEn) : Prop where
  nx : nextX (E.map absE) x ok (absE e) = A.map absE ++ putE (absE e) x :: B.map absE
  few : (A ++ e :: B).length ≤ 64
  ok : ∀ y ∈ A ++ e :: B, ∀ p ∈ y.ps, p.ok
  age : ∀ y ∈ A ++ e :: B, 0 ≤ y.age ∧ y.age ≤ 1000
  size : sizeE (A ++ e :: B) = sizeE E
  room : (sizeE E : Int) + x.s.size ≤ byt
  lf : life ≤ 64
  se : ent ≤ 64
  sb : byt ≤ 1048576
  xo : x.ok
  inv : ∀ y ∈ A ++ e :: B, InvP y.ps

section
variable {bt bm n1 nk be : Nat} {ent byt life tot tot' : Int} {E A B : List PEn} {x : Pc} {e e' : PEn} {w W W' : World}

theorem BS.keep (h : BS bt bm n1 ent byt life tot E x A B e w W) (hf : Fr [] W W') : BS bt bm n1 ent byt life tot E x A B e w W' :=
  ⟨hf.keep h.bp (by simp), h.px.keep hf, h.fr.trans hf.nil, h.n0, h.new⟩

theorem ptFoot_old : bt ∈ ptFoot bt bm E ∧ bm ∈ ptFoot bt bm E := by simp [ptFoot]

theorem BS.bytes (h : BS bt bm n1 ent byt life tot E x A B e w W) (hf : Fr [bt] W W') (ht : Blk W' bt (tbCells ent byt life bm tot') 65) : BS bt bm n1 ent byt life tot' E x A B e w W' :=
  ⟨hf.keep h.bp (by simp; exact fun e2 => (h.new bt ptFoot_old.1).1 e2.symm), h.px.bytes hf ht, h.fr.trans (hf.mono (by intro i hi; simp at hi; rw [hi]; exact ptFoot_old.1)), h.n0, h.new⟩

theorem mid_mem {i : Nat} : i ∈ ptFoot bt bm (A ++ e :: B) ↔ i ∈ e.foot ∨ i ∈ ptFoot bt bm (A ++ B) := by
  rw [ptFoot_mid]; simp only [ptFoot, List.mem_cons, List.mem_append, List.flatMap_append]
  constructor
  · rintro (h | h | h | h | h) <;> simp [h]
  · rintro (h | h | h | h | h) <;> simp [h]

theorem BS.turn2 (h : BS bt bm n1 ent byt life tot E x A B e w W) (hf : Fr (bt :: e.foot) W W') (htb : Blk W' bt (tbCells ent byt life bm tot') 65) (hk : e'.key = e.key) (hbe : e'.be = e.be)
    (hen : Blk W' e'.be (enCells e'.v e'.done e'.age) 72) (hrow : Row W' 74 12 e'.v (e'.ps.map ppCells)) (hv : ∀ g, e'.v.ownBlock = some g → g ≠ e.be ∧ (e.v.ownBlock = some g ∨ W.heap.size ≤ g)) :
    BS bt bm n1 ent byt life tot' E x A B e' w W' := by
  have hfo : ∀ i ∈ bt :: e.foot, i ∈ ptFoot bt bm (A ++ e :: B) := fun i hi => (List.mem_cons.1 hi).elim (fun h => by rw [h]; exact ptFoot_old.1) fun hi => mid_mem.2 (.inl hi)
  have hlt := h.bp.lt
  have hs := h.fr.size
  refine ⟨hf.keep h.bp (fun hi => (h.new _ (hfo _ hi)).1 rfl), h.px.turn2 hf htb hk hbe hen hrow hv, h.fr.trans' hf (fun i hi => (h.new i (hfo i hi)).2), h.n0, fun i hi => ?_⟩
  rcases mid_mem.1 hi with hi | hi
  · simp only [PEn.foot, List.mem_cons, Option.mem_toList] at hi
    rcases hi with rfl | hi
    · exact h.new _ (hfo _ (by rw [hbe]; simp [PEn.foot]))
    · rcases (hv i hi).2 with h3 | h3
      · exact h.new _ (hfo _ (by simp [PEn.foot, h3]))
      · exact ⟨by omega, .inr (by omega)⟩
  · exact h.new _ (mid_mem.2 (.inr hi))

theorem BS.apart (h : BS bt bm n1 ent byt life tot E x A B e w W) : e.be ≠ bt ∧ ∀ g, e.v.ownBlock = some g → g ≠ bt ∧ g ≠ e.be := by
  have := (foot_apart h.px.nd).2 e (by simp)
  exact ⟨this.1, fun g hg => ⟨(this.2.2 g hg).1, (this.2.2 g hg).2.2⟩⟩

theorem BS.turn (h : BS bt bm n1 ent byt life tot E x A B e w W) (hf : Fr e.foot W W') (hk : e'.key = e.key) (hbe : e'.be = e.be)
    (hen : Blk W' e'.be (enCells e'.v e'.done e'.age) 72) (hrow : Row W' 74 12 e'.v (e'.ps.map ppCells)) (hv : ∀ g, e'.v.ownBlock = some g → g ≠ e.be ∧ (e.v.ownBlock = some g ∨ W.heap.size ≤ g)) :
    BS bt bm n1 ent byt life tot E x A B e' w W' := by
  refine h.turn2 (hf.mono fun i hi => List.mem_cons_of_mem _ hi) (hf.keep h.px.tb ?_) hk hbe hen hrow hv
  have hfa := h.apart
  simp only [PEn.foot, List.mem_cons, Option.mem_toList, not_or]
  exact ⟨hfa.1.symm, fun hb => (hfa.2 bt hb).1 rfl⟩

/-- A piece is appended. -/
theorem BS.app {k : Key} {v : Value} {ps : List Pc} {done : Bool} {age : Int} {g cap : Nat} {o : Obj} (h : BS bt bm n1 ent byt life tot E x A B ⟨k, be, v, ps, done, age⟩ w W)
    (hown : W'.ownsRow 0 74 12 (.slice (some ⟨g, 0, none⟩) (ps ++ [x]).length cap) (ps ++ [x]).length ((ps.map ppCells).flatMap Array.toList ++ (ppCells x).toList)) (hgrow : (W.alloc o).grownBy W' v.ownBlock)
    (hat : v.ownBlock = some g ∨ g = (W.alloc o).heap.size) :
    Blk W' be (enCells v done age) 72 ∧ Blk W' (n1 + 1) (ppCells x) 74 ∧ BS bt bm n1 ent byt life tot E x A B ⟨k, be, .slice (some ⟨g, 0, none⟩) (ps ++ [x]).length cap, ps ++ [x], done, age⟩ w (W'.setCell ⟨be, 0, none⟩ (.slice (some ⟨g, 0, none⟩) (ps ++ [x]).length cap)) := by
  have hf : Fr v.ownBlock.toList W W' := ((Fr.refl _ W).alloc o).trans (Fr.grown hgrow fun g hg => by simp [hg])
  have hfa := h.apart
  have hen := h.px.en _ (show (⟨k, be, v, ps, done, age⟩ : PEn) ∈ A ++ _ :: B by simp)
  have hrow := h.px.row _ (show (⟨k, be, v, ps, done, age⟩ : PEn) ∈ A ++ _ :: B by simp)
  have hb : Blk W' be (enCells v done age) 72 := hf.keep hen (by simp; exact fun e => (hfa.2 _ e).2 rfl)
  have hgb : g ≠ be := by
    rcases hat with h1 | h1
    · exact (hfa.2 g h1).2
    · have h2 : be < W.heap.size := hen.lt
      simp at h1; omega
  have hR : Row W' 74 12 (.slice (some ⟨g, 0, none⟩) (ps ++ [x]).length cap) ((ps ++ [x]).map ppCells) := by
    rw [List.map_append]
    exact Row.snoc hrow.1 rfl (by simpa using hown)
  refine ⟨hb, hf.keep h.bp (fun hi => ?_), h.turn (e' := ⟨k, be, .slice (some ⟨g, 0, none⟩) (ps ++ [x]).length cap, ps ++ [x], done, age⟩) ((hf.mono fun i hi => by simp only [PEn.foot]; exact List.mem_cons_of_mem _ hi).setCell _ _ (.inl (by simp [PEn.foot]))) rfl rfl (hb.set_to 0 _ rfl) (hR.keep ((Fr.refl [be] W').setCell _ _ (.inl (by simp))) (fun g' hg => ?_)) (fun g' hg => ?_)⟩
  · simp only [Option.mem_toList] at hi; exact (h.new (n1 + 1) (mid_mem.2 (.inl (by simp only [PEn.foot]; exact List.mem_cons_of_mem _ (by simpa using hi))))).1 rfl
  · cases hg; simpa using hgb
  · cases hg
    refine ⟨hgb, ?_⟩
    rcases hat with h1 | h1
    · exact .inl h1
    · right; show W.heap.size ≤ g; simp at h1; omega

/-- The pieces are sorted. -/
theorem BS.sorted {k : Key} {ps ps' : List Pc} {done : Bool} {age : Int} {g cap n : Nat} (h : BS bt bm n1 ent byt life tot E x A B ⟨k, be, .slice (some ⟨g, 0, none⟩) n cap, ps, done, age⟩ w W)
    (hrow : Row W' 74 12 (.slice (some ⟨g, 0, none⟩) n cap) (ps'.map ppCells)) (hf : Fr [g] W W') : BS bt bm n1 ent byt life tot E x A B ⟨k, be, .slice (some ⟨g, 0, none⟩) n cap, ps', done, age⟩ w W' := by
  have hfa := h.apart
  have hen := h.px.en _ (show (⟨k, be, .slice (some ⟨g, 0, none⟩) n cap, ps, done, age⟩ : PEn) ∈ A ++ _ :: B by simp)
  have hgb := hfa.2 g rfl
  exact h.turn (e' := ⟨k, be, .slice (some ⟨g, 0, none⟩) n cap, ps', done, age⟩) (hf.mono fun i hi => by simp at hi; simp [PEn.foot, Value.ownBlock, hi]) rfl rfl (hf.keep hen (by simp; exact fun e => hgb.2 e.symm)) hrow (fun g' hg => by cases hg; exact ⟨hgb.2, .inl rfl⟩)

/-- They are told. -/
theorem BS.finished {k : Key} {v : Value} {ps : List Pc} {done : Bool} {age : Int} (h : BS bt bm n1 ent byt life tot E x A B ⟨k, be, v, ps, done, age⟩ w W)
    (htb : Blk W' bt (tbCells ent byt life bm tot') 65) (hen : Blk W' be (enCells (.slice none 0 0) true age) 72) (hf : Fr [bt, be] W W') : BS bt bm n1 ent byt life tot' E x A B ⟨k, be, .slice none 0 0, [], true, age⟩ w W' :=
  h.turn2 (e' := ⟨k, be, .slice none 0 0, [], true, age⟩) (hf.mono fun i hi => by simp at hi; rcases hi with rfl | rfl <;> simp [PEn.foot]) htb rfl rfl hen (Row.nil _ _ _) (fun g hg => by cases hg)

theorem nextX_split (hk : e.key = keyH x.h) (hA : ∀ y ∈ A, y.key ≠ e.key) (hB : ∀ y ∈ B, y.key ≠ e.key) : nextX ((A ++ e :: B).map absE) x true (absE e) = A.map absE ++ putE (absE e) x :: B.map absE := by
  unfold nextX
  rw [if_pos rfl, List.map_append, List.map_append, List.map_cons, List.map_cons, if_pos (by exact hk)]
  congr 1
  · rw [List.map_map, List.map_inj_left]
    intro y hy
    have := hA y hy
    simp only [Function.comp]
    rw [if_neg (by rw [← hk]; exact this)]
  · congr 1
    rw [List.map_map, List.map_inj_left]
    intro y hy
    have := hB y hy
    simp only [Function.comp]
    rw [if_neg (by rw [← hk]; exact this)]

theorem AS.enter {ok : Bool} {v : Value} {ps : List Pc} {done : Bool} {age : Int} (hw : PT bt bm ent byt life E w) (h : AS bt bm n1 nk be ent byt life E x ok v ps done age w W) (hk : (keyH x.h).ok) (hx : x.ok)
    (hfull : fullX ent byt (E.map absE) x ok = false) :
    ∃ W', (Instr.mapUpdate 63 (.map (some bm)) (keyV (keyH x.h)) (.pointer (some ⟨be, 0, none⟩))).run Try.prog W = .ok () W' ∧
      ∃ A B, BX ent byt life E x ok A B ⟨keyH x.h, be, v, ps, done, age⟩ ∧ BS bt bm n1 ent byt life (sizeE E) E x A B ⟨keyH x.h, be, v, ps, done, age⟩ w W' := by
  have hlm : (E.map absE).length = E.length := List.length_map _
  have hsl : sizeL (E.map absE) = sizeE E := by simp [sizeL, sizeE, absE, Function.comp_def]
  have hmx : (mapE E).length < maxLen := by have := h.pt.few; simp [mapE]; unfold maxLen; omega
  unfold fullX at hfull
  rw [hlm, hsl] at hfull
  simp only [Bool.or_eq_false_iff, Bool.and_eq_false_iff, Bool.not_eq_false', decide_eq_false_iff_not] at hfull
  have hbp := h.bp.lt
  have hbm : bm ∈ ptFoot bt bm E := ptFoot_old.2
  have hlt := hw.foot_lt
  have hn0 := h.n0.1
  have hsz : sizeE E ≤ sizeE E := Nat.le_refl _
  rcases h.src with ⟨hok, he⟩ | ⟨hok, hbe, rfl, rfl, rfl, rfl, hnone⟩
  · have hg : mget (mapE E) (keyH x.h) = some be := by
      cases hc : mget (mapE E) (keyH x.h) with
      | none => exact absurd (rfl : keyH x.h = _) (mget_none hc (keyH x.h, be) (List.mem_map.2 ⟨_, he, rfl⟩))
      | some b =>
        have h1 := mget_some hc
        have hnd := h.pt.mp.nodup
        obtain ⟨e2, he2, hk2⟩ := List.mem_map.1 h1
        have hE := h.pt.keys
        obtain ⟨A, B, hAB, hA, hB⟩ := split_key E hE he
        rw [hAB] at he2
        simp only [Prod.mk.injEq] at hk2
        simp only [List.mem_append, List.mem_cons] at he2
        rcases he2 with h2 | h2 | h2
        · exact absurd hk2.1 (hA _ h2)
        · rw [← hk2.2, h2]
        · exact absurd hk2.1 (hB _ h2)
    obtain ⟨W', hrun, hm, hf⟩ := h.pt.mp.store_same (keyH x.h) be hk hg hmx
    obtain ⟨A, B, hAB, hA, hB⟩ := split_key E h.pt.keys he
    refine ⟨W', hrun, A, B, ⟨?_, ?_, ?_, ?_, ?_, by omega, hw.lf, hw.se, hw.sb, hx, ?_⟩, ?_⟩
    · rw [hAB, hok]; exact nextX_split rfl hA hB
    · rw [← hAB]; exact hw.few
    · rw [← hAB]; exact hw.ok
    · rw [← hAB]; exact hw.age
    · rw [← hAB]
    · rw [← hAB]; exact hw.inv
    · have hfa := foot_apart h.pt.nd
      refine ⟨hf.keep h.bp (by simp; have := hlt _ hbm; omega), ?_, h.fr.nil.trans (hf.mono (by intro i hi; simp at hi; rw [hi]; exact hbm)), hn0, ?_⟩
      · rw [← hAB]
        exact ⟨hf.keep h.pt.tb (by simp; exact hfa.1), hm, fun y hy => hf.keep (h.pt.en y hy) (by simp; exact (hfa.2 y hy).2.1), fun y hy => (h.pt.row y hy).keep hf (fun g hg => by simp; exact ((hfa.2 y hy).2.2 g hg).2.1), h.pt.nd⟩
      · rw [← hAB]
        intro i hi
        exact ⟨by have := hlt _ hi; omega, .inl hi⟩
  · obtain ⟨W', hrun, hm, hf⟩ := h.pt.mp.store_new (keyH x.h) be hk hnone hmx
    have hfa := foot_apart h.pt.nd
    have hbe2 : ∀ i ∈ ptFoot bt bm E, i ≠ be := fun i hi => by have := hlt i hi; have := h.n0.2; omega
    refine ⟨W', hrun, E, [], ⟨?_, ?_, ?_, ?_, ?_, by omega, hw.lf, hw.se, hw.sb, hx, ?_⟩, ?_⟩
    · rw [hok]; rfl
    · have := hw.se
      rcases hfull.1 with h1 | h1
      · rw [hok] at h1; cases h1
      · simp; omega
    · intro y hy p hp
      rcases List.mem_append.1 hy with hy | hy
      · exact hw.ok y hy p hp
      · simp at hy; subst hy; cases hp
    · intro y hy
      rcases List.mem_append.1 hy with hy | hy
      · exact hw.age y hy
      · simp at hy; subst hy; show (0 : Int) ≤ 0 ∧ (0 : Int) ≤ 1000; omega
    · rw [sizeE_append, sizeE_cons]; simp [sizeE, sumP]
    · intro y hy
      rcases List.mem_append.1 hy with hy | hy
      · exact hw.inv y hy
      · simp at hy; subst hy; exact InvP.nil
    · refine ⟨hf.keep h.bp (by simp; have := hlt _ hbm; omega), ⟨hf.keep h.pt.tb (by simp; exact hfa.1), by rw [mapE_append]; exact hm, fun y hy => ?_, fun y hy => ?_, ?_⟩, h.fr.nil.trans (hf.mono (by intro i hi; simp at hi; rw [hi]; exact hbm)), hn0, ?_⟩
      · rcases List.mem_append.1 hy with hy | hy
        · exact hf.keep (h.pt.en y hy) (by simp; exact (hfa.2 y hy).2.1)
        · simp at hy; subst hy
          exact hf.keep h.en (by simp; exact fun e2 => hbe2 bm hbm e2.symm)
      · rcases List.mem_append.1 hy with hy | hy
        · exact (h.pt.row y hy).keep hf (fun g hg => by simp; exact ((hfa.2 y hy).2.2 g hg).2.1)
        · simp at hy; subst hy; exact Row.nil _ _ _
      · have hnd := h.pt.nd
        have e1 : ptFoot bt bm (E ++ [⟨keyH x.h, be, .slice none 0 0, [], false, 0⟩]) = ptFoot bt bm E ++ [be] := by simp [ptFoot, PEn.foot, Value.ownBlock]
        rw [e1, List.nodup_append]
        exact ⟨hnd, by simp, fun a ha b hb hab => hbe2 a ha (by simp at hb; rw [hab, hb])⟩
      · intro i hi
        have e1 : ptFoot bt bm (E ++ [⟨keyH x.h, be, .slice none 0 0, [], false, 0⟩]) = ptFoot bt bm E ++ [be] := by simp [ptFoot, PEn.foot, Value.ownBlock]
        rw [e1] at hi
        rcases List.mem_append.1 hi with hi | hi
        · exact ⟨by have := hlt _ hi; omega, .inl hi⟩
        · simp at hi; have := h.n0.2; exact ⟨by omega, .inr (by omega)⟩

/-- Add is through. -/
theorem BS.done {ok : Bool} {t : ByteArray} {e0 : Ent} (h : BS bt bm n1 ent byt life tot E x A B e' w W) (hx : BX ent byt life E x ok A B e) (he : absE e' = putE (absE e) x) (he0 : absE e = e0) (hp : ∀ p ∈ e'.ps, p.ok) (hi : InvP e'.ps) (ha : e'.age = e.age)
    (ht : tot = sizeE (A ++ e' :: B)) (hle : (sizeE (A ++ e' :: B) : Int) ≤ byt) (hadd : addP ent byt (E.map absE) t = (nextX (E.map absE) x ok e0, tellE e0 x)) {r : Ending} (hr : r = .returned (.tuple #[.string (tellE e0 x).1, .int .i64 (tellE e0 x).2])) :
    AddPost bt bm ent byt life E (addP ent byt (E.map absE) t) w r W := by
  subst ht he0
  have hAB : ∀ y ∈ A ++ e' :: B, y = e' ∨ y ∈ A ++ e :: B := by
    intro y hy
    simp only [List.mem_append, List.mem_cons] at hy ⊢
    rcases hy with h | h | h
    · exact .inr (.inl h)
    · exact .inl h
    · exact .inr (.inr (.inr h))
  have hee := hx.age e (by simp)
  refine ⟨by rw [hadd]; exact hr, h.fr, A ++ e' :: B, ⟨h.px.tb, h.px.mp, h.px.en, h.px.row, h.px.nd, ?_, ?_, ?_, ?_, hx.lf, hx.se, hx.sb, ?_⟩, ?_, fun i hi => (h.new i hi).2⟩
  · intro y hy
    rcases hAB y hy with rfl | hy
    · exact hp
    · exact hx.ok y hy
  · have := hx.few; simpa using this
  · have := hx.sb; omega
  · intro y hy
    rcases hAB y hy with rfl | hy
    · rw [ha]; exact hee
    · exact hx.age y hy
  · intro y hy
    rcases hAB y hy with rfl | hy
    · exact hi
    · exact hx.inv y hy
  · rw [hadd, hx.nx, List.map_append, List.map_cons, he]
end

theorem pfinish_made (bt be bm : Nat) (ent byt life tot : Int) (v : Value) (done : Bool) (age : Int) (l : List Pc) (w : World)
    (htb : Blk w bt (tbCells ent byt life bm tot) 65) (hen : Blk w be (enCells v done age) 72) (hrow : Row w 74 12 v (l.map ppCells))
    (hne : bt ≠ be) (hnv : ∀ g, v.ownBlock = some g → g ≠ bt ∧ g ≠ be) (hl : l ≠ []) (hok : ∀ p ∈ l, p.ok) (ht0 : (sumP l : Int) ≤ tot) (ht1 : tot ≤ 1048576) :
    Calls Try.prog 39 #[.pointer (some ⟨bt, 0, none⟩), .pointer (some ⟨be, 0, none⟩)] w fun e w' =>
      e = .returned (.tuple #[.string (madeP l).1, .int .i64 (madeP l).2]) ∧
      Blk w' bt (tbCells ent byt life bm (tot - sumP l)) 65 ∧ Blk w' be (enCells (.slice none 0 0) true age) 72 ∧ Fr [bt, be] w w' :=
  pfinish_any bt be bm ent byt life tot v done age l w htb hen hrow hne hnv hl hok ht0 ht1
end Go.Proofs.Ytlgjhacmhkbkdaa
