/- law 16: what Add keeps, in plain words. -/
import Derived.Test.YtlgjhacmhkbkdaaRsmPY
namespace Go.Proofs.Ytlgjhacmhkbkdaa
open Go.RowKit

def openL (L : List Ent) : Nat := (L.filter fun e => !e.done).length
theorem openE_abs (E : List PEn) : openE E = openL (E.map absE) := by
  unfold openE openL
  rw [List.filter_map, List.length_map]; rfl
theorem sizeE_abs (E : List PEn) : sizeE E = sizeL (E.map absE) := by simp [sizeL, sizeE, absE, Function.comp_def]

structure LI (ent byt : Int) (L : List Ent) : Prop where
  len : (L.length : Int) ≤ ent
  size : (sizeL L : Int) ≤ byt
  hd : ∀ e ∈ L, ∀ p ∈ e.ps, hdrOk p.h = true
  keys : (L.map Ent.key).Nodup

theorem ip4get_hdrOk {t : ByteArray} (h : (ip4get t).2.2 = 0) : hdrOk (ip4get t).1 = true := by
  have he : ip4err t = 0 := by
    unfold ip4get at h
    by_cases h0 : ip4err t = 0
    · exact h0
    · rw [if_neg h0] at h; exact absurd h h0
  have hg : ip4get t = (ip4hdr t, ip4pay t, 0) := by unfold ip4get; rw [if_pos he]
  rw [hg]
  have hl : ¬ t.size < 20 ∧ ¬ (hlen t < 20 ∨ t.size < hlen t ∨ num t 2 2 ≠ t.size) := by
    unfold ip4err at he
    by_cases c1 : t.size < 20
    · rw [if_pos c1] at he; cases he
    · rw [if_neg c1] at he
      by_cases c2 : num t 0 1 / 16 ≠ 4
      · rw [if_pos c2] at he; cases he
      · rw [if_neg c2] at he
        by_cases c3 : hlen t < 20 ∨ t.size < hlen t ∨ num t 2 2 ≠ t.size
        · rw [if_pos c3] at he; cases he
        · exact ⟨c1, c3⟩
  have h60 : hlen t ≤ 60 ∧ hlen t % 4 = 0 := by unfold hlen; omega
  have n1 : num t 1 1 < 256 := val_take_lt (t.data.toList.drop 1) 1
  have n8 : num t 8 1 < 256 := val_take_lt (t.data.toList.drop 8) 1
  have n9 : num t 9 1 < 256 := val_take_lt (t.data.toList.drop 9) 1
  have n4 : num t 4 2 < 65536 := val_take_lt (t.data.toList.drop 4) 2
  unfold hdrOk ip4hdr
  simp only [Bool.and_eq_true, beq_iff_eq, decide_eq_true_eq, ByteArray.size_extract, allIn, List.all_cons, List.all_nil, inPair]
  refine ⟨⟨?_, ?_, ?_, ?_, ?_, trivial⟩, ⟨⟨?_, ?_⟩, ?_⟩, ?_⟩
  all_goals omega

theorem ip4put_tells {h : Hdr} (y : ByteArray) (hh : hdrOk h = true) : ((ip4put h y).2 = 0 ∧ (ip4put h y).1.size ≠ 0) ∨ ((ip4put h y).2 = 4 ∧ (ip4put h y).1 = ⟨#[]⟩) := by
  unfold ip4put
  rw [if_neg (by rw [hh]; exact Bool.noConfusion)]
  by_cases hz : 65535 < 20 + h.opts.size + y.size
  · rw [if_pos hz]; exact .inr ⟨rfl, rfl⟩
  · rw [if_neg hz]
    refine .inl ⟨rfl, ?_⟩
    show (_ ++ y).size ≠ 0
    rw [ByteArray.size_append]
    have : (hdrBytes h (20 + h.opts.size + y.size) (csum (hdrBytes h (20 + h.opts.size + y.size) 0))).length ≠ 0 := by
      rw [hdrBytes_length _ _ _ hh]; omega
    show (_ : List UInt8).toArray.size + y.size ≠ 0
    rw [List.size_toArray]; omega

theorem find_key {L : List Ent} {k : Key} {e : Ent} (h : L.find? (fun e => decide (e.key = k)) = some e) : e ∈ L ∧ e.key = k :=
  ⟨List.mem_of_find?_eq_some h, by simpa using List.find?_some h⟩

theorem split_ent {e : Ent} : ∀ (L : List Ent), (L.map Ent.key).Nodup → e ∈ L → ∃ A B, L = A ++ e :: B ∧ (∀ y ∈ A, y.key ≠ e.key) ∧ (∀ y ∈ B, y.key ≠ e.key)
  | [], _, h => by cases h
  | x :: r, hn, h => by
    simp only [List.map_cons, List.nodup_cons] at hn
    rcases List.mem_cons.1 h with h | h2
    · exact ⟨[], r, by rw [h]; rfl, by simp, fun y hy e2 => hn.1 (List.mem_map.2 ⟨y, hy, by rw [e2, h]⟩)⟩
    · obtain ⟨A, B, hAB, hA, hB⟩ := split_ent r hn.2 h2
      refine ⟨x :: A, B, by rw [hAB]; rfl, fun y hy => ?_, hB⟩
      rcases List.mem_cons.1 hy with rfl | hy
      · exact fun e2 => hn.1 (List.mem_map.2 ⟨e, h2, e2.symm⟩)
      · exact hA y hy

theorem nextX_mid {A B : List Ent} {e : Ent} {x : Pc} (hk : e.key = keyH x.h) (hA : ∀ y ∈ A, y.key ≠ e.key) (hB : ∀ y ∈ B, y.key ≠ e.key) : nextX (A ++ e :: B) x true e = A ++ putE e x :: B := by
  unfold nextX
  rw [if_pos rfl, List.map_append, List.map_cons, if_pos hk]
  congr 1
  · conv => rhs; rw [← List.map_id A]
    rw [List.map_inj_left]; intro y hy; rw [if_neg (by rw [← hk]; exact hA y hy)]; rfl
  · congr 1
    conv => rhs; rw [← List.map_id B]
    rw [List.map_inj_left]; intro y hy; rw [if_neg (by rw [← hk]; exact hB y hy)]; rfl

/-- The cases of an Add. -/
theorem addX_cases {ent byt : Int} {L : List Ent} {x : Pc} (hn : (L.map Ent.key).Nodup) :
    (∃ f, addX ent byt L x = (L, ⟨#[]⟩, f) ∧ f ≠ 0) ∨
    ∃ A B e, addX ent byt L x = (A ++ putE e x :: B, tellE e x) ∧ whyE e x = 0 ∧ (sizeL L : Int) + x.s.size ≤ byt ∧ e.key = keyH x.h ∧ (∀ y ∈ A, y.key ≠ e.key) ∧ (∀ y ∈ B, y.key ≠ e.key) ∧
      (L = A ++ e :: B ∨ (L = A ∧ B = [] ∧ e = newE (keyH x.h) ∧ (L.length : Int) < ent)) := by
  cases hf : L.find? (fun e => decide (e.key = keyH x.h)) with
  | some e =>
    have hx := addX_is (ent := ent) (byt := byt) (x := x) (ok := true) (.inl ⟨rfl, hf⟩)
    obtain ⟨he, hk⟩ := find_key hf
    by_cases h1 : whyE e x ≠ 0
    · rw [if_pos h1] at hx; exact .inl ⟨_, hx, h1⟩
    · rw [if_neg h1] at hx
      by_cases h2 : fullX ent byt L x true = true
      · rw [if_pos h2] at hx; exact .inl ⟨11, hx, by decide⟩
      · rw [if_neg h2] at hx
        obtain ⟨A, B, hAB, hA, hB⟩ := split_ent L hn he
        have hnx : nextX L x true e = A ++ putE e x :: B := by rw [hAB]; exact nextX_mid hk hA hB
        refine .inr ⟨A, B, e, by rw [hx, hnx], by omega, ?_, hk, hA, hB, .inl hAB⟩
        simp [fullX] at h2; omega
  | none =>
    have hx := addX_is (ent := ent) (byt := byt) (x := x) (ok := false) (.inr ⟨rfl, hf, rfl⟩)
    have h1 : whyE (newE (keyH x.h)) x = 0 := by simp [whyE, newE]
    rw [if_neg (by omega)] at hx
    by_cases h2 : fullX ent byt L x false = true
    · rw [if_pos h2] at hx; exact .inl ⟨11, hx, by decide⟩
    · rw [if_neg h2] at hx
      simp [fullX] at h2
      refine .inr ⟨L, [], newE (keyH x.h), hx, h1, by omega, rfl, fun y hy e2 => ?_, by simp, .inr ⟨rfl, rfl, rfl, by omega⟩⟩
      rw [List.find?_eq_none] at hf
      exact hf y hy (decide_eq_true (show y.key = keyH x.h from e2))

theorem sizeL_append (A B : List Ent) : sizeL (A ++ B) = sizeL A + sizeL B := by simp [sizeL]
theorem sizeL_cons (e : Ent) (B : List Ent) : sizeL (e :: B) = sumP e.ps + sizeL B := by simp [sizeL]

theorem putE_size (e : Ent) (x : Pc) : sumP (putE e x).ps ≤ sumP e.ps + x.s.size := by
  unfold putE
  split
  · simp [sumP]
  · dsimp only
    rw [sumP_perm (sortP_perm _), sumP_append]; simp [sumP]

theorem putE_mem {e : Ent} {x p : Pc} (h : p ∈ (putE e x).ps) : p ∈ e.ps ∨ p = x := by
  unfold putE at h
  split at h
  · cases h
  · have := (sortP_perm _).subset h
    simpa using this

theorem putE_key (e : Ent) (x : Pc) : (putE e x).key = e.key := by unfold putE; split <;> rfl

theorem tellE_tells {e : Ent} {x : Pc} (h : ∀ p ∈ e.ps ++ [x], hdrOk p.h = true) : ((tellE e x).2 = 0 ∧ (tellE e x).1.size ≠ 0) ∨ (((tellE e x).2 = 4 ∨ (tellE e x).2 = 10) ∧ (tellE e x).1 = ⟨#[]⟩) := by
  unfold tellE
  split
  · unfold madeP
    obtain ⟨y, l, hl⟩ : ∃ y l, sortP (e.ps ++ [x]) = y :: l := by
      cases hc : sortP (e.ps ++ [x]) with
      | nil => have := (sortP_perm (e.ps ++ [x])).length_eq; rw [hc] at this; simp at this
      | cons y l => exact ⟨y, l, rfl⟩
    rw [hl]
    have hy : hdrOk y.h = true := h y ((sortP_perm _).subset (by rw [hl]; simp))
    rcases ip4put_tells (h := { y.h with mf := false }) ⟨(allB (y :: l)).toArray⟩ hy with h1 | ⟨h1, h2⟩
    · exact .inl h1
    · exact .inr ⟨.inl h1, h2⟩
  · exact .inr ⟨.inr rfl, rfl⟩

/-- What Add keeps, and tells. -/
theorem addP_bounds {ent byt : Int} {L : List Ent} (h : LI ent byt L) (t : ByteArray) :
    LI ent byt (addP ent byt L t).1 ∧ (((addP ent byt L t).2.2 = 0 ∧ (addP ent byt L t).2.1.size ≠ 0) ∨ ((addP ent byt L t).2.2 ≠ 0 ∧ (addP ent byt L t).2.1 = ⟨#[]⟩)) ∧
    ((addP ent byt L t).2.2 ≠ 0 → (addP ent byt L t).2.2 ≠ 10 → (addP ent byt L t).2.2 ≠ 4 → (addP ent byt L t).1 = L) := by
  unfold addP
  by_cases h0 : (ip4get t).2.2 ≠ 0
  · rw [if_pos h0]; exact ⟨h, .inr ⟨h0, rfl⟩, fun _ _ _ => rfl⟩
  · rw [if_neg h0]
    have h0 : (ip4get t).2.2 = 0 := by omega
    by_cases h1 : oddP ⟨(ip4get t).1, (ip4get t).2.1⟩ = true
    · rw [if_pos h1]; exact ⟨h, .inr ⟨by simp, rfl⟩, fun _ _ h => absurd rfl h⟩
    · rw [if_neg h1]
      have hok := ip4get_hdrOk h0
      generalize hx : (⟨(ip4get t).1, (ip4get t).2.1⟩ : Pc) = x
      have hxh : hdrOk x.h = true := by rw [← hx]; exact hok
      rcases addX_cases (ent := ent) (byt := byt) (x := x) h.keys with ⟨f, hf, hf0⟩ | ⟨A, B, e, hf, hw, hr, hk, hA, hB, hL⟩
      · rw [hf]; exact ⟨h, .inr ⟨hf0, rfl⟩, fun _ _ _ => rfl⟩
      · rw [hf]
        have hep : ∀ p ∈ e.ps, hdrOk p.h = true := by
          rcases hL with hL | ⟨_, _, rfl, _⟩
          · exact h.hd e (by rw [hL]; simp)
          · intro p hp; cases hp
        have ht := tellE_tells (e := e) (x := x) (fun p hp => by
          rcases List.mem_append.1 hp with hp | hp
          · exact hep p hp
          · simp at hp; rw [hp]; exact hxh)
        have hps := putE_size e x
        refine ⟨⟨?_, ?_, fun y hy p hp => ?_, ?_⟩, ?_, ?_⟩
        · have hl := h.len
          rcases hL with hL | ⟨hL, hB', _, hlt⟩
          · rw [hL] at hl; simpa using hl
          · subst hB'; rw [hL] at hlt; simp; omega
        · show (sizeL (A ++ putE e x :: B) : Int) ≤ byt
          rw [sizeL_append, sizeL_cons]
          rcases hL with hL | ⟨hL, hB', he, _⟩
          · rw [hL, sizeL_append, sizeL_cons] at hr; omega
          · subst hB' he; rw [hL] at hr; simp only [newE, sumP, List.map_nil, List.sum_nil, sizeL] at hps hr ⊢; omega
        · rcases List.mem_append.1 hy with hy | hy
          · exact h.hd y (by rcases hL with hL | ⟨hL, _⟩ <;> rw [hL] <;> simp [hy]) p hp
          · rcases List.mem_cons.1 hy with rfl | hy
            · rcases putE_mem hp with hp | rfl
              · exact hep p hp
              · exact hxh
            · rcases hL with hL | ⟨_, hB', _⟩
              · exact h.hd y (by rw [hL]; simp [hy]) p hp
              · subst hB'; cases hy
        · have hkn := h.keys
          show ((A ++ putE e x :: B).map Ent.key).Nodup
          rw [List.map_append, List.map_cons, putE_key]
          rcases hL with hL | ⟨hL, hB', _⟩
          · rw [hL, List.map_append, List.map_cons] at hkn; exact hkn
          · subst hB' hL
            rw [List.nodup_append]
            refine ⟨hkn, by simp, fun a ha b hb hab => ?_⟩
            obtain ⟨y, hy, rfl⟩ := List.mem_map.1 ha
            simp at hb
            exact hA y hy (hab.trans hb)
        · rcases ht with h1 | ⟨h1, h2⟩
          · exact .inl h1
          · exact .inr ⟨by rcases h1 with h1 | h1 <;> (show (tellE e x).2 ≠ 0; omega), h2⟩
        · intro q1 q2 q3
          exfalso
          change (tellE e x).2 ≠ 0 at q1
          change (tellE e x).2 ≠ 10 at q2
          change (tellE e x).2 ≠ 4 at q3
          rcases ht with h1 | ⟨h1, h2⟩
          · exact q1 h1.1
          · omega
end Go.Proofs.Ytlgjhacmhkbkdaa
