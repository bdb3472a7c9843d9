/- reasm: Tick. -/
import Derived.Test.YtlgjhacmhkbkdaaRsm5
namespace Go.Proofs.Ytlgjhacmhkbkdaa
open Go.RowKit

/-- An entry, one tick older, if its key has come. -/
def tick1 (life : Int) (R : List Key) (e : PEn) : Option PEn :=
  if e.key ∈ R then some e else if e.age + 1 < life then some { e with age := e.age + 1 } else none

/-- The entries while those of R are still to come. -/
def tickE (life : Int) (E : List PEn) (R : List Key) : List PEn := E.filterMap (tick1 life R)

theorem filterMap_same {α β : Type} {f g : α → Option β} : ∀ (l : List α), (∀ x ∈ l, f x = g x) → l.filterMap f = l.filterMap g
  | [], _ => rfl
  | x :: r, h => by
    rw [List.filterMap_cons, List.filterMap_cons, h x (by simp), filterMap_same r (fun y hy => h y (by simp [hy]))]

theorem tickE_all (life : Int) (E : List PEn) (R : List Key) (h : ∀ e ∈ E, e.key ∈ R) : tickE life E R = E := by
  unfold tickE
  rw [filterMap_same (g := some) E (fun e he => by simp [tick1, h e he])]
  simp

section
variable {life : Int} {e : PEn} {R : List Key}

theorem tick1_other {x : PEn} (hn : R.Nodup) (hx : x.key ≠ e.key) : tick1 life (R.erase e.key) x = tick1 life R x := by
  unfold tick1
  simp [hn.mem_erase_iff, hx]

theorem tickE_other (hn : R.Nodup) : ∀ (E : List PEn), (∀ x ∈ E, x.key ≠ e.key) → tickE life E (R.erase e.key) = tickE life E R := by
  intro E h
  unfold tickE
  exact filterMap_same E (fun x hx => tick1_other hn (h x hx))

theorem tick1_key {x y : PEn} (h : tick1 life R x = some y) : y.key = x.key ∧ y.be = x.be ∧ y.v = x.v ∧ y.ps = x.ps ∧ y.done = x.done := by
  unfold tick1 at h
  split at h
  · cases h; exact ⟨rfl, rfl, rfl, rfl, rfl⟩
  · split at h
    · cases h; exact ⟨rfl, rfl, rfl, rfl, rfl⟩
    · cases h

theorem tickE_mem {E : List PEn} {y : PEn} (h : y ∈ tickE life E R) : ∃ x ∈ E, y.key = x.key ∧ y.be = x.be ∧ y.v = x.v ∧ y.ps = x.ps ∧ y.done = x.done ∧ (y.age = x.age ∨ y.age = x.age + 1 ∧ y.age < life) := by
  obtain ⟨x, hx, hxy⟩ := List.mem_filterMap.1 h
  obtain ⟨h1, h2, h3, h4, h5⟩ := tick1_key hxy
  refine ⟨x, hx, h1, h2, h3, h4, h5, ?_⟩
  unfold tick1 at hxy
  split at hxy
  · cases hxy; exact .inl rfl
  · split at hxy
    · cases hxy; exact .inr ⟨rfl, by assumption⟩
    · cases hxy

/-- A list with its entry of a key in front. -/
theorem split_key : ∀ (E : List PEn), (E.map PEn.key).Nodup → e ∈ E → ∃ A B, E = A ++ e :: B ∧ (∀ x ∈ A, x.key ≠ e.key) ∧ (∀ x ∈ B, x.key ≠ e.key)
  | [], _, h => by cases h
  | x :: r, hnd, h => by
    simp only [List.map_cons, List.nodup_cons] at hnd
    by_cases hx : x.key = e.key
    · have hxe : x = e := by
        rcases List.mem_cons.1 h with h | h
        · exact h.symm
        · exact absurd (List.mem_map.2 ⟨e, h, hx.symm⟩ : x.key ∈ r.map PEn.key) hnd.1
      subst hxe
      exact ⟨[], r, rfl, by simp, fun y hy e2 => hnd.1 (List.mem_map.2 ⟨y, hy, e2⟩)⟩
    · have hr : e ∈ r := by
        rcases List.mem_cons.1 h with h | h
        · exact absurd (by rw [h]) hx
        · exact h
      obtain ⟨A, B, rfl, hA, hB⟩ := split_key r hnd.2 hr
      refine ⟨x :: A, B, rfl, fun y hy => ?_, hB⟩
      rcases List.mem_cons.1 hy with rfl | hy
      · exact hx
      · exact hA y hy

/-- One that survives. -/
theorem tickE_stay {A B : List PEn} (hn : R.Nodup) (hR : e.key ∈ R) (hA : ∀ x ∈ A, x.key ≠ e.key) (hB : ∀ x ∈ B, x.key ≠ e.key) (hl : e.age + 1 < life) :
    tickE life (A ++ e :: B) R = tickE life A R ++ e :: tickE life B R ∧ tickE life (A ++ e :: B) (R.erase e.key) = tickE life A R ++ { e with age := e.age + 1 } :: tickE life B R := by
  have h1 := tickE_other (life := life) hn A hA
  have h2 := tickE_other (life := life) hn B hB
  have h3 : tick1 life R e = some e := by simp [tick1, hR]
  have h4 : tick1 life (R.erase e.key) e = some { e with age := e.age + 1 } := by simp [tick1, hn.mem_erase_iff, hl]
  unfold tickE at *
  refine ⟨by rw [List.filterMap_append, List.filterMap_cons_some h3], by rw [List.filterMap_append, List.filterMap_cons_some h4, h1, h2]⟩

/-- One that goes. -/
theorem tickE_go {A B : List PEn} (hn : R.Nodup) (hR : e.key ∈ R) (hA : ∀ x ∈ A, x.key ≠ e.key) (hB : ∀ x ∈ B, x.key ≠ e.key) (hl : ¬ e.age + 1 < life) :
    tickE life (A ++ e :: B) R = tickE life A R ++ e :: tickE life B R ∧ tickE life (A ++ e :: B) (R.erase e.key) = tickE life A R ++ tickE life B R := by
  have h1 := tickE_other (life := life) hn A hA
  have h2 := tickE_other (life := life) hn B hB
  have h3 : tick1 life R e = some e := by simp [tick1, hR]
  have h4 : tick1 life (R.erase e.key) e = none := by simp [tick1, hn.mem_erase_iff, hl]
  unfold tickE at *
  refine ⟨by rw [List.filterMap_append, List.filterMap_cons_some h3], by rw [List.filterMap_append, List.filterMap_cons_none h4, h1, h2]⟩

theorem mem_tickE_key {E : List PEn} {y : PEn} (h : y ∈ tickE life E R) : y.key ∈ E.map PEn.key := by
  obtain ⟨x, hx, hk, _⟩ := tickE_mem h
  exact List.mem_map.2 ⟨x, hx, hk.symm⟩

theorem mapE_go {A B : List PEn} (hA : ∀ x ∈ A, x.key ≠ e.key) (hB : ∀ x ∈ B, x.key ≠ e.key) : (mapE (A ++ e :: B)).filter (fun x => !decide (x.1 = e.key)) = mapE (A ++ B) := by
  unfold mapE
  rw [List.map_append, List.filter_append, List.map_cons, List.filter_cons_of_neg (by simp), List.map_append]
  congr 1
  · rw [List.filter_eq_self]
    intro x hx
    obtain ⟨y, hy, rfl⟩ := List.mem_map.1 hx
    simpa using hA y hy
  · rw [List.filter_eq_self]
    intro x hx
    obtain ⟨y, hy, rfl⟩ := List.mem_map.1 hx
    simpa using hB y hy

theorem sizeE_append (A B : List PEn) : sizeE (A ++ B) = sizeE A + sizeE B := by simp [sizeE]
theorem sizeE_cons (x : PEn) (B : List PEn) : sizeE (x :: B) = sumP x.ps + sizeE B := by simp [sizeE]
theorem mapE_append (A B : List PEn) : mapE (A ++ B) = mapE A ++ mapE B := by simp [mapE]
theorem mapE_cons (x : PEn) (B : List PEn) : mapE (x :: B) = (x.key, x.be) :: mapE B := by simp [mapE]
end
end Go.Proofs.Ytlgjhacmhkbkdaa
