/- reasm: what holds of an entry's pieces. -/
import Derived.Test.YtlgjhacmhkbkdaaRsm4
namespace Go.Proofs.Ytlgjhacmhkbkdaa
open Go.RowKit

structure InvP (l : List Pc) : Prop where
  odd : ∀ p ∈ l, oddP p = false
  two : l.Pairwise fun p q => fitP p q = true ∧ likeP p q = false

theorem InvP.nil : InvP [] := ⟨by simp, List.Pairwise.nil⟩

theorem likeP_symm (a b : Pc) : likeP a b = likeP b a := by
  unfold likeP
  rw [Bool.eq_iff_iff]
  simp only [Bool.and_eq_true, beq_iff_eq]
  exact ⟨fun ⟨⟨h1, h2⟩, h3⟩ => ⟨⟨h1.symm, h2.symm⟩, h3.symm⟩, fun ⟨⟨h1, h2⟩, h3⟩ => ⟨⟨h1.symm, h2.symm⟩, h3.symm⟩⟩

theorem fitP_symm (a b : Pc) : fitP a b = fitP b a := by
  unfold fitP apartP
  rw [Bool.or_comm (decide (a.end ≤ b.from)), Bool.and_comm (lastP a) (lastP b), Bool.and_assoc _ (!lastP a || decide (b.end ≤ a.end)), Bool.and_comm (!lastP a || decide (b.end ≤ a.end)), ← Bool.and_assoc]

theorem InvP.perm {l l' : List Pc} (h : InvP l) (hp : l'.Perm l) : InvP l' :=
  ⟨fun p hm => h.odd p (hp.subset hm), (hp.pairwise_iff (fun {a b} ⟨h1, h2⟩ => ⟨by rw [fitP_symm]; exact h1, by rw [likeP_symm]; exact h2⟩)).2 h.two⟩

theorem InvP.snoc {l : List Pc} {x : Pc} (h : InvP l) (hx : oddP x = false) (h1 : l.any (likeP x) = false) (h2 : l.any (fun o => !fitP x o) = false) : InvP (l ++ [x]) := by
  rw [List.any_eq_false] at h1 h2
  refine ⟨fun p hp => ?_, ?_⟩
  · rcases List.mem_append.1 hp with hp | hp
    · exact h.odd p hp
    · simp at hp; subst hp; exact hx
  · rw [List.pairwise_append]
    refine ⟨h.two, by simp, fun a ha b hb => ?_⟩
    simp at hb; subst hb
    rw [fitP_symm, likeP_symm]
    exact ⟨by simpa using h2 a ha, by simpa using h1 a ha⟩

theorem odd_empty {p : Pc} (h : oddP p = false) (h0 : p.s.size = 0) : p.from = 0 ∧ lastP p = true := by
  unfold oddP at h
  simp only [h0, Bool.or_eq_false_iff, Bool.and_eq_false_iff, decide_eq_false_iff_not] at h
  obtain ⟨⟨_, h1⟩, h2⟩ := h
  constructor
  · rcases h2 with h2 | h2
    · omega
    · simp at h2
  · rcases h1 with h1 | h1
    · simpa using h1
    · simp at h1

theorem toList_size0 {s : ByteArray} (h : s.size = 0) : s.toList = [] := by
  have := isEmpty_size s
  rw [h] at this
  simpa using this

theorem like_empty {p q : Pc} (hp : oddP p = false) (hq : oddP q = false) (h1 : p.s.size = 0) (h2 : q.s.size = 0) : likeP p q = true := by
  unfold likeP
  rw [(odd_empty hp h1).1, (odd_empty hq h2).1, (odd_empty hp h1).2, (odd_empty hq h2).2, toList_size0 h1, toList_size0 h2]
  rfl

theorem len_le (l : List Pc) : l.length ≤ sumP l + (l.filter fun p => p.s.size == 0).length := by
  induction l with
  | nil => simp
  | cons x r ih =>
    by_cases h : x.s.size = 0
    · rw [List.filter_cons_of_pos (by simp [h])]; simp [sumP] at *; omega
    · rw [List.filter_cons_of_neg (by simp [h])]; simp only [sumP, List.map_cons, List.sum_cons, List.length_cons] at ih ⊢; omega

theorem InvP.length {l : List Pc} (h : InvP l) : l.length ≤ sumP l + 1 := by
  have h1 := len_le l
  have h2 : (l.filter fun p => p.s.size == 0).length ≤ 1 := by
    have key : ∀ m : List Pc, (∀ p ∈ m, oddP p = false ∧ p.s.size = 0) → m.Pairwise (fun p q => fitP p q = true ∧ likeP p q = false) → m.length ≤ 1 := by
      intro m hm hp
      match m, hm, hp with
      | [], _, _ => simp
      | [_], _, _ => simp
      | a :: b :: _, hm, hp =>
        have ha := hm a (by simp)
        have hb := hm b (by simp)
        have := ((List.pairwise_cons.1 hp).1 b (by simp)).2
        rw [like_empty ha.1 hb.1 ha.2 hb.2] at this
        cases this
    exact key _ (fun p hp => ⟨h.odd p (List.mem_filter.1 hp).1, by simpa using (List.mem_filter.1 hp).2⟩) (h.two.sublist List.filter_sublist)
  omega

theorem sumP_perm {l l' : List Pc} (h : l'.Perm l) : sumP l' = sumP l := by
  unfold sumP
  exact (h.map _).sum_nat
theorem sumP_append (l l' : List Pc) : sumP (l ++ l') = sumP l + sumP l' := by simp [sumP]
end Go.Proofs.Ytlgjhacmhkbkdaa
