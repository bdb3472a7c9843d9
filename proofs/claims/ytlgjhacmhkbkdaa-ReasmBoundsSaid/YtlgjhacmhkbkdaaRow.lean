/- Rows of structs: a slice whose elements lie one behind the other, each of so many cells. -/
import Derived.Test.YtlgjhacmhkbkdaaReg
import Derived.Laws.OwnMore
import Derived.Deep.AppendLies
namespace Go.Proofs.Ytlgjhacmhkbkdaa
open Go.RowKit

/-- Slice v has the elements L, each of K cells. -/
def Row (W : World) (t : TypeId) (K : Nat) (v : Value) (L : List (Array Value)) : Prop :=
  (∀ c ∈ L, c.size = K) ∧ W.ownsRow 0 t K v L.length (L.flatMap Array.toList)

section
variable {W W' : World} {t : TypeId} {K : Nat} {v : Value} {L : List (Array Value)}

theorem flat_length (L : List (Array Value)) (h : ∀ c ∈ L, c.size = K) : (L.flatMap Array.toList).length = L.length * K := by
  induction L with
  | nil => simp
  | cons x r ih =>
    rw [List.flatMap_cons, List.length_append, ih (fun c hc => h c (List.mem_cons_of_mem _ hc)), Array.length_toList, h x (by simp), List.length_cons, Nat.succ_mul]
    omega

theorem flat_get (L : List (Array Value)) (h : ∀ c ∈ L, c.size = K) (i k : Nat) (hi : i < L.length) (hk : k < K) : (L.flatMap Array.toList)[i * K + k]? = (L[i])[k]? := by
  induction L generalizing i with
  | nil => simp at hi
  | cons x r ih =>
    have hx := h x (by simp)
    rw [List.flatMap_cons]
    cases i with
    | zero =>
      rw [List.getElem?_append_left (by simp [hx]; exact hk)]
      simp
    | succ i =>
      rw [List.getElem?_append_right (by simp [hx, Nat.succ_mul]; omega)]
      have := ih (fun c hc => h c (List.mem_cons_of_mem _ hc)) i (by simpa using hi)
      rw [← List.getElem_cons_succ] at this
      have e : (i + 1) * K + k - x.toList.length = i * K + k := by simp [hx, Nat.succ_mul]; omega
      rw [e, this]

theorem Row.nil (W : World) (t : TypeId) (K : Nat) : Row W t K (.slice none 0 0) [] := ⟨by simp, World.ownsRow_nil W 0 t K⟩

theorem Row.shape (h : Row W t K v L) : ∃ a cap, v = .slice a L.length cap ∧ L.length ≤ cap ∧ cap ≤ maxLen := by
  rcases h.2.2 with ⟨rfl, h0⟩ | ⟨g, cap, cur, rfl, _, _, hc, hm, _⟩
  · exact ⟨none, 0, by rw [h0], by omega, by unfold maxLen; omega⟩
  · exact ⟨_, cap, rfl, hc, hm⟩

theorem Row.at {a : Option Addr} {n cap : Nat} (h : Row W t K (.slice a n cap) L) (hn : 0 < n) : ∃ g, a = some ⟨g, 0, none⟩ ∧ g < W.heap.size := by
  rcases h.2.2 with ⟨e, _⟩ | ⟨g, cap', cur, e, _, hb, _⟩
  · cases e; omega
  · cases e; exact ⟨g, rfl, some_lt hb⟩

theorem Row.len {a : Option Addr} {n cap : Nat} (h : Row W t K (.slice a n cap) L) : n = L.length := by
  rcases h.2.2 with ⟨e, h0⟩ | ⟨g, cap', cur, e, _, hb, _⟩
  · cases e; exact h0.symm
  · cases e; rfl

theorem Row.cell {g n cap : Nat} (h : Row W t K (.slice (some ⟨g, 0, none⟩) n cap) L) (i : Nat) (hi : i < L.length) (k : Nat) (hk : k < K) : W.cell? ⟨g, i * K + k, none⟩ = (L[i])[k]? := by
  have hn := h.len
  subst hn
  have hlt : i * K + k < L.length * K := by
    have : (i + 1) * K ≤ L.length * K := Nat.mul_le_mul_right K hi
    rw [Nat.succ_mul] at this; omega
  rw [h.2.cellAt _ hlt, flat_get L h.1 i k hi hk]

theorem Row.free {g n cap : Nat} (h : Row W t K (.slice (some ⟨g, 0, none⟩) n cap) L) (j : Nat) : W.frozen? ⟨g, j, none⟩ = false := by
  have hn := h.len
  subst hn
  exact h.2.frozenAt j

theorem Row.lt (h : Row W t K v L) {g : Nat} (hg : v.ownBlock = some g) : g < W.heap.size := (h.2.lt g hg).2

/-- It stands while other blocks turn. -/
theorem Row.keep {S : List Nat} (h : Row W t K v L) (hf : Fr S W W') (hn : ∀ g, v.ownBlock = some g → g ∉ S) : Row W' t K v L := by
  refine ⟨h.1, h.2.1, ?_⟩
  rcases h.2.2 with h0 | ⟨g, cap, cur, e, hb, hg, r⟩
  · exact .inl h0
  · exact .inr ⟨g, cap, cur, e, hb, hf.get hg (hn g (by rw [e]; rfl)), r⟩

theorem Row.keep' (h : Row W t K v L) (hf : Fr [] W W') : Row W' t K v L := h.keep hf (by simp)

theorem Row.set {g n cap : Nat} (h : Row W t K (.slice (some ⟨g, 0, none⟩) n cap) L) (i k : Nat) (hi : i < L.length) (hk : k < K) (u : Value) :
    Row (W.setCell ⟨g, i * K + k, none⟩ u) t K (.slice (some ⟨g, 0, none⟩) n cap) (L.set i ((L[i]).setIfInBounds k u)) := by
  have hn := h.len
  subst hn
  have h1 := h.1
  have hs := h.2.stored (i * K + k) u
  refine ⟨fun c hc => ?_, ?_⟩
  · rcases List.mem_or_eq_of_mem_set hc with hc | rfl
    · exact h1 c hc
    · simp [h1 _ (List.getElem_mem hi)]
  · have e : (L.set i ((L[i]).setIfInBounds k u)).flatMap Array.toList = (L.flatMap Array.toList).set (i * K + k) u := by
      clear hs h
      induction L generalizing i with
      | nil => simp at hi
      | cons x r ih =>
        have hx := h1 x (by simp)
        cases i with
        | zero =>
          simp only [List.set_cons_zero, List.flatMap_cons, List.getElem_cons_zero, Nat.zero_mul, Nat.zero_add]
          rw [List.set_append_left _ _ (by simp [hx]; exact hk)]
          simp
        | succ i =>
          simp only [List.set_cons_succ, List.flatMap_cons, List.getElem_cons_succ]
          rw [List.set_append_right _ _ (by simp [hx, Nat.succ_mul]; omega), ih i (by simpa using hi) (fun c hc => h1 c (List.mem_cons_of_mem _ hc))]
          congr 2
          simp [hx, Nat.succ_mul]; omega
    rw [e, List.length_set]
    exact hs.1

/-- What an append leaves. -/
theorem Row.snoc {v' : Value} (h : ∀ c ∈ L, c.size = K) {c : Array Value} (hc : c.size = K) (ho : W'.ownsRow 0 t K v' (L.length + 1) (L.flatMap Array.toList ++ c.toList)) : Row W' t K v' (L ++ [c]) := by
  refine ⟨fun x hx => ?_, ?_⟩
  · rcases List.mem_append.1 hx with hx | hx
    · exact h x hx
    · simp at hx; subst hx; exact hc
  · simpa using ho
end

theorem Fr.grown {w w' : World} {row : Option Nat} (h : w.grownBy w' row) {S : List Nat} (hS : ∀ g, row = some g → g ∈ S) : Fr S w w' :=
  ⟨h.os, h.tape, h.output, h.size, fun k hk hn => h.block k hk (fun e => hn (hS k e.symm))⟩

theorem isEmpty_size (s : ByteArray) : s.toList.isEmpty = (s.size == 0) := by
  rw [ByteArray.toList_eq, Bool.eq_iff_iff]
  simp only [List.isEmpty_iff, beq_iff_eq, ← ByteArray.size_data, Array.toList_eq_nil_iff, Array.size_eq_zero_iff]

theorem int_beq (x y : Nat) : ((x : Int) == (y : Int)) = (x == y) := by rw [Bool.eq_iff_iff]; simp only [beq_iff_eq]; omega
theorem int_le (x y : Nat) : decide ((x : Int) ≤ (y : Int)) = decide (x ≤ y) := by rw [Bool.eq_iff_iff]; simp only [decide_eq_true_eq]; omega
theorem int_lt (x y : Nat) : decide ((x : Int) < (y : Int)) = decide (x < y) := by rw [Bool.eq_iff_iff]; simp only [decide_eq_true_eq]; omega

/-- A text's length. -/
def strLen : Value → Nat
  | .string s => s.size
  | _ => 0
end Go.Proofs.Ytlgjhacmhkbkdaa
