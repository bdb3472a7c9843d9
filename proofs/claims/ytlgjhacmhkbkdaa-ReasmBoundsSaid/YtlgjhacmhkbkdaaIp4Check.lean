/- ip4.Check. -/
import Derived.Test.YtlgjhacmhkbkdaaProg
import Derived.Test.YtlgjhacmhkbkdaaBase
import Derived.Test.YtlgjhacmhkbkdaaPlain
namespace Go.Proofs.Ytlgjhacmhkbkdaa
open Go.RowKit

/-- The cells of pairs. -/
def pairCells (L : List (Int × Int)) : List Value := L.flatMap fun x => [.int .i64 x.1, .int .i64 x.2]

theorem pairCells_get : ∀ (L : List (Int × Int)) (i : Nat) (h : i < L.length), (pairCells L)[2 * i]? = some (.int .i64 L[i].1) ∧ (pairCells L)[2 * i + 1]? = some (.int .i64 L[i].2)
  | x :: L, 0, _ => by simp [pairCells]
  | x :: L, i + 1, h => by
    have ih := pairCells_get L i (by simpa using h)
    have e : pairCells (x :: L) = .int .i64 x.1 :: .int .i64 x.2 :: pairCells L := by simp [pairCells]
    rw [e, show 2 * (i + 1) = 2 * i + 1 + 1 by omega]
    simpa using ih

def oddChain : List PanicEntry := [{ v := .iface 147 (.agg #[]), recovered := false }]

def inPair (x : Int × Int) : Bool := decide (0 ≤ x.1) && decide (x.1 ≤ x.2)

def allIn (L : List (Int × Int)) : Bool := L.all inPair

set_option maxRecDepth 100000 in
set_option maxHeartbeats 1000000 in
theorem within_any (L : List (Int × Int)) (b cap : Nat) (w : World) (hb : Blk w b (pairCells L).toArray 61) (hn : L.length < 1000) :
    Calls Try.prog 92 #[.slice (some ⟨b, 0, none⟩) L.length cap] w fun e w' => Fr [] w w' ∧ ((allIn L = true ∧ e = .returned (.tuple #[])) ∨ (allIn L = false ∧ e = .panicked oddChain)) := by
  have HB := Lib.hid hb
  clear hb
  go_enter Try.func92, Try.ntmps92
  go_wp2_with fail
  go_loopw [6] (fun i wr => ∃ k : Nat, k ≤ L.length ∧ i = .int .i64 k ∧ Hid (allIn (L.take k) = true ∧ Fr [] w wr)) (fun i _ => L.length - (intOf i).toNat)
  case atStart => exact ⟨0, Nat.zero_le _, rfl, rfl, Fr.refl _ _⟩
  case round =>
    obtain ⟨k, hk, rfl, HI⟩ := hrel
    by_cases hlt : k < L.length
    · have hbr := HI.out.2.keep HB.out (by simp)
      have hg := pairCells_get L k hlt
      have c0 : wr.cell? ⟨b, k * 2, none⟩ = some (.int .i64 L[k].1) := by rw [hbr.cell, Nat.mul_comm]; simpa using hg.1
      have c1 : wr.cell? ⟨b, k * 2 + 1, none⟩ = some (.int .i64 L[k].2) := by rw [hbr.cell, Nat.mul_comm]; simpa using hg.2
      have hx : ∀ x, x = L[k] → allIn (L.take (k + 1)) = inPair x := by
        intro x hx; subst hx
        have hh := HI.out.1; rw [allIn] at hh ⊢; rw [List.take_succ_eq_append_getElem hlt, List.all_append, hh]; simp
      have hall : ∀ x, x = L[k] → inPair x = false → allIn L = false := by
        intro x hx h; subst hx
        rw [allIn, List.all_eq_false]; exact ⟨_, List.getElem_mem hlt, by simpa using h⟩
      generalize L[k] = x at *
      obtain ⟨x0, x1⟩ := x
      have HX := Lib.hid (And.intro (hx _ rfl) (hall _ rfl))
      clear hx hall hbr hg
      simp only at c0 c1
      by_cases h0 : 0 ≤ x0
      · by_cases h1 : x0 ≤ x1
        · have d0 : decide (x0 < 0) = false := by simp; omega
          have d1 : decide (x1 < x0) = false := by simp; omega
          have hr : inPair (x0, x1) = true := by simp [inPair, h0, h1]
          have HK := Lib.hid (And.intro (HX.out.1.trans hr) HI.out.2)
          clear HX hr HI
          go_wp2_with fail
          exact ⟨⟨k + 1, by omega, by go_num, HK.out.1, HK.out.2.alloc _⟩, by simp [intOf]; omega⟩
        · have d0 : decide (x0 < 0) = false := by simp; omega
          have d1 : decide (x1 < x0) = true := by simp; omega
          have hr : inPair (x0, x1) = false := by simp [inPair, h1]
          have HK := Lib.hid (And.intro (HX.out.2 hr) HI.out.2)
          clear HX hr HI
          go_wp2_with fail
          exact ⟨rfl, HK.out.2.alloc _, .inr ⟨HK.out.1, rfl⟩⟩
      · have d0 : decide (x0 < 0) = true := by simp; omega
        have hr : inPair (x0, x1) = false := by simp [inPair, h0]
        have HK := Lib.hid (And.intro (HX.out.2 hr) HI.out.2)
        clear HX hr HI
        go_wp2_with fail
        exact ⟨rfl, HK.out.2.alloc _, .inr ⟨HK.out.1, rfl⟩⟩
    · obtain rfl : k = L.length := by omega
      rw [List.take_length] at HI
      go_wp2_with fail
      go_end0
      exact ⟨HI.out.2, .inl ⟨HI.out.1, rfl⟩⟩
end Go.Proofs.Ytlgjhacmhkbkdaa
