/- More words of this claim's own. -/
import Derived.Test.YtlgjhacmhkbkdaaBase
namespace Go.Proofs.Ytlgjhacmhkbkdaa
open Go.RowKit

/-- A call's world by a name. -/
theorem Calls.world {p : Program} {f : Nat} {args : Array Value} {W : World} {post : Ending → World → Prop} (h : ∀ W0, W0 = W → Calls p f args W0 post) : Calls p f args W post := h W rfl

theorem nat_xor_zero (a b : Nat) : a ^^^ b = 0 ↔ a = b := by
  constructor
  · intro h
    have h1 : (a ^^^ b) ^^^ b = b := by rw [h]; simp
    rw [Nat.xor_assoc] at h1; simpa using h1
  · rintro rfl; simp

/-- A block's cells stand behind a frame. -/
theorem Fr.cells {w w' : World} {S : List Nat} {b : Nat} {cs : Array Value} (hf : Fr S w w') (hc : ∀ k, w.cell? ⟨b, k, none⟩ = cs[k]?) (hb : b ∉ S) (h0 : 0 < cs.size) : ∀ k, w'.cell? ⟨b, k, none⟩ = cs[k]? := by
  have hlt := World.block_lt_of_cell? w _ ((hc 0).trans (by simp [h0] : cs[0]? = some cs[0]))
  intro k
  rw [← hc k]
  have h1 := hf.block b hlt hb
  simp only [World.cell?, h1]

/-- One cell stands behind a frame. -/
theorem Fr.cell {w w' : World} {S : List Nat} {b k : Nat} {v : Value} (hf : Fr S w w') (hc : w.cell? ⟨b, k, none⟩ = some v) (hb : b ∉ S) : w'.cell? ⟨b, k, none⟩ = some v := by
  have hlt := World.block_lt_of_cell? w _ hc
  rw [← hc]
  have h1 := hf.block b hlt hb
  simp only [World.cell?, h1]
end Go.Proofs.Ytlgjhacmhkbkdaa
