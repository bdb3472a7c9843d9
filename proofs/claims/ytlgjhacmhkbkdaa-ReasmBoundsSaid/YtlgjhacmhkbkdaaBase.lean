/- Words of this claim's own: memory by whole blocks, and frames. -/
import Derived.WalkKit
import Derived.WalkSpells
import Derived.WalkLawsBesides
import Derived.KernelRfl
import Derived.Lib.Hide
import Derived.Deep.QuietTactic
import Derived.BigQuiet
import Derived.Handy
namespace Go.Proofs.Ytlgjhacmhkbkdaa
open Go.RowKit

/-- A block of cells that is not frozen. -/
def Blk (w : World) (b : Nat) (cs : Array Value) (t : TypeId) : Prop := w.heap[b]? = some (.cells cs t (0, 0))

theorem some_lt {w : World} {b : Nat} {o : Obj} (h : w.heap[b]? = some o) : b < w.heap.size := by
  rcases Nat.lt_or_ge b w.heap.size with h1 | h1
  · exact h1
  · rw [Array.getElem?_eq_none h1] at h; cases h

section
variable {w w' : World} {b : Nat} {cs : Array Value} {t : TypeId}

theorem Blk.lt (h : Blk w b cs t) : b < w.heap.size := some_lt h

theorem Blk.cell (h : Blk w b cs t) (k : Nat) : w.cell? ⟨b, k, none⟩ = cs[k]? := by
  unfold Blk at h
  simp [World.cell?, h]

theorem Blk.free (h : Blk w b cs t) (k : Nat) : w.frozen? ⟨b, k, none⟩ = false := by
  unfold Blk at h
  simp [World.frozen?, h]

theorem Blk.new (w : World) (cs : Array Value) (t : TypeId) : Blk (w.alloc (.cells cs t (0, 0))) w.heap.size cs t := by
  show (w.heap.push _)[w.heap.size]? = _
  simp

theorem Blk.new_at {n : Nat} (hn : n = w.heap.size) (cs : Array Value) (t : TypeId) : Blk (w.alloc (.cells cs t (0, 0))) n cs t := by
  subst hn; exact Blk.new w cs t

theorem Blk.alloc (h : Blk w b cs t) (o : Obj) : Blk (w.alloc o) b cs t := by
  have := h.lt
  unfold Blk at *
  rw [Below.heap_alloc _ _ _ this]; exact h

theorem Blk.drew (h : Blk w b cs t) : Blk w.drew b cs t := h
theorem Blk.drewN (h : Blk w b cs t) (n : Nat) : Blk (w.drewN n) b cs t := h

theorem Blk.set (h : Blk w b cs t) (o : Nat) (v : Value) : Blk (w.setCell ⟨b, o, none⟩ v) b (cs.setIfInBounds o v) t := by
  unfold Blk at *
  simp [World.setCell, Array.getElem?_modify, h]

theorem Blk.set_to {cs' : Array Value} (h : Blk w b cs t) (o : Nat) (v : Value) (e : cs.setIfInBounds o v = cs') : Blk (w.setCell ⟨b, o, none⟩ v) b cs' t := by
  subst e; exact h.set o v

theorem Blk.set_other (h : Blk w b cs t) (a : Addr) (v : Value) (hne : b ≠ a.block) : Blk (w.setCell a v) b cs t := by
  unfold Blk at *
  rw [Below.heap_setCell _ _ _ _ hne]; exact h

theorem Blk.same (h : Blk w b cs t) {cs' : Array Value} (e : cs = cs') : Blk w b cs' t := e ▸ h
end

/-- A frame: of the blocks that were there only those of S may have turned. -/
structure Fr (S : List Nat) (w w' : World) : Prop where
  os : w'.os = w.os
  tape : w'.tape = w.tape
  output : w'.output = w.output
  size : w.heap.size ≤ w'.heap.size
  block : ∀ k, k < w.heap.size → k ∉ S → w'.heap[k]? = w.heap[k]?

theorem Fr.refl (S : List Nat) (w : World) : Fr S w w := ⟨rfl, rfl, rfl, Nat.le_refl _, fun _ _ _ => rfl⟩

theorem Fr.trans {S : List Nat} {a b c : World} (h : Fr S a b) (k : Fr S b c) : Fr S a c :=
  ⟨k.os.trans h.os, k.tape.trans h.tape, k.output.trans h.output, Nat.le_trans h.size k.size,
    fun i hi hn => (k.block i (Nat.lt_of_lt_of_le hi h.size) hn).trans (h.block i hi hn)⟩

/-- Then what may turn may also be new. -/
theorem Fr.trans' {S T : List Nat} {a b c : World} (h : Fr S a b) (k : Fr T b c) (hT : ∀ i, i ∈ T → i ∈ S ∨ a.heap.size ≤ i) : Fr S a c :=
  ⟨k.os.trans h.os, k.tape.trans h.tape, k.output.trans h.output, Nat.le_trans h.size k.size,
    fun i hi hn => (k.block i (Nat.lt_of_lt_of_le hi h.size) (fun hm => by rcases hT i hm with h1 | h1; exact hn h1; omega)).trans (h.block i hi hn)⟩

theorem Fr.mono {S T : List Nat} {a b : World} (h : Fr S a b) (hT : ∀ i, i ∈ S → i ∈ T) : Fr T a b :=
  ⟨h.os, h.tape, h.output, h.size, fun i hi hn => h.block i hi (fun hm => hn (hT i hm))⟩

theorem Fr.drew {S : List Nat} {a b : World} (h : Fr S a b) : Fr S a b.drew := ⟨h.os, h.tape, h.output, h.size, h.block⟩
theorem Fr.drewN {S : List Nat} {a b : World} (h : Fr S a b) (n : Nat) : Fr S a (b.drewN n) := ⟨h.os, h.tape, h.output, h.size, h.block⟩

theorem Fr.alloc {S : List Nat} {a b : World} (h : Fr S a b) (o : Obj) : Fr S a (b.alloc o) :=
  h.trans ⟨rfl, rfl, rfl, by simp, fun k hk _ => Below.heap_alloc _ _ _ hk⟩

theorem Fr.setCell {S : List Nat} {a b : World} (h : Fr S a b) (p : Addr) (v : Value) (hp : p.block ∈ S ∨ a.heap.size ≤ p.block) : Fr S a (b.setCell p v) :=
  h.trans' (T := [p.block]) ⟨rfl, rfl, rfl, by simp [World.setCell], fun k _ hn => Below.heap_setCell _ _ _ _ (by simpa using hn)⟩ (fun i hi => by simp at hi; subst hi; exact hp)

theorem Fr.keep {S : List Nat} {a b : World} (h : Fr S a b) {n : Nat} {cs : Array Value} {t : TypeId} (hb : Blk a n cs t) (hn : n ∉ S) : Blk b n cs t := by
  unfold Blk at *
  rw [h.block n (some_lt hb) hn]; exact hb

theorem Fr.get {S : List Nat} {a b : World} (h : Fr S a b) {n : Nat} {o : Obj} (hb : a.heap[n]? = some o) (hn : n ∉ S) : b.heap[n]? = some o := by
  rw [h.block n (some_lt hb) hn]; exact hb

theorem Fr.below {a b : World} (h : Fr [] a b) : Below a.heap.size a b := ⟨h.os, h.tape, h.output, h.size, fun k hk => h.block k hk (by simp)⟩
theorem Fr.of_below {S : List Nat} {a b : World} (h : Below a.heap.size a b) : Fr S a b := ⟨h.os, h.tape, h.output, h.size, fun k hk _ => h.block k hk⟩
theorem Fr.of_below' {S : List Nat} {B : Nat} {a b : World} (h : Below B a b) (hB : a.heap.size ≤ B) : Fr S a b := ⟨h.os, h.tape, h.output, h.size, fun k hk _ => h.block k (by omega)⟩
theorem Fr.nil {S : List Nat} {a b : World} (h : Fr [] a b) : Fr S a b := h.mono (by simp)

/-- Several blocks. -/
def Blks (w : World) (l : List (Nat × Array Value × TypeId)) : Prop := ∀ x, x ∈ l → Blk w x.1 x.2.1 x.2.2

theorem Blks.nil (w : World) : Blks w [] := fun _ h => by cases h
theorem Blks.cons {w : World} {b : Nat} {cs : Array Value} {t : TypeId} {l : List (Nat × Array Value × TypeId)} (h : Blk w b cs t) (hl : Blks w l) : Blks w ((b, cs, t) :: l) := by
  intro x hx
  rcases List.mem_cons.1 hx with rfl | hx
  · exact h
  · exact hl x hx
theorem Blks.head {w : World} {b : Nat} {cs : Array Value} {t : TypeId} {l : List (Nat × Array Value × TypeId)} (h : Blks w ((b, cs, t) :: l)) : Blk w b cs t := h (b, cs, t) (by simp)
theorem Blks.tail {w : World} {x : Nat × Array Value × TypeId} {l : List (Nat × Array Value × TypeId)} (h : Blks w (x :: l)) : Blks w l := fun y hy => h y (List.mem_cons_of_mem _ hy)
theorem Blks.alloc {w : World} {l : List (Nat × Array Value × TypeId)} (h : Blks w l) (o : Obj) : Blks (w.alloc o) l := fun x hx => (h x hx).alloc o
theorem Blks.drew {w : World} {l : List (Nat × Array Value × TypeId)} (h : Blks w l) : Blks w.drew l := h
theorem Blks.drewN {w : World} {l : List (Nat × Array Value × TypeId)} (h : Blks w l) (n : Nat) : Blks (w.drewN n) l := h
theorem Blks.keep {w w' : World} {S : List Nat} {l : List (Nat × Array Value × TypeId)} (h : Blks w l) (hf : Fr S w w') (hn : ∀ x, x ∈ l → x.1 ∉ S) : Blks w' l := fun x hx => hf.keep (h x hx) (hn x hx)
theorem Blks.set_other {w : World} {l : List (Nat × Array Value × TypeId)} (h : Blks w l) (a : Addr) (v : Value) (hn : ∀ x, x ∈ l → x.1 ≠ a.block) : Blks (w.setCell a v) l := fun x hx => (h x hx).set_other a v (hn x hx)

/-- A slot's equation by its number. -/
theorem int_eq {k : IntKind} {a b : Int} (h : a = b) : Value.int k a = .int k b := by rw [h]
theorem ret_eq {a b : Value} (h : a = b) : Ending.returned a = .returned b := by rw [h]
end Go.Proofs.Ytlgjhacmhkbkdaa
