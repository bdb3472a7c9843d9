/- A map from a piece's key to an entry's block. -/
import Derived.Test.YtlgjhacmhkbkdaaRow
import Derived.Test.YtlgjhacmhkbkdaaProg
import Derived.Maps.OwnSet
import Derived.Maps.RangeWalk
import Derived.DeepKeys4
namespace Go.Proofs.Ytlgjhacmhkbkdaa
open Go.RowKit Go.Maps

/-- A key: of which packet a piece is. -/
structure Key where
  src : ByteArray
  dst : ByteArray
  proto : Int
  id : Int

instance instKey : DecidableEq Key := fun a b =>
  decidable_of_iff (a.src = b.src ∧ a.dst = b.dst ∧ a.proto = b.proto ∧ a.id = b.id) ⟨fun ⟨h1, h2, h3, h4⟩ => by cases a; cases b; simp_all, fun h => by subst h; exact ⟨rfl, rfl, rfl, rfl⟩⟩

def keyCells (k : Key) : Array Value := #[.string k.src, .string k.dst, .int .i64 k.proto, .int .i64 k.id]
def keyV (k : Key) : Value := .agg (keyCells k)

structure Key.ok (k : Key) : Prop where
  s : k.src.size ≤ 100
  d : k.dst.size ≤ 100
  p0 : 0 ≤ k.proto
  p1 : k.proto ≤ 65535
  i0 : 0 ≤ k.id
  i1 : k.id ≤ 65535

theorem keyTyped : Try.prog.keyType 68 = true := by kernel_rfl
theorem keyCellsOf : Try.prog.cellsOf 68 = 4 := by kernel_rfl
theorem strCellsOf : Try.prog.cellsOf 9 = 1 := by kernel_rfl
theorem intCellsOf : Try.prog.cellsOf 3 = 1 := by kernel_rfl
theorem typesPos : decide (0 < Try.prog.types.size) = true := by kernel_rfl
theorem typesSize : ∃ m, Try.prog.types.size = m + 1 := ⟨Try.prog.types.size - 1, by have := of_decide_eq_true typesPos; omega⟩

/-- What a key reads as. -/
def kl (k : Key) : Lit := .string (keyBytes [.string k.src.data.toList, .string k.dst.data.toList, .int .i64 k.proto, .int .i64 k.id])

theorem key_lit (k : Key) (h : k.ok) : keyOf Try.prog 68 (keyV k) = some (kl k) := by
  obtain ⟨m, hm⟩ := typesSize
  have w1 : (Lit.int .i64 k.proto).wf = true := WalkArith.wf_i64 ⟨by have := h.p0; omega, by have := h.p1; omega⟩
  have w2 : (Lit.int .i64 k.id).wf = true := WalkArith.wf_i64 ⟨by have := h.i0; omega, by have := h.i1; omega⟩
  have s1 : k.src.size ≤ maxLen := by have := h.s; unfold maxLen; omega
  have s2 : k.dst.size ≤ maxLen := by have := h.d; unfold maxLen; omega
  unfold keyOf
  rw [Try.underlying68]
  simp only [keyTyped, Value.formed, Try.underlying68, keyCellsOf, keyV, keyCells, hm, Value.cells]
  simp [Program.keyLits, Try.underlying68, keyCellsOf, strCellsOf, intCellsOf, Try.underlying9, Try.underlying3, w1, w2, s1, s2, kl]

theorem keyLaw : Keyed Try.prog 68 := Keyed.of_law (deep_law_laid (m := 20) (by kernel_rfl) (by omega) (of_decide_eq_true (by kernel_rfl)) (by kernel_rfl) (by kernel_rfl))

theorem keyV_inj {a b : Key} (h : keyV a = keyV b) : a = b := by
  cases a; cases b
  simp [keyV, keyCells] at h
  obtain ⟨rfl, rfl, rfl, rfl⟩ := h
  rfl

theorem kl_inj {a b : Key} (ha : a.ok) (hb : b.ok) (h : kl a = kl b) : a = b :=
  keyV_inj (keyLaw.inj (key_lit a ha) (by rw [h]; exact key_lit b hb))

/-- How an element that is a pointer reads. -/
def ptrElem : Value → Option (DataW Unit × List MemPlace)
  | .pointer none => some (.lit (.int .i64 (-1)), [])
  | .pointer (some ⟨b, 0, none⟩) => some (.lit (.int .i64 b), [])
  | _ => none

theorem ptrElem_inv {v : Value} {y : DataW Unit × List MemPlace} (h : ptrElem v = some y) : (v = .pointer none ∧ y = (.lit (.int .i64 (-1)), [])) ∨ ∃ b : Nat, v = .pointer (some ⟨b, 0, none⟩) ∧ y = (.lit (.int .i64 b), []) := by
  unfold ptrElem at h
  split at h
  · cases h; exact .inl ⟨rfl, rfl⟩
  · cases h; exact .inr ⟨_, rfl, rfl⟩
  · cases h

/-- Block bm is a map that holds just M. -/
structure Mp (bm : Nat) (M : List (Key × Nat)) (W : World) : Prop where
  own : ∃ D : DataW Unit, W.ownsMap Try.prog 68 ptrElem bm M.length D ∧ (∀ k : Key, k.ok → Maps.has D (kl k) = M.any (fun x => decide (x.1 = k))) ∧
    (∀ x ∈ M, ∀ zd, D.atKey (kl x.1) zd = .lit (.int .i64 (x.2 : Int))) ∧ (∀ l, Maps.has D l = true → ∃ x ∈ M, kl x.1 = l) ∧ Maps.size D = M.length
  nodup : (M.map Prod.fst).Nodup
  ok : ∀ x ∈ M, x.1.ok

theorem Mp.lt {bm : Nat} {M : List (Key × Nat)} {W : World} (h : Mp bm M W) : bm < W.heap.size := by
  obtain ⟨D, h1, _⟩ := h.own
  exact h1.lt

theorem Mp.keep {bm : Nat} {M : List (Key × Nat)} {W W' : World} {S : List Nat} (h : Mp bm M W) (hf : Fr S W W') (hn : bm ∉ S) : Mp bm M W' := by
  refine ⟨?_, h.nodup, h.ok⟩
  obtain ⟨D, ⟨es, clock, hb, F, hs, hD⟩, r⟩ := h.own
  exact ⟨D, ⟨es, clock, hf.get hb hn, F, hs, hD⟩, r⟩

theorem Mp.made (w : World) : Mp w.heap.size [] (w.alloc (.map #[] 0)) := by
  refine ⟨⟨.map [], World.ownsMap_made _ _ _ _, fun k _ => rfl, by simp, fun l h => by simp [Maps.has] at h, rfl⟩, by simp, by simp⟩

/-- What a key leads to. -/
def mget (M : List (Key × Nat)) (k : Key) : Option Nat := (M.find? fun x => decide (x.1 = k)).map Prod.snd

theorem mget_some {M : List (Key × Nat)} {k : Key} {b : Nat} (h : mget M k = some b) : (k, b) ∈ M := by
  unfold mget at h
  cases hf : M.find? (fun x => decide (x.1 = k)) with
  | none => rw [hf] at h; cases h
  | some x =>
    rw [hf] at h
    cases h
    have h1 := List.find?_some hf
    have h2 := List.mem_of_find?_eq_some hf
    simp at h1
    rw [← h1]; exact h2

theorem mget_none {M : List (Key × Nat)} {k : Key} (h : mget M k = none) : ∀ x ∈ M, x.1 ≠ k := by
  unfold mget at h
  simp only [Option.map_eq_none_iff, List.find?_eq_none] at h
  intro x hx e
  exact h x hx (by simpa using e)

theorem ptr_zero (w : World) : (zeroValue 69).run Try.prog w = .ok (.pointer none) w := by kernel_rfl

/-- 'e, ok := m[k]'. -/
theorem Mp.look {bm : Nat} {M : List (Key × Nat)} {W : World} (h : Mp bm M W) (k : Key) (hk : k.ok) :
    (Instr.lookup 63 (.map (some bm)) (keyV k) true).run Try.prog W = .ok (match mget M k with
      | some b => .tuple #[.pointer (some ⟨b, 0, none⟩), .bool true]
      | none => .tuple #[.pointer none, .bool false]) W := by
  obtain ⟨D, h1, h2, h3, h4, h5⟩ := h.own
  obtain ⟨v, ps, hrun, hv⟩ := h1.look_ok keyLaw Try.underlying63 (ptr_zero W) (zd := .lit (.int .i64 (-1))) (zp := []) rfl (key_lit k hk)
  rw [hrun]
  cases hg : mget M k with
  | some b =>
    have hm := mget_some hg
    have e1 : Maps.has D (kl k) = true := by rw [h2 k hk, List.any_eq_true]; exact ⟨_, hm, by simp⟩
    have e2 := h3 _ hm (.lit (.int .i64 (-1)))
    rw [e2] at hv
    rcases ptrElem_inv hv with ⟨rfl, e⟩ | ⟨b', rfl, e⟩
    · simp at e
    · simp at e
      have : b = b' := by omega
      subst this
      rw [e1]
  | none =>
    have e1 : Maps.has D (kl k) = false := by
      rw [h2 k hk, List.any_eq_false]
      intro x hx
      simpa using mget_none hg x hx
    rw [Maps.atKey_of_not_has e1] at hv
    rcases ptrElem_inv hv with ⟨rfl, e⟩ | ⟨b', rfl, e⟩
    · rw [e1]
    · simp at e

/-- 'len(m)'. -/
theorem Mp.len {bm : Nat} {M : List (Key × Nat)} {W : World} (h : Mp bm M W) (ty : TypeId) : (Builtin.len_ #[63] ty #[.map (some bm)]).run Try.prog W = .ok (.int .i64 M.length) W := by
  obtain ⟨D, h1, h2, h3, h4, h5⟩ := h.own
  rw [h1.len Try.underlying63 ty, h5]

/-- A map's bound may be its size. -/
theorem owns_tight {bm n : Nat} {D : DataW Unit} {W : World} (h : W.ownsMap Try.prog 68 ptrElem bm n D) : W.ownsMap Try.prog 68 ptrElem bm (Maps.size D) D := by
  obtain ⟨es, clock, hb, F, hs, rfl⟩ := h
  exact ⟨es, clock, hb, F, by simp [Maps.size, length_sorted], rfl⟩

theorem Fr.turned {w w' : World} {b : Nat} (h : w.mapTurned w' b) : Fr [b] w w' := Fr.grown h.grown (fun g hg => by cases hg; simp)

theorem kl_key (k : Key) : WideAt.IsKeyLit (kl k) := trivial

/-- 'm[k] = e', where the key is there and leads to e. -/
theorem Mp.store_same {bm : Nat} {M : List (Key × Nat)} {W : World} (h : Mp bm M W) (k : Key) (b : Nat) (hk : k.ok) (hg : mget M k = some b) (hn : M.length < maxLen) :
    ∃ W', (Instr.mapUpdate 63 (.map (some bm)) (keyV k) (.pointer (some ⟨b, 0, none⟩))).run Try.prog W = .ok () W' ∧ Mp bm M W' ∧ Fr [bm] W W' := by
  obtain ⟨D, h1, h2, h3, h4, h5⟩ := h.own
  have hm := mget_some hg
  have hit := h1.isMap
  have e1 : Maps.has D (kl k) = true := by rw [h2 k hk, List.any_eq_true]; exact ⟨_, hm, by simp⟩
  obtain ⟨W', hrun, ho, ht⟩ := h1.store keyLaw Try.underlying63 hn (key_lit k hk) (val := .pointer (some ⟨b, 0, none⟩)) (d := .lit (.int .i64 (b : Int))) (ps := []) rfl
  have hsz : Maps.size (D.put (kl k) (.lit (.int .i64 (b : Int)))) = M.length := by rw [size_put (h1.tidy keyLaw), e1, h5]; rfl
  have ho' := owns_tight ho
  rw [hsz] at ho'
  refine ⟨W', hrun, ⟨⟨_, ho', fun k' hk' => ?_, fun x hx zd => ?_, fun l hl => ?_, hsz⟩, h.nodup, h.ok⟩, Fr.turned ht⟩
  · by_cases e : k' = k
    · subst e; rw [has_put_same hit (kl_key _), ← h2 k' hk', e1]
    · rw [has_put_other (fun e2 => e (kl_inj hk' hk e2)), h2 k' hk']
  · by_cases e : x.1 = k
    · rw [e, atKey_put_same hit (kl_key _)]
      have : x = (k, b) := by
        have hnd := h.nodup
        have h6 := h3 x hx zd
        have h7 := h3 _ hm zd
        rw [e] at h6
        simp only at h7
        rw [h6] at h7
        simp at h7
        exact Prod.ext e (by omega)
      rw [this]
    · rw [atKey_put_other (fun e2 => e (kl_inj (h.ok x hx) hk e2)), h3 x hx zd]
  · by_cases e : l = kl k
    · exact ⟨_, hm, e.symm⟩
    · rw [has_put_other e] at hl; exact h4 l hl

/-- 'm[k] = e', where the key isn't there. -/
theorem Mp.store_new {bm : Nat} {M : List (Key × Nat)} {W : World} (h : Mp bm M W) (k : Key) (b : Nat) (hk : k.ok) (hg : mget M k = none) (hn : M.length < maxLen) :
    ∃ W', (Instr.mapUpdate 63 (.map (some bm)) (keyV k) (.pointer (some ⟨b, 0, none⟩))).run Try.prog W = .ok () W' ∧ Mp bm (M ++ [(k, b)]) W' ∧ Fr [bm] W W' := by
  obtain ⟨D, h1, h2, h3, h4, h5⟩ := h.own
  have hm := mget_none hg
  have hit := h1.isMap
  have e1 : Maps.has D (kl k) = false := by
    rw [h2 k hk, List.any_eq_false]
    intro x hx
    simpa using hm x hx
  obtain ⟨W', hrun, ho, ht⟩ := h1.store keyLaw Try.underlying63 hn (key_lit k hk) (val := .pointer (some ⟨b, 0, none⟩)) (d := .lit (.int .i64 (b : Int))) (ps := []) rfl
  have hsz : Maps.size (D.put (kl k) (.lit (.int .i64 (b : Int)))) = (M ++ [(k, b)]).length := by rw [size_put (h1.tidy keyLaw), e1, h5]; simp
  have ho' := owns_tight ho
  rw [hsz] at ho'
  refine ⟨W', hrun, ⟨⟨_, ho', fun k' hk' => ?_, fun x hx zd => ?_, fun l hl => ?_, hsz⟩, ?_, ?_⟩, Fr.turned ht⟩
  · rw [List.any_append]
    by_cases e : k' = k
    · subst e; rw [has_put_same hit (kl_key _)]; simp
    · rw [has_put_other (fun e2 => e (kl_inj hk' hk e2)), h2 k' hk']
      have : ¬ k = k' := fun e2 => e e2.symm
      simp [this]
  · rcases List.mem_append.1 hx with hx | hx
    · rw [atKey_put_other (fun e2 => hm x hx (kl_inj (h.ok x hx) hk e2)), h3 x hx zd]
    · simp at hx; subst hx
      rw [atKey_put_same hit (kl_key _)]
  · by_cases e : l = kl k
    · exact ⟨(k, b), by simp, e.symm⟩
    · rw [has_put_other e] at hl
      obtain ⟨x, hx, r⟩ := h4 l hl
      exact ⟨x, by simp [hx], r⟩
  · rw [List.map_append, List.nodup_append]
    refine ⟨h.nodup, by simp, ?_⟩
    intro a ha c hc e
    simp at hc
    obtain ⟨x, hx, rfl⟩ := List.mem_map.1 ha
    exact hm x hx (e.trans hc)
  · intro x hx
    rcases List.mem_append.1 hx with hx | hx
    · exact h.ok x hx
    · simp at hx; subst hx; exact hk

/-- A map that is being ranged over; those of R are still to come. -/
structure Rg (bm r : Nat) (M : List (Key × Nat)) (R : List Key) (W : World) : Prop where
  rg : ∃ (D : DataW Unit) (left : Lit → Bool) (cnt : Nat) (n : Nat), W.ranges Try.prog 68 ptrElem bm r n D left cnt ∧ (∀ k : Key, k.ok → left (kl k) = decide (k ∈ R)) ∧ (∀ k ∈ R, k.ok) ∧
    (∀ k : Key, k.ok → Maps.has D (kl k) = M.any (fun x => decide (x.1 = k))) ∧ (∀ x ∈ M, ∀ zd, D.atKey (kl x.1) zd = .lit (.int .i64 (x.2 : Int))) ∧ (∀ l, Maps.has D l = true → ∃ x ∈ M, kl x.1 = l) ∧ Maps.size D = M.length ∧
    (∀ l, left l = true → Maps.has D l = true)
  nodup : (M.map Prod.fst).Nodup
  rnodup : R.Nodup
  ok : ∀ x ∈ M, x.1.ok

theorem Rg.mp {bm r : Nat} {M : List (Key × Nat)} {R : List Key} {W : World} (h : Rg bm r M R W) : Mp bm M W := by
  obtain ⟨D, left, cnt, n, h1, h2, h3, h4, h5, h6, h7, h8⟩ := h.rg
  have := owns_tight h1.owns
  rw [h7] at this
  exact ⟨⟨D, this, h4, h5, h6, h7⟩, h.nodup, h.ok⟩

theorem Rg.keep {bm r : Nat} {M : List (Key × Nat)} {R : List Key} {W W' : World} {S : List Nat} (h : Rg bm r M R W) (hf : Fr S W W') (h1 : bm ∉ S) (h2 : r ∉ S) : Rg bm r M R W' := by
  refine ⟨?_, h.nodup, h.rnodup, h.ok⟩
  obtain ⟨D, left, cnt, n, ⟨es, clock, since, seen, c0, hb, F, hs, hD, hr, rest⟩, g⟩ := h.rg
  exact ⟨D, left, cnt, n, ⟨es, clock, since, seen, c0, hf.get hb h1, F, hs, hD, hf.get hr h2, rest⟩, g⟩

theorem Rg.lt {bm r : Nat} {M : List (Key × Nat)} {R : List Key} {W : World} (h : Rg bm r M R W) : bm < W.heap.size ∧ r < W.heap.size := by
  obtain ⟨D, left, cnt, n, h1, _⟩ := h.rg
  exact ⟨h1.owns.lt, h1.lt⟩

theorem Rg.left_same {bm r : Nat} {M : List (Key × Nat)} {R : List Key} {W W' : World} {S : List Nat} (h : Rg bm r M R W) (hf : Fr S W W') (h1 : bm ∉ S) (h2 : r ∉ S) : W'.rangeLeft bm r = W.rangeLeft bm r := by
  unfold World.rangeLeft
  rw [hf.block bm h.lt.1 h1, hf.block r h.lt.2 h2]

/-- 'range m'. -/
theorem Mp.range {bm : Nat} {M : List (Key × Nat)} {W : World} (h : Mp bm M W) :
    ∃ W', (Instr.range 63 (.map (some bm))).run Try.prog W = .ok (.pointer (some ⟨W.heap.size, 0, none⟩)) W' ∧ Rg bm W.heap.size M (M.map Prod.fst) W' ∧ Fr [] W W' := by
  obtain ⟨D, h1, h2, h3, h4, h5⟩ := h.own
  obtain ⟨W', hrun, hr, hg, hs⟩ := h1.range keyLaw Try.underlying63
  refine ⟨W', hrun, ⟨⟨D, Maps.has D, Maps.size D, _, hr, fun k hk => ?_, (fun k hk => by obtain ⟨x, hx, rfl⟩ := List.mem_map.1 hk; exact h.ok x hx), h2, h3, h4, h5, fun _ h => h⟩, h.nodup, h.nodup, h.ok⟩, Fr.grown hg (fun g hg => by cases hg)⟩
  rw [h2 k hk, Bool.eq_iff_iff]
  simp

/-- The next one. -/
theorem Rg.next {bm r : Nat} {M : List (Key × Nat)} {R : List Key} {W : World} (h : Rg bm r M R W) (ty : TypeId) :
    (R = [] ∧ (Instr.next (.pointer (some ⟨r, 0, none⟩)) false ty).run Try.prog W = .ok (.tuple #[.bool false]) W) ∨
    ∃ k b W', k ∈ R ∧ (k, b) ∈ M ∧ (Instr.next (.pointer (some ⟨r, 0, none⟩)) false ty).run Try.prog W = .ok (.tuple #[.bool true, keyV k, .pointer (some ⟨b, 0, none⟩)]) W' ∧
      (Instr.entry (.pointer (some ⟨r, 0, none⟩))).run Try.prog W' = .ok (.tuple #[keyV k, .pointer (some ⟨b, 0, none⟩)]) W' ∧ Rg bm r M (R.erase k) W' ∧ Fr [r] W W' ∧ W'.rangeLeft bm r < W.rangeLeft bm r := by
  obtain ⟨D, left, cnt, n, h1, h2, h3, h4, h5, h6, h7, h8⟩ := h.rg
  rcases h1.next keyLaw ty with ⟨hc, hl, hrun⟩ | ⟨key, v, l, y, W', cnt', hkey, hlk, hv, hat, hrun, hrg, hlt, hgr, hsz, hen⟩
  · left
    refine ⟨List.eq_nil_iff_forall_not_mem.2 (fun k hk => ?_), hrun⟩
    have := h2 k (h3 k hk)
    rw [hl] at this
    simp [hk] at this
  · right
    obtain ⟨x, hx, hxl⟩ := h6 l (h8 l hlk)
    have hxo := h.ok x hx
    have hkv : key = keyV x.1 := keyLaw.inj hkey (by rw [← hxl]; exact key_lit x.1 hxo)
    subst hkv
    have hin : x.1 ∈ R := by
      have := h2 x.1 hxo
      rw [hxl, hlk] at this
      simpa using this.symm
    have e5 := h5 x hx (.lit (.int .i64 0))
    rw [hxl, hat] at e5
    have hvx : v = .pointer (some ⟨x.2, 0, none⟩) := by
      rcases ptrElem_inv hv with ⟨rfl, e⟩ | ⟨b', rfl, e⟩
      · rw [e] at e5; simp at e5
      · rw [e] at e5; simp at e5
        have : b' = x.2 := by omega
        rw [this]
    subst hvx
    refine ⟨x.1, x.2, W', hin, hx, hrun, hen, ⟨⟨D, _, cnt', n, hrg, fun k hk => ?_, (fun k hk => h3 k (List.mem_of_mem_erase hk)), h4, h5, h6, h7, fun l' hl' => h8 l' (by simp at hl'; exact hl'.1)⟩, h.nodup, h.rnodup.erase _, h.ok⟩, Fr.grown hgr (fun g hg => by cases hg; simp), by rw [hrg.left_eq, h1.left_eq]; exact hlt⟩
    have hme : decide (k ∈ R.erase x.1) = (decide (k ∈ R) && !decide (k = x.1)) := by rw [Bool.eq_iff_iff]; simp [h.rnodup.mem_erase_iff, and_comm]
    rw [h2 k hk, ← hxl, hme]
    by_cases e : k = x.1
    · subst e; simp [WideAt.sameKey_self (kl_key _)]
    · have : (kl k).sameKey (kl x.1) = false := sameKey_ne (fun e2 => e (kl_inj hk hxo e2))
      simp [this, e]

theorem filter_key_length {k : Key} {b : Nat} : ∀ (M : List (Key × Nat)), (M.map Prod.fst).Nodup → (k, b) ∈ M → (M.filter fun x => !decide (x.1 = k)).length + 1 = M.length
  | [], _, h => by cases h
  | x :: r, hn, h => by
    simp only [List.map_cons, List.nodup_cons] at hn
    by_cases e : x.1 = k
    · have : r.filter (fun x => !decide (x.1 = k)) = r := by
        rw [List.filter_eq_self]
        intro y hy
        simp only [Bool.not_eq_true', decide_eq_false_iff_not]
        intro e2
        exact hn.1 (List.mem_map.2 ⟨y, hy, by rw [e2, e]⟩)
      rw [List.filter_cons_of_neg (by simp [e]), this]; simp
    · have hr : (k, b) ∈ r := by
        rcases List.mem_cons.1 h with h | h
        · exact absurd (by rw [← h]) e
        · exact h
      rw [List.filter_cons_of_pos (by simp [e]), List.length_cons, filter_key_length r hn.2 hr]; simp

/-- 'delete(m, k)' while the map is ranged over, of a key that has come. -/
theorem Rg.drop {bm r : Nat} {M : List (Key × Nat)} {R : List Key} {W : World} (h : Rg bm r M R W) (k : Key) (b : Nat) (hk : (k, b) ∈ M) (hR : k ∉ R) (ty : TypeId) :
    ∃ W', (Builtin.delete_ #[63, 68] ty #[.map (some bm), keyV k]).run Try.prog W = .ok (.tuple #[]) W' ∧ Rg bm r (M.filter fun x => !decide (x.1 = k)) R W' ∧ Fr [bm] W W' ∧ W'.rangeLeft bm r ≤ W.rangeLeft bm r := by
  obtain ⟨D, left, cnt, n, h1, h2, h3, h4, h5, h6, h7, h8⟩ := h.rg
  have hko := h.ok _ hk
  obtain ⟨W', cnt', hrun, hrg, hle, ht⟩ := h1.drop keyLaw Try.underlying63 (key_lit k hko) ty
  have e1 : Maps.has D (kl k) = true := by rw [h4 k hko, List.any_eq_true]; exact ⟨_, hk, by simp⟩
  refine ⟨W', hrun, ⟨⟨_, _, cnt', n, hrg, fun k' hk' => ?_, h3, fun k' hk' => ?_, fun x hx zd => ?_, fun l hl => ?_, ?_, fun l hl => ?_⟩, ?_, h.rnodup, fun x hx => h.ok x (List.mem_filter.1 hx).1⟩, Fr.turned ht, by rw [hrg.left_eq, h1.left_eq]; exact hle⟩
  · rw [h2 k' hk']
    by_cases e : k' = k
    · subst e; simp [hR]
    · have : (kl k').sameKey (kl k) = false := sameKey_ne (fun e2 => e (kl_inj hk' hko e2))
      simp [this]
  · by_cases e : k' = k
    · subst e
      rw [has_del_same, List.any_filter]
      symm
      rw [List.any_eq_false]
      intro x _
      simp
    · rw [has_del_other (fun e2 => e (kl_inj hk' hko e2)), h4 k' hk', Bool.eq_iff_iff, List.any_eq_true, List.any_eq_true]
      constructor
      · rintro ⟨x, hx, hxe⟩
        simp only [decide_eq_true_eq] at hxe
        exact ⟨x, List.mem_filter.2 ⟨hx, by simp [hxe, e]⟩, by simp [hxe]⟩
      · rintro ⟨x, hx, hxe⟩
        exact ⟨x, (List.mem_filter.1 hx).1, hxe⟩
  · obtain ⟨hx1, hx2⟩ := List.mem_filter.1 hx
    have hne : x.1 ≠ k := by simpa using hx2
    rw [atKey_del_other (fun e2 => hne (kl_inj (h.ok x hx1) hko e2)), h5 x hx1]
  · by_cases e : l = kl k
    · rw [e, has_del_same] at hl; cases hl
    · rw [has_del_other e] at hl
      obtain ⟨x, hx, hxe⟩ := h6 l hl
      exact ⟨x, List.mem_filter.2 ⟨hx, by simp; exact fun e2 => e (by rw [← hxe, e2])⟩, hxe⟩
  · have hs := size_del (k := kl k) (h1.owns.tidy keyLaw)
    rw [e1, h7] at hs
    have : (M.filter fun x => !decide (x.1 = k)).length + 1 = M.length := filter_key_length M h.nodup hk
    simp at hs
    omega
  · have hl' : left l = true ∧ l.sameKey (kl k) = false := by simpa using hl
    by_cases e : l = kl k
    · rw [e, WideAt.sameKey_self (kl_key _)] at hl'; cases hl'.2
    · rw [has_del_other e]; exact h8 l hl'.1
  · exact (List.filter_sublist.map Prod.fst).nodup h.nodup
end Go.Proofs.Ytlgjhacmhkbkdaa
