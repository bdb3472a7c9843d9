/- strings.Builder's WriteString with its frame: only the builder and its row turn. -/
import Derived.Test.YtlgjhacmhkbkdaaBld
import Derived.Test.YtlgjhacmhkbkdaaRow
namespace Go.Proofs.Ytlgjhacmhkbkdaa
open Go.RowKit

/-- A builder in block b, whose row is v, that holds bs. -/
structure Bs (b : Nat) (v : Value) (bs : List Value) (w : World) : Prop where
  blk : w.heap[b]? = some (.cells #[.pointer none, v] 115 (0, 0)) ∨ w.heap[b]? = some (.cells #[.pointer (some ⟨b, 0, none⟩), v] 115 (0, 0))
  own : w.ownsRow b 5 1 v bs.length bs
  ne : v.ownBlock ≠ some b

theorem Bs.at {b : Nat} {v : Value} {bs : List Value} {w : World} (h : Bs b v bs w) : Lib.IsBuilder 115 5 b b bs w := by
  rcases h.blk with h1 | h1
  · exact .inl ⟨Nat.le_refl _, v, h1, h.own, h.ne⟩
  · exact .inr ⟨Nat.le_refl _, v, h1, h.own, h.ne⟩

theorem Bs.lt {b : Nat} {v : Value} {bs : List Value} {w : World} (h : Bs b v bs w) : b < w.heap.size := by
  rcases h.blk with h1 | h1
  · exact some_lt h1
  · exact some_lt h1

/-- The blocks that it has. -/
def bsFoot (b : Nat) (v : Value) : List Nat := b :: v.ownBlock.toList

theorem Bs.keep {b : Nat} {v : Value} {bs : List Value} {w w' : World} {S : List Nat} (h : Bs b v bs w) (hf : Fr S w w') (hS : ∀ g, g ∈ bsFoot b v → g ∉ S) : Bs b v bs w' := by
  have hb : b ∉ S := hS b (by simp [bsFoot])
  refine ⟨h.blk.imp (fun h1 => hf.get h1 hb) (fun h1 => hf.get h1 hb), ?_, h.ne⟩
  refine ⟨h.own.1, ?_⟩
  rcases h.own.2 with h0 | ⟨g, cap, cur, e, hg, hc, r⟩
  · exact .inl h0
  · exact .inr ⟨g, cap, cur, e, hg, hf.get hc (hS g (by simp [bsFoot, e, Value.ownBlock])), r⟩

theorem Bs.foot_lt {b : Nat} {v : Value} {bs : List Value} {w : World} (h : Bs b v bs w) : ∀ g, g ∈ bsFoot b v → b ≤ g ∧ g < w.heap.size := by
  intro g hg
  simp only [bsFoot, List.mem_cons, Option.mem_toList] at hg
  rcases hg with rfl | hg
  · exact ⟨Nat.le_refl _, h.lt⟩
  · exact h.own.lt g hg

theorem Bs.fresh (w : World) : Bs w.heap.size (.slice none 0 0) [] (w.alloc (.cells #[.pointer none, .slice none 0 0] 115)) :=
  ⟨.inl (Blk.new w _ _), World.ownsRow_nil _ _ _ _, by simp [Value.ownBlock]⟩

set_option maxHeartbeats 2000000 in
set_option maxRecDepth 100000 in
theorem bwstr_any (b : Nat) (v : Value) (bs : List Value) (s : ByteArray) (w : World) (h : Bs b v bs w) (hlen : bs.length + s.size ≤ 140737488355328) :
    Calls Try.prog 67 #[.pointer (some ⟨b, 0, none⟩), .string s] w fun e w' => e = .returned (.tuple #[.int .i64 s.size, .nilIface]) ∧ (∃ v', Bs b v' (bs ++ Lib.strCells s) w') ∧ Fr (bsFoot b v) w w' := by
  obtain ⟨i0, hi, hz0, hz1, hz2⟩ := info_parts infoU8
  have hck : Calls Try.prog 90 #[.pointer (some ⟨b, 0, none⟩)] w fun e w1 => e = .returned (.tuple #[]) ∧ w1.heap[b]? = some (.cells #[.pointer (some ⟨b, 0, none⟩), v] 115 (0, 0)) ∧ Fr [b] w w1 := by
    rcases h.blk with h1 | h1
    · refine (check_fresh btB b w (Lib.BuilderAt.cell0 ⟨Nat.le_refl _, v, h1, h.own, h.ne⟩) (Lib.BuilderAt.shape ⟨Nat.le_refl _, v, h1, h.own, h.ne⟩) (Lib.BuilderAt.frozen0 ⟨Nat.le_refl _, v, h1, h.own, h.ne⟩)).mono ?_
      rintro e w' ⟨rfl, rfl⟩
      exact ⟨rfl, Blk.set_to h1 0 _ rfl, (Fr.refl _ _).setCell ⟨b, 0, none⟩ _ (.inl (by simp))⟩
    · refine (check_used b w (Lib.BuilderAt.cell0 ⟨Nat.le_refl _, v, h1, h.own, h.ne⟩)).mono ?_
      rintro e w' ⟨rfl, rfl⟩
      exact ⟨rfl, h1, Fr.refl _ _⟩
  have HCK := Lib.hid hck
  have hlt0 := h.lt
  have H := Lib.hid h
  clear hck h
  go_enter Try.func67, Try.ntmps67
  go_wp2_with fail
  refine HCK.out.mono ?_
  rintro e w1 ⟨rfl, hbk, hf1⟩
  have hown : w1.ownsRow b 5 1 v bs.length bs := by
    refine ⟨H.out.own.1, ?_⟩
    rcases H.out.own.2 with h0 | ⟨g, cap, cur, e, hg, hc, r⟩
    · exact .inl h0
    · exact .inr ⟨g, cap, cur, e, hg, hf1.get hc (by have := H.out.ne; rw [e] at this; simp [Value.ownBlock] at this; simpa using this), r⟩
  have hne := H.out.ne
  have HF1 := Lib.hid hf1
  have hsz := hf1.size
  clear hf1
  have c0 : w1.cell? ⟨b, 0, none⟩ = some (.pointer (some ⟨b, 0, none⟩)) := by rw [Lib.cell_of_heap hbk]; rfl
  have c1 : w1.cell? ⟨b, 1, none⟩ = some v := by rw [Lib.cell_of_heap hbk]; rfl
  go_wp2_with (at_builtin; refine Lib.wpList_append_own_string _ rfl _ _ 53 9 rfl b 5 i0 Try.underlying53 Try.underlying9 hi hz0 hz1 hz2 _ _ _ rfl hown s rfl ?c3 ?c4 ?c5 ?_)
  case c3 => unfold maxLen; omega
  case c4 => omega
  case c5 => omega
  intro v' w2 hown' hgrow _
  have hlt : b < w1.heap.size := some_lt hbk
  have hb2 : w2.heap[b]? = some (.cells #[.pointer (some ⟨b, 0, none⟩), v] 115 (0, 0)) := by
    rw [hgrow.block b hlt (fun e => hne e.symm)]
    exact hbk
  have d0 : w2.cell? ⟨b, 0, none⟩ = some (.pointer (some ⟨b, 0, none⟩)) := by rw [Lib.cell_of_heap hb2]; rfl
  have d1 : w2.cell? ⟨b, 1, none⟩ = some v := by rw [Lib.cell_of_heap hb2]; rfl
  have f1 : w2.frozen? ⟨b, 1, none⟩ = false := Lib.frozen_of_heap hb2 1
  have hfr : Fr (bsFoot b v) w w2 := (HF1.out.mono (by intro i hi; simp at hi; simp [bsFoot, hi])).trans (Fr.grown hgrow (fun g hg => by simp [bsFoot, hg]))
  have HFR := Lib.hid hfr
  clear hfr
  have hfin := Lib.BuilderAt.put (T := 115) (e := 5) (Nat.le_refl b) hb2 (bs' := bs ++ Lib.strCells s) (by simpa [Lib.strCells_length] using hown') btB.ne
  have HFIN := Lib.hid hfin
  clear hfin
  obtain ⟨ao, n', cap, rfl⟩ : ∃ ao n' cap, v' = .slice ao n' cap := by
    rcases hown'.2 with ⟨hv, _⟩ | ⟨g, cap, cur, hv, _⟩
    · exact ⟨_, _, _, hv⟩
    · exact ⟨_, _, _, hv⟩
  go_wp2_with fail
  go_ret2
  refine ⟨rfl, ?_, HFR.out.setCell ⟨b, 1, none⟩ _ (.inl (by simp [bsFoot]))⟩
  obtain ⟨_, v2, h1, h2, h3⟩ := HFIN.out
  exact ⟨v2, .inr h1, h2, h3⟩

theorem Fr.freeze {S : List Nat} {a w : World} (h : Fr S a w) (p : Addr) (hp : p.block ∈ S) (n : Nat) : Fr S a (w.freeze p n) := by
  refine h.trans ?_
  unfold World.freeze
  split
  · exact Fr.refl S w
  · exact ⟨rfl, rfl, rfl, by simp, fun k hk hn => by
      simp only [Array.getElem?_modify]
      have hpk : ¬ p.block = k := fun e => hn (by rw [← e]; exact hp)
      rw [if_neg hpk]⟩

set_option maxHeartbeats 1000000 in
set_option maxRecDepth 100000 in
theorem bbstr_some (b : Nat) (v : Value) (l : List UInt8) (w : World) (h : Bs b v (Lib.byteCells l) w) (h0 : l ≠ []) :
    Calls Try.prog 68 #[.pointer (some ⟨b, 0, none⟩)] w fun e w' => e = .returned (.string ⟨l.toArray⟩) ∧ Fr (bsFoot b v) w w' := by
  obtain ⟨p, hbk⟩ : ∃ p, w.heap[b]? = some (.cells #[p, v] 115 (0, 0)) := by
    rcases h.blk with h | h
    · exact ⟨_, h⟩
    · exact ⟨_, h⟩
  have hown := h.own
  have hl0 : l.length ≠ 0 := by simpa using h0
  rw [Lib.byteCells_length] at hown
  obtain ⟨g, cap, cur, rfl, hbg, hg, hnc, hcm, hcs, htake⟩ : ∃ g cap cur, v = .slice (some ⟨g, 0, none⟩) l.length cap ∧ b ≤ g ∧ w.heap[g]? = some (.cells cur 5 (0, 0)) ∧ l.length ≤ cap ∧ cap ≤ maxLen ∧ cur.size = cap * 1 ∧ cur.toList.take (l.length * 1) = Lib.byteCells l := by
    rcases hown.2 with ⟨_, hz⟩ | ⟨g, cap, cur, hv, r⟩
    · exact absurd hz hl0
    · exact ⟨g, cap, cur, hv, r⟩
  have c1 : w.drew.cell? ⟨b, 1, none⟩ = some (.slice (some ⟨g, 0, none⟩) l.length cap) := by
    have : w.drew.heap[b]? = some (.cells #[p, .slice (some ⟨g, 0, none⟩) l.length cap] 115 (0, 0)) := hbk
    rw [Lib.cell_of_heap this]; rfl
  have hcb : Try.prog.cellsOf 5 = 1 := by kernel_rfl
  have hSD : (Builtin.unsafeSliceData_ #[53] 145 #[.slice (some ⟨g, 0, none⟩) l.length cap]).run Try.prog w.drew = .ok (.pointer (some ⟨g, 0, none⟩)) w.drew :=
    Lib.run_unsafeSliceData_row _ _ _ _ _ _ (by omega)
  have hUS : (Builtin.unsafeString_ #[145, 3] 9 #[.pointer (some ⟨g, 0, none⟩), .int .i64 l.length]).run Try.prog w.drew = .ok (.string ⟨l.toArray⟩) (w.drew.freeze ⟨g, 0, none⟩ l.length) := by
    refine Lib.run_unsafeString_row w.drew 145 3 9 5 Try.underlying145 hcb g cur.size (by have hg' : w.drew.heap[g]? = some (.cells cur 5 (0, 0)) := hg; simp [World.shape?, hg']) l h0 (by omega) (by unfold maxLen at hcm; omega) ?_
    intro j x hx
    have := hown.cells (g := g) rfl j (.int .u8 x.toNat) (by simp [Lib.byteCells, hx])
    exact this
  clear h
  go_enter Try.func68, Try.ntmps68
  go_wp2_with fail
  go_region
  all_goals (go_wp2_with fail; go_ret; exact ⟨rfl, (Fr.refl _ w).drew.freeze ⟨g, 0, none⟩ (by simp [bsFoot, Value.ownBlock]) _⟩)

theorem bbstr_any (b : Nat) (v : Value) (l : List UInt8) (w : World) (h : Bs b v (Lib.byteCells l) w) :
    Calls Try.prog 68 #[.pointer (some ⟨b, 0, none⟩)] w fun e w' => e = .returned (.string ⟨l.toArray⟩) ∧ Fr (bsFoot b v) w w' := by
  cases l with
  | cons x r => exact bbstr_some b v (x :: r) w h (by simp)
  | nil =>
    obtain ⟨p, hbk⟩ : ∃ p, w.heap[b]? = some (.cells #[p, v] 115 (0, 0)) := by
      rcases h.blk with h | h
      · exact ⟨_, h⟩
      · exact ⟨_, h⟩
    have conv : ∀ {e : Ending} {w' : World}, (e = .returned (.string ⟨#[]⟩) ∧ Below w.heap.size w w') → e = .returned (.string ⟨#[]⟩) ∧ Fr (bsFoot b v) w w' := fun h => ⟨h.1, Fr.of_below h.2⟩
    rcases h.own.2 with ⟨rfl, _⟩ | ⟨g, cap, cur, rfl, hbg, hg, _, _, _, _⟩
    · exact (bstr_nil w.heap.size b p w hbk).mono fun _ _ h => conv h
    · by_cases hc0 : cap = 0
      · subst hc0
        exact (bstr_noroom w.heap.size b g p cur w (Nat.le_refl _) hbk hg).mono fun _ _ h => conv h
      · exact (bstr_room w.heap.size b g cap p w hc0 hbk).mono fun _ _ h => conv h
end Go.Proofs.Ytlgjhacmhkbkdaa
