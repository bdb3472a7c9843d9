/- law 16: few, roomy. -/
import Derived.Test.YtlgjhacmhkbkdaaRsm9
namespace Go.Proofs.Ytlgjhacmhkbkdaa
open Go.RowKit

/-- A slice of texts that is read. -/
structure Txts (W : World) (v : Value) (l : List ByteArray) : Prop where
  shape : ∃ a c, v = .slice a l.length c ∧ (∀ i (hi : i < l.length), ∃ ad, a = some ad ∧ W.cell? (ad.add i) = some (.string l[i]))
  len : l.length ≤ maxLen
  small : ∀ s ∈ l, s.size ≤ 140737488355328

def sumT (l : List ByteArray) : Nat := (l.map ByteArray.size).sum
def fewR (l : List ByteArray) : Bool := decide (l.length ≤ 81 ∧ sumT l ≤ 200000)

theorem sumT_take (l : List ByteArray) (k : Nat) (h : k < l.length) : sumT (l.take (k + 1)) = sumT (l.take k) + l[k].size := by
  unfold sumT
  rw [List.take_succ_eq_append_getElem h, List.map_append, List.sum_append]; simp only [List.map_cons, List.map_nil, List.sum_cons, List.sum_nil, Nat.add_zero]
theorem sumT_take_le (l : List ByteArray) (k : Nat) : sumT (l.take k) ≤ sumT l := by
  unfold sumT
  conv => rhs; rw [← List.take_append_drop k l]
  rw [List.map_append, List.sum_append]; omega

set_option maxRecDepth 100000 in
set_option maxHeartbeats 1000000 in
theorem few_any (v : Value) (l : List ByteArray) (w : World) (h : Txts w v l) : Calls Try.prog 10 #[v] w fun e w' => e = .returned (.bool (fewR l)) ∧ w' = w := by
  obtain ⟨a, c, rfl, hcell⟩ := h.shape
  have hlen := h.len
  unfold maxLen at hlen
  have HT := Lib.hid (And.intro hcell h.small)
  clear hcell
  go_enter Try.func10, Try.ntmps10
  go_wp2_with fail
  go_loopw [3, 4] (fun n i wr => ∃ k : Nat, k ≤ l.length ∧ k ≤ 81 ∧ sumT (l.take k) ≤ 200000 ∧ n = .int .i64 (sumT (l.take k) : Nat) ∧ i = .int .i64 k ∧ wr = w) (fun _ i _ => l.length - (intOf i).toNat)
  case atStart => exact ⟨0, by omega, by omega, by simp [sumT], by simp [sumT], rfl, rfl⟩
  case round =>
    obtain ⟨k, hk, hk8, hs, rfl, rfl, rfl⟩ := hrel
    by_cases hlt : k < l.length
    · obtain ⟨ad, rfl, hc⟩ := HT.out.1 k hlt
      have hz := HT.out.2 l[k] (List.getElem_mem hlt)
      have hst := sumT_take l k hlt
      have hle := sumT_take_le l (k + 1)
      obtain ⟨m, hm⟩ : ∃ m, m = sumT (l.take k) := ⟨_, rfl⟩
      obtain ⟨m2, hm2⟩ : ∃ m2, m2 = sumT (l.take (k + 1)) := ⟨_, rfl⟩
      obtain ⟨t, ht⟩ : ∃ t, t = l[k]'hlt := ⟨_, rfl⟩
      rw [← hm] at hs hst ⊢
      rw [← hm2] at hst hle
      rw [← ht] at hst hz hc
      have e1 : IntKind.i64.wrap ((m : Int) + (t.size : Int)) = (m : Int) + (t.size : Int) := by rw [IntKind.wrap_i64]; omega
      have e2 : IntKind.i64.wrap ((k : Int) + 1) = ((k + 1 : Nat) : Int) := by rw [IntKind.wrap_i64]; omega
      have HM := Lib.hid hm2
      clear hm2 hm ht
      cases hb1 : decide (200000 < (m : Int) + (t.size : Int))
      · cases hb2 : decide (80 < (k : Int))
        · go_wp2_with fail
          have h1 := of_decide_eq_false hb1
          have h2 := of_decide_eq_false hb2
          refine ⟨⟨k + 1, by omega, by omega, by rw [← HM.out]; omega, int_eq (by rw [← HM.out]; omega), rfl, trivial⟩, by simp [intOf]; omega⟩
        · have h2 := of_decide_eq_true hb2
          have hf : fewR l = false := by unfold fewR; rw [decide_eq_false_iff_not]; omega
          have HF := Lib.hid hf
          clear hf h2
          go_wp2_with fail
          go_ret
          exact ⟨by rw [HF.out]; rfl, rfl⟩
      · have h1 := of_decide_eq_true hb1
        have hf : fewR l = false := by unfold fewR; rw [decide_eq_false_iff_not]; omega
        have HF := Lib.hid hf
        clear hf h1
        go_wp2_with fail
        go_ret
        exact ⟨by rw [HF.out]; rfl, rfl⟩
    · have hke : k = l.length := by omega
      subst hke
      rw [List.take_length] at hs
      have hf : fewR l = true := by unfold fewR; rw [decide_eq_true_iff]; omega
      have HF := Lib.hid hf
      clear hf
      go_wp2_with fail
      go_ret
      exact ⟨by rw [HF.out]; rfl, rfl⟩

theorem results_roomy (b : Nat) (tmps : Array Value) (W : World) (hB : Blk W b #[.int .i64 64, .int .i64 1048576, .int .i64 64] 23) (h0 : tmps.getD 0 undef = .pointer (some ⟨b, 0, none⟩)) :
    (results Try.f24 tmps).run Try.prog W = .ok (stoV 64 1048576 64) W := by
  have c := hB.cell
  simp only [Array.getD_eq_getD_getElem?] at h0
  simp [results, Try.results24, go_sem, h0, c, stoV]

/-- A store with much room. -/
theorem roomy_any (w : World) : Calls Try.prog 24 #[] w fun e w' => e = .returned (stoV 64 1048576 64) ∧ Fr [] w w' := by
  go_enter Try.func24, Try.ntmps24
  go_wp2_with fail
  refine bodyPost_ret (results_roomy w.heap.size _ _ (Blk.new w _ _) rfl) rfl ?_
  exact ⟨rfl, (Fr.refl _ _).alloc _⟩
end Go.Proofs.Ytlgjhacmhkbkdaa
