/- The references of layers 1 and 2. -/
import Derived.Test.YtlgjhacmhkbkdaaIp4Put2
import Derived.Laws.BytesArg
namespace Go.Proofs.Ytlgjhacmhkbkdaa
open Go.RowKit

/-- A text of bytes. -/
def bs (l : List UInt8) : ByteArray := ⟨l.toArray⟩

theorem bs_size (l : List UInt8) : (bs l).size = l.length := by show l.toArray.size = _; simp

theorem bs_append (a b : List UInt8) : bs a ++ bs b = bs (a ++ b) := by
  apply ByteArray.ext
  simp [bs]

theorem run_one_byte (v : Int) (w : World) :
    (convert 53 9 (.slice (some ⟨w.heap.size, 0, none⟩) 1 1)).run Try.prog (w.alloc (.cells #[.int .u8 v] 5)) = .ok (.string (bs [UInt8.ofNat v.toNat])) (w.alloc (.cells #[.int .u8 v] 5)) := by
  have h := run_convert_bytes_arg (P := Try.prog) (w.alloc (.cells #[.int .u8 v] 5)) 53 5 Try.underlying53 Try.underlying5 w.heap.size 0 1 1 [v] rfl
    (by intro i hi; obtain rfl : i = 0 := by omega
        rw [(Blk.new w _ _).cell]; simp) 9 Try.underlying9
  rw [h]
  rfl

theorem be_snoc_bs (n k : Nat) : bs [UInt8.ofNat (n / 256 ^ k)] ++ bs (be n k) = bs (be n (k + 1)) := by rw [bs_append]; rfl

set_option maxRecDepth 100000 in
set_option maxHeartbeats 1000000 in
theorem rbytes_any (n k : Nat) (w : World) (hn : n < 18446744073709551616) (hk : k ≤ 8) :
    Calls Try.prog 70 #[.int .u64 n, .int .i64 k] w fun e w' => e = .returned (.string (bs (be n k))) ∧ Fr [] w w' := by
  have HN := Lib.hid hn
  clear hn
  go_enter Try.func70, Try.ntmps70
  go_wp2_with fail
  go_loopw [0, 5, 6] (fun n' s i wr => ∃ m : Nat, m ≤ k ∧ n' = .int .u64 ((n / 256 ^ m : Nat) : Int) ∧ s = .string (bs (be n m)) ∧ i = .int .i64 m ∧ Hid (Fr [] w wr)) (fun _ _ i _ => k - (intOf i).toNat)
  case atStart => exact ⟨0, Nat.zero_le _, int_eq (by simp), rfl, rfl, Fr.refl _ _⟩
  case round =>
    obtain ⟨m, hm, rfl, rfl, rfl, HF⟩ := hrel
    by_cases hlt : m < k
    · obtain ⟨q, hq⟩ : ∃ q, q = n / 256 ^ m := ⟨_, rfl⟩
      have hq1 : UInt8.ofNat (q % 256) = UInt8.ofNat (n / 256 ^ m) := by
        rw [← hq]; apply UInt8.toNat_inj.1; simp
      have hq2 : q < 18446744073709551616 := by rw [hq]; exact Nat.lt_of_le_of_lt (Nat.div_le_self _ _) HN.out
      have hq3 : q / 256 = n / 256 ^ (m + 1) := by rw [hq, Nat.div_div_eq_div_mul, Nat.pow_succ]
      have hcv := run_one_byte ((q : Int) % 256) wr
      have hadd : ∀ W, (Op.stringOp .add (bs [UInt8.ofNat (q % 256)]) (bs (be n m))).run Try.prog W = .ok (.string (bs (be n (m + 1)))) W := by
        intro W
        rw [run_string_add_sum W _ _ (by rw [bs_size, bs_size, be_length]; simp; omega), hq1, be_snoc_bs]
      rw [← hq]
      have HQ := Lib.hid (And.intro hq (And.intro hq1 hq3))
      clear hq hq1 hq3
      go_wp2_with fail
      exact ⟨⟨m + 1, by omega, int_eq (by rw [← HQ.out.2.2]; simp), rfl, by go_num, HF.out.alloc _⟩, by simp [intOf]; omega⟩
    · obtain rfl : m = k := by omega
      go_wp2_with fail
      go_ret
      exact ⟨rfl, HF.out⟩

theorem rin5_any (n lo hi : Int) (w : World) : Calls Try.prog 69 #[.int .i64 n, .int .i64 lo, .int .i64 hi] w fun e w' => e = .returned (.bool (decide (lo ≤ n) && decide (n ≤ hi))) ∧ w' = w := by
  go_enter Try.func69, Try.ntmps69
  by_cases h : lo ≤ n
  · have d : decide (lo ≤ n) = true := by simpa using h
    go_wp2_with fail
    go_ret
    first | exact ⟨rfl, rfl⟩ | exact ⟨by simp [d], rfl⟩
  · have d : decide (lo ≤ n) = false := by simpa using h
    go_wp2_with fail
    go_ret
    first | exact ⟨rfl, rfl⟩ | exact ⟨by simp [d], rfl⟩

set_option maxHeartbeats 400000 in
theorem rnum5_any (n : Int) (k : Nat) (w : World) (hk : k ≤ 8) : Calls Try.prog 46 #[.int .i64 n, .int .i64 k] w fun e w' => e = .returned (.string (bs (be (IntKind.u64.wrap n).toNat k))) ∧ Fr [] w w' := by
  have hw0 : 0 ≤ IntKind.u64.wrap n := by rw [IntKind.wrap_u64]; omega
  have hw1 : IntKind.u64.wrap n < 18446744073709551616 := by rw [IntKind.wrap_u64]; omega
  have H := Lib.hid (rbytes_any (IntKind.u64.wrap n).toNat k w (by omega) hk)
  rw [Int.toNat_of_nonneg hw0] at H
  have HW := Lib.hid (And.intro hw0 hw1)
  clear hw0 hw1
  go_enter Try.func46, Try.ntmps46
  go_wp2_with fail
  refine H.out.mono ?_
  rintro e w1 ⟨rfl, hf⟩
  go_wp2_with fail
  go_ret
  exact ⟨rfl, hf⟩

set_option maxHeartbeats 400000 in
theorem rdown_any (n : Nat) (w : World) (hn : n < 9223372036854775808) : Calls Try.prog 71 #[.int .i64 n] w fun e w' => e = .returned (.int .i64 (foldn n)) ∧ w' = w := by
  have HN := Lib.hid hn
  clear hn
  go_enter Try.func71, Try.ntmps71
  go_wp2_with fail
  go_loopw [0] (fun v wr => ∃ m : Nat, m ≤ n ∧ v = .int .i64 m ∧ Hid (foldn m = foldn n) ∧ wr = w) (fun v _ => (intOf v).toNat)
  case atStart => exact ⟨n, Nat.le_refl _, rfl, rfl, rfl⟩
  case round =>
    obtain ⟨m, hm, rfl, HF, rfl⟩ := hrel
    have hm2 : m < 9223372036854775808 := by have := HN.out; omega
    by_cases hlt : 65536 ≤ m
    · have hm3 : 65536 ≤ (m : Int) := by omega
      go_wp2_with fail
      exact ⟨⟨m % 65536 + m / 65536, by omega, int_eq (by simp), by rw [foldn_step (by omega)]; exact HF.out, by first | rfl | trivial⟩, by simp [intOf]; omega⟩
    · have hm3 : ¬ 65536 ≤ (m : Int) := by omega
      have hs := foldn_small (n := m) (by omega)
      rw [HF.out] at hs
      have HS := Lib.hid hs
      clear hs
      go_wp2_with fail
      go_ret
      exact ⟨by rw [HS.out]; rfl, by first | rfl | trivial⟩
end Go.Proofs.Ytlgjhacmhkbkdaa
