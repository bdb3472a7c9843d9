/- The writer's methods: number, U8, U16, Text, String. -/
import Derived.Test.YtlgjhacmhkbkdaaBld
import Derived.StillTailTactics
namespace Go.Proofs.Ytlgjhacmhkbkdaa
open Go.RowKit

set_option maxHeartbeats 400000 in
theorem wtext_any (b : Nat) (l : List UInt8) (s : ByteArray) (w : World) (h : Wtr w b l) (hlen : l.length + s.size ≤ 140737488355328) :
    Calls Try.prog 96 #[.pointer (some ⟨b, 0, none⟩), .string s] w fun e w' => e = .returned (.tuple #[]) ∧ Wtr w' b (l ++ s.data.toList) ∧ Below b w w' := by
  have hlt := h.lt
  have H := Lib.hid h
  clear h
  go_enter Try.func96, Try.ntmps96
  go_wp2_with fail
  refine (wstr_any btW b b (Lib.byteCells l) s w H.out (by rw [Lib.byteCells_length]; exact hlen) (by omega)).mono ?_
  rintro e w1 ⟨rfl, h1, hb⟩
  rw [byteCells_text] at h1
  have H1 := Lib.hid h1
  clear h1
  go_wp2_with fail
  go_end0
  exact ⟨rfl, .inr H1.out, hb⟩

set_option maxHeartbeats 400000 in
theorem wstring_any (b : Nat) (l : List UInt8) (w : World) (h : Wtr w b l) :
    Calls Try.prog 97 #[.pointer (some ⟨b, 0, none⟩)] w fun e w' => e = .returned (.string ⟨l.toArray⟩) ∧ Below b w w' := by
  have hlt := h.lt
  have H := Lib.hid h
  clear h
  go_enter Try.func97, Try.ntmps97
  go_wp2_with fail
  refine (bstr_any btW b b l w H.out (by omega)).mono ?_
  rintro e w1 ⟨rfl, hb⟩
  go_wp2_with fail
  go_ret
  exact ⟨rfl, hb⟩

theorem be_length (n : Nat) : ∀ k, (be n k).length = k
  | 0 => rfl
  | k + 1 => by simp [be, be_length n k]

theorem be_get (n : Nat) : ∀ (k m : Nat), m < k → (be n k)[m]? = some (UInt8.ofNat (n / 256 ^ (k - 1 - m)))
  | _ + 1, 0, _ => by simp [be]
  | k + 1, m + 1, h => by
    rw [be, List.getElem?_cons_succ, be_get n k m (by omega)]
    congr 4
    omega

theorem be_take (n k m : Nat) (h : m < k) : (be n k).take (m + 1) = (be n k).take m ++ [UInt8.ofNat (n / 256 ^ (k - 1 - m))] := by
  have h1 := be_get n k m h
  have hl : m < (be n k).length := by rw [be_length]; exact h
  rw [List.take_succ_eq_append_getElem hl]
  rw [List.getElem?_eq_getElem hl] at h1
  rw [Option.some.inj h1]

theorem byte_of (n j : Nat) : (n : Int) / 2 ^ (8 * j) % 256 = ((UInt8.ofNat (n / 256 ^ j)).toNat : Int) := by
  have h : (2 : Int) ^ (8 * j) = ((256 ^ j : Nat) : Int) := by
    rw [Int.pow_mul]; simp
  rw [h]
  simp

set_option maxRecDepth 100000 in
set_option maxHeartbeats 1000000 in
theorem wnumber_any (b : Nat) (l : List UInt8) (n k : Nat) (w : World) (h : Wtr w b l) (hk : k ≤ 8) (hn : n < 18446744073709551616) (hlen : l.length + k ≤ 140737488355328) :
    Calls Try.prog 106 #[.pointer (some ⟨b, 0, none⟩), .int .u64 n, .int .i64 k] w fun e w' => e = .returned (.tuple #[]) ∧ Wtr w' b (l ++ be n k) ∧ Below b w w' := by
  have H := Lib.hid h
  have HN := Lib.hid (And.intro hn hlen)
  clear h hn hlen
  go_enter Try.func106, Try.ntmps106
  go_wp2_with fail
  go_loopw [6] (fun j wr => ∃ m : Nat, m ≤ k ∧ j = .int .i64 ((k : Int) - 1 - m) ∧ Hid (Wtr wr b (l ++ (be n k).take m) ∧ Below b w wr)) (fun j _ => (intOf j + 1).toNat)
  case atStart => exact ⟨0, Nat.zero_le _, int_eq (by simp), by simpa using H.out, Below.refl _ _⟩
  case round =>
    obtain ⟨m, hm, rfl, HI⟩ := hrel
    by_cases hlt : m < k
    · obtain ⟨j, hj⟩ : ∃ j : Nat, (k : Int) - 1 - (m : Int) = (j : Int) := ⟨k - 1 - m, by omega⟩
      rw [hj]
      have HJ := Lib.hid hj
      have hj7 : j ≤ 7 := by omega
      have hw : IntKind.i64.wrap (8 * (j : Int)) = ((8 * j : Nat) : Int) := by rw [IntKind.wrap_i64]; omega
      clear hj
      go_wp2_with fail
      go_still_tail 8, (by kernel_rfl)
      go_wp2_with fail
      rw [byte_of n j]
      refine (wbyte_any btW b b (Lib.byteCells (l ++ (be n k).take m)) ((UInt8.ofNat (n / 256 ^ j)).toNat : Int) wr.drew HI.out.1.drew (by have := HN.out.2; rw [Lib.byteCells_length, List.length_append, List.length_take, be_length]; omega) (by have := HI.out.1.lt; simp; omega)).mono ?_
      rintro e w1 ⟨rfl, h1, hb⟩
      rw [byteCells_snoc, List.append_assoc, show n / 256 ^ j = n / 256 ^ (k - 1 - m) from by rw [show j = k - 1 - m from by have := HJ.out; omega], ← be_take n k m hlt] at h1
      have HK := Lib.hid (And.intro h1 (HI.out.2.drew.trans hb))
      have em : (j : Int) - 1 = (k : Int) - 1 - ((m + 1 : Nat) : Int) := by have := HJ.out; omega
      have EM := Lib.hid em
      clear h1 hb em HI
      go_wp2_with fail
      exact ⟨⟨m + 1, by omega, int_eq EM.out, .inr HK.out.1, HK.out.2⟩, by first | (simp [intOf]; done) | (simp [intOf]; omega)⟩
    · obtain rfl : m = k := by omega
      have hfin := HI.out
      rw [List.take_of_length_le (by rw [be_length]; exact Nat.le_refl _)] at hfin
      have HF := Lib.hid hfin
      have hd : decide ((0 : Int) ≤ (m : Int) - 1 - (m : Int)) = false := by first | (simp; done) | (simp; omega)
      clear HI hfin
      go_wp2_with fail
      go_end0
      exact ⟨rfl, HF.out⟩

set_option maxHeartbeats 400000 in
theorem wu8_any (b : Nat) (l : List UInt8) (n : Int) (w : World) (h : Wtr w b l) (hlen : l.length + 1 ≤ 140737488355328) :
    Calls Try.prog 93 #[.pointer (some ⟨b, 0, none⟩), .int .i64 n] w fun e w' => e = .returned (.tuple #[]) ∧ Wtr w' b (l ++ be (IntKind.u64.wrap n).toNat 1) ∧ Below b w w' := by
  have hw0 : 0 ≤ IntKind.u64.wrap n := by rw [IntKind.wrap_u64]; omega
  have hw1 : IntKind.u64.wrap n < 18446744073709551616 := by rw [IntKind.wrap_u64]; omega
  have H := Lib.hid (wnumber_any b l (IntKind.u64.wrap n).toNat 1 w h (by omega) (by omega) hlen)
  rw [Int.toNat_of_nonneg hw0] at H
  have HW := Lib.hid (And.intro hw0 hw1)
  clear h hlen hw0 hw1
  go_enter Try.func93, Try.ntmps93
  go_wp2_with fail
  refine H.out.mono ?_
  rintro e w1 ⟨rfl, h1, hb⟩
  have H1 := Lib.hid h1
  clear h1 H
  go_wp2_with fail
  go_end0
  exact ⟨rfl, H1.out, hb⟩

set_option maxHeartbeats 400000 in
theorem wu16_any (b : Nat) (l : List UInt8) (n : Int) (w : World) (h : Wtr w b l) (hlen : l.length + 2 ≤ 140737488355328) :
    Calls Try.prog 94 #[.pointer (some ⟨b, 0, none⟩), .int .i64 n] w fun e w' => e = .returned (.tuple #[]) ∧ Wtr w' b (l ++ be (IntKind.u64.wrap n).toNat 2) ∧ Below b w w' := by
  have hw0 : 0 ≤ IntKind.u64.wrap n := by rw [IntKind.wrap_u64]; omega
  have hw1 : IntKind.u64.wrap n < 18446744073709551616 := by rw [IntKind.wrap_u64]; omega
  have H := Lib.hid (wnumber_any b l (IntKind.u64.wrap n).toNat 2 w h (by omega) (by omega) hlen)
  rw [Int.toNat_of_nonneg hw0] at H
  have HW := Lib.hid (And.intro hw0 hw1)
  clear h hlen hw0 hw1
  go_enter Try.func94, Try.ntmps94
  go_wp2_with fail
  refine H.out.mono ?_
  rintro e w1 ⟨rfl, h1, hb⟩
  have H1 := Lib.hid h1
  clear h1 H
  go_wp2_with fail
  go_end0
  exact ⟨rfl, H1.out, hb⟩
end Go.Proofs.Ytlgjhacmhkbkdaa
