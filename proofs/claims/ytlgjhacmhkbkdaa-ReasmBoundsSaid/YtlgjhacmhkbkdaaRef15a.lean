/- ref15: Part; the cutting in plain words. -/
import Derived.Test.YtlgjhacmhkbkdaaRefGet
import Derived.Test.YtlgjhacmhkbkdaaRow
namespace Go.Proofs.Ytlgjhacmhkbkdaa
open Go.RowKit

/-- How many bytes a piece has. -/
def partR (hd mtu : Int) : Nat := if hd < mtu then ((mtu - hd) / 8 * 8).toNat else 0

set_option maxHeartbeats 400000 in
theorem rpart_any (hd mtu : Int) (w : World) (h0 : 0 ≤ hd) (h1 : hd ≤ 100000) (h2 : 0 ≤ mtu) (h3 : mtu ≤ 100000) :
    Calls Try.prog 52 #[.int .i64 hd, .int .i64 mtu] w fun e w' => e = .returned (.int .i64 (partR hd mtu)) ∧ w' = w := by
  have hp : (partR hd mtu : Int) = if hd < mtu then (mtu - hd) / 8 * 8 else 0 := by
    unfold partR; split
    · rw [Int.toNat_of_nonneg (by omega)]
    · rfl
  have HP := Lib.hid hp
  clear hp
  go_enter Try.func52, Try.ntmps52
  by_cases hl : hd < mtu
  · have d1 : decide (hd < mtu) = true := by simpa using hl
    have e1 : IntKind.i64.wrap (mtu - hd) = mtu - hd := by rw [IntKind.wrap_i64]; omega
    have e2 : (mtu - hd).tdiv 8 = (mtu - hd) / 8 := Int.tdiv_eq_ediv_of_nonneg (by omega)
    have e3 : IntKind.i64.wrap ((mtu - hd) / 8) = (mtu - hd) / 8 := by rw [IntKind.wrap_i64]; omega
    have e4 : IntKind.i64.wrap ((mtu - hd) / 8 * 8) = (mtu - hd) / 8 * 8 := by rw [IntKind.wrap_i64]; omega
    go_wp2_with fail
    go_ret
    exact ⟨ret_eq (int_eq (by rw [HP.out, if_pos hl])), rfl⟩
  · have d1 : decide (hd < mtu) = false := by simpa using hl
    go_wp2_with fail
    go_ret
    exact ⟨ret_eq (int_eq (by rw [HP.out, if_neg (by omega)])), rfl⟩

/-- A header of a later piece. -/
def hdrX (h : Hdr) (n k : Nat) (b : Bool) : Hdr := { h with off := h.off + ((k * (n / 8) : Nat) : Int), mf := b }
def pieceR (h : Hdr) (s : ByteArray) (n k : Nat) : ByteArray := (ip4put (hdrX h n k true) (s.extract (k * n) (k * n + n))).1
def lastR (h : Hdr) (s : ByteArray) (n k : Nat) : ByteArray := (ip4put (hdrX h n k h.mf) (s.extract (k * n) s.size)).1
/-- How many pieces are ahead of the last one. -/
def cutN (z n : Nat) : Nat := (z - 1) / n
def cutL (h : Hdr) (s : ByteArray) (n : Nat) : List ByteArray := (List.range (cutN s.size n)).map (pieceR h s n) ++ [lastR h s n (cutN s.size n)]

/-- A packet, cut. -/
def cutR (p : ByteArray) (mtu : Int) : List ByteArray × Nat :=
  if (ip4get p).2.2 ≠ 0 then ([], (ip4get p).2.2)
  else if mtu < 28 ∨ 65535 < mtu then ([], 1)
  else if (p.size : Int) ≤ mtu then ([p], 0)
  else if (ip4get p).1.df then ([], 8)
  else if partR (20 + (ip4get p).1.opts.size) mtu = 0 then ([], 1)
  else if 8191 < (hdrX (ip4get p).1 (partR (20 + (ip4get p).1.opts.size) mtu) (cutN (ip4get p).2.1.size (partR (20 + (ip4get p).1.opts.size) mtu)) true).off then ([], 4)
  else (cutL (ip4get p).1 (ip4get p).2.1 (partR (20 + (ip4get p).1.opts.size) mtu), 0)

/-- A text in a row. -/
def strC (s : ByteArray) : Array Value := #[.string s]

theorem cutN_more {z n k : Nat} (hn : 0 < n) (h : k ≤ cutN z n) (hz : n < z - k * n) : k + 1 ≤ cutN z n := by
  unfold cutN at *
  rw [Nat.le_div_iff_mul_le hn, Nat.succ_mul]; omega
theorem cutN_end {z n k : Nat} (hn : 0 < n) (h : k ≤ cutN z n) (hz : ¬ n < z - k * n) : k = cutN z n := by
  unfold cutN at *
  have h1 : (z - 1) / n < k + 1 := by rw [Nat.div_lt_iff_lt_mul hn, Nat.succ_mul]; omega
  omega
theorem cutN_le {z n k : Nat} (hn : 0 < n) (h : k ≤ cutN z n) : k * n ≤ z := by
  unfold cutN at h
  rw [Nat.le_div_iff_mul_le hn] at h; omega
theorem strC_size (l : List ByteArray) : ∀ c ∈ l.map strC, c.size = 1 := by simp [strC]
end Go.Proofs.Ytlgjhacmhkbkdaa
