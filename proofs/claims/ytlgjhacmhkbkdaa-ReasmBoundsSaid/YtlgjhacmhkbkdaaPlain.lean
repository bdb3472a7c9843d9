/- Plain words on bytes and sums: no program, no memory. -/
import Derived.KernelRfl
import Derived.Laws.BitsAllLaws
import Derived.Laws.BitsLemmas
namespace Go.Proofs.Ytlgjhacmhkbkdaa

/-- The sum of numbers of two bytes; the first byte is the higher one, if o is false. -/
def osum : Bool → List UInt8 → Nat
  | _, [] => 0
  | false, x :: l => x.toNat * 256 + osum true l
  | true, x :: l => x.toNat + osum false l

/-- Whether the next byte is a lower one. -/
def opar : Bool → List UInt8 → Bool
  | o, [] => o
  | o, _ :: l => opar (!o) l

theorem osum_append : ∀ (a b : List UInt8) (o : Bool), osum o (a ++ b) = osum o a + osum (opar o a) b
  | [], b, o => by simp [osum, opar]
  | x :: a, b, o => by cases o <;> simp [osum, opar, osum_append a b] <;> omega

theorem opar_append : ∀ (a b : List UInt8) (o : Bool), opar o (a ++ b) = opar (opar o a) b
  | [], b, o => by simp [opar]
  | x :: a, b, o => by simp [opar, opar_append a b]

theorem osum_le : ∀ (a : List UInt8) (o : Bool), osum o a ≤ 65280 * a.length
  | [], o => by simp [osum]
  | x :: a, o => by
    have h1 := osum_le a true
    have h2 := osum_le a false
    have := x.toNat_lt
    cases o <;> simp only [osum, List.length_cons] <;> omega

/-- Folded to 16 bits. -/
def foldn (n : Nat) : Nat := if n = 0 then 0 else (n - 1) % 65535 + 1

theorem foldn_small {n : Nat} (h : n ≤ 65535) : foldn n = n := by unfold foldn; split <;> omega

theorem foldn_step {n : Nat} (h : 65535 < n) : foldn (n % 65536 + n / 65536) = foldn n := by
  unfold foldn
  rw [if_neg (by omega), if_neg (by omega)]
  omega

theorem foldn_le (n : Nat) : foldn n ≤ 65535 := by unfold foldn; split <;> omega

/-- The Internet's checksum. -/
def csum (l : List UInt8) : Nat := 65535 - foldn (osum false l)

theorem csum_le (l : List UInt8) : csum l ≤ 65535 := by unfold csum; omega

theorem xor_mask (n : Nat) (h : n ≤ 65535) : n ^^^ 65535 = 65535 - n := by
  have h1 : ∀ k, (n ^^^ 65535).testBit k = (65535 - n).testBit k := by
    intro k
    rw [Nat.testBit_xor, show (65535 : Nat) = 2 ^ 16 - 1 from rfl, Nat.testBit_two_pow_sub_one]
    have : 2 ^ 16 - 1 - n = 2 ^ 16 - (n + 1) := by omega
    rw [this, Nat.testBit_two_pow_sub_succ (by omega)]
    by_cases hk : k < 16
    · simp [hk]
    · have : n.testBit k = false := Nat.testBit_lt_two_pow (Nat.lt_of_lt_of_le (by omega : n < 2 ^ 16) (Nat.pow_le_pow_right (by omega) (by omega)))
      simp [hk, this]
  exact Nat.eq_of_testBit_eq h1

/-- A number by its bytes, the highest first. -/
def val (l : List UInt8) : Nat := l.foldl (fun a x => a * 256 + x.toNat) 0

theorem val_snoc (l : List UInt8) (x : UInt8) : val (l ++ [x]) = val l * 256 + x.toNat := by simp [val]

theorem val_lt' : ∀ (l : List UInt8) (a : Nat), l.foldl (fun a x => a * 256 + x.toNat) a < (a + 1) * 256 ^ l.length
  | [], a => by simp
  | x :: l, a => by
    have h := val_lt' l (a * 256 + x.toNat)
    have hx := x.toNat_lt
    simp only [List.foldl_cons, List.length_cons]
    refine Nat.lt_of_lt_of_le h ?_
    rw [Nat.pow_succ, Nat.mul_comm (256 ^ l.length) 256, ← Nat.mul_assoc]
    exact Nat.mul_le_mul_right _ (by omega)

theorem val_lt (l : List UInt8) : val l < 256 ^ l.length := by have := val_lt' l 0; simpa [val] using this

theorem val_take_lt (l : List UInt8) (n : Nat) : val (l.take n) < 256 ^ n :=
  Nat.lt_of_lt_of_le (val_lt _) (Nat.pow_le_pow_right (by omega) (List.length_take_le _ _))

/-- A number of n bytes from k on. -/
def num (p : ByteArray) (k n : Nat) : Nat := val ((p.data.toList.drop k).take n)

/-- An IPv4 header. -/
structure Hdr where
  tos : Int
  id : Int
  off : Int
  ttl : Int
  proto : Int
  df : Bool
  mf : Bool
  src : ByteArray
  dst : ByteArray
  opts : ByteArray

def Hdr.zero : Hdr := ⟨0, 0, 0, 0, 0, false, false, ⟨#[]⟩, ⟨#[]⟩, ⟨#[]⟩⟩

/-- How many bytes a packet says that its header has. -/
def hlen (p : ByteArray) : Nat := 4 * (num p 0 1 % 16)

/-- What is wrong with a packet: an error's number. -/
def ip4err (p : ByteArray) : Nat :=
  if p.size < 20 then 2
  else if num p 0 1 / 16 ≠ 4 then 3
  else if hlen p < 20 ∨ p.size < hlen p ∨ num p 2 2 ≠ p.size then 4
  else if csum (p.data.toList.take (hlen p)) ≠ 0 then 5
  else if num p 6 2 / 32768 ≠ 0 then 9
  else 0

/-- A right packet's header. -/
def ip4hdr (p : ByteArray) : Hdr :=
  { tos := num p 1 1, id := num p 4 2, off := (num p 6 2 : Int) % 8192, ttl := num p 8 1, proto := num p 9 1,
    df := (num p 6 2 : Int) / 16384 % 2 == 1, mf := (num p 6 2 : Int) / 8192 % 2 == 1, src := p.extract 12 16, dst := p.extract 16 20, opts := p.extract 20 (hlen p) }

/-- A right packet's payload. -/
def ip4pay (p : ByteArray) : ByteArray := p.extract (hlen p) p.size

theorem i64_small (n : Nat) (h : n < 9223372036854775808) : IntKind.i64.wrap (n : Int) = n := by rw [IntKind.wrap_i64]; omega

theorem i64_and_nat (a b : Nat) (ha : a < 9223372036854775808) (hb : b < 9223372036854775808) : bits .and .i64 (a : Int) (b : Int) = ((a &&& b : Nat) : Int) :=
  (bits_nat .i64 63 (by decide) (fun n h0 h1 => by rw [IntKind.wrap_i64]; omega) a b ha hb).1

theorem i64_or_nat (a b : Nat) (ha : a < 9223372036854775808) (hb : b < 9223372036854775808) : bits .or .i64 (a : Int) (b : Int) = ((a ||| b : Nat) : Int) :=
  (bits_nat .i64 63 (by decide) (fun n h0 h1 => by rw [IntKind.wrap_i64]; omega) a b ha hb).2

theorem i64_xor_nat (a b : Nat) (ha : a < 9223372036854775808) (hb : b < 9223372036854775808) : bits .xor .i64 (a : Int) (b : Int) = ((a ^^^ b : Nat) : Int) := by
  have hx : a ^^^ b < 2 ^ 63 := Nat.xor_lt_two_pow (by omega) (by omega)
  have h1 : (BitVec.ofInt 64 (a : Int)).toNat = a := by
    rw [BitVec.ofInt_natCast, BitVec.toNat_ofNat]; exact Nat.mod_eq_of_lt (by omega)
  have h2 : (BitVec.ofInt 64 (b : Int)).toNat = b := by
    rw [BitVec.ofInt_natCast, BitVec.toNat_ofNat]; exact Nat.mod_eq_of_lt (by omega)
  show IntKind.i64.wrap ((BitVec.ofInt 64 (a : Int) ^^^ BitVec.ofInt 64 (b : Int)).toNat : Int) = _
  rw [BitVec.toNat_xor, h1, h2]
  exact i64_small _ (by omega)
end Go.Proofs.Ytlgjhacmhkbkdaa
