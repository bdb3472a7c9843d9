/- ip4.header, ip4.Put. -/
import Derived.Test.YtlgjhacmhkbkdaaIp4Chk2
import Derived.Test.YtlgjhacmhkbkdaaWriter
import Derived.Test.YtlgjhacmhkbkdaaSum
import Derived.Laws.Concat
namespace Go.Proofs.Ytlgjhacmhkbkdaa
open Go.RowKit

def bitOf (is : Bool) (n : Nat) : Nat := if is then 2 ^ n else 0

set_option maxHeartbeats 400000 in
theorem ip4bit_any (is : Bool) (n : Nat) (w : World) (hn : n = 13 ∨ n = 14) : Calls Try.prog 95 #[.bool is, .int .i64 n] w fun e w' => e = .returned (.int .i64 (bitOf is n)) ∧ w' = w := by
  go_enter Try.func95, Try.ntmps95
  cases is
  · go_wp2_with fail
    go_ret
    exact ⟨rfl, rfl⟩
  · rcases hn with rfl | rfl
    · go_wp2_with fail
      go_ret
      exact ⟨rfl, rfl⟩
    · go_wp2_with fail
      go_ret
      exact ⟨rfl, rfl⟩

/-- What a header's flags and offset are. -/
def flagsOf (h : Hdr) : Nat := bitOf h.df 14 + bitOf h.mf 13 + h.off.toNat

/-- A header's bytes. -/
def hdrBytes (h : Hdr) (total check : Nat) : List UInt8 :=
  be (69 + h.opts.size / 4) 1 ++ be h.tos.toNat 1 ++ be total 2 ++ be h.id.toNat 2 ++ be (flagsOf h) 2 ++ be h.ttl.toNat 1 ++ be h.proto.toNat 1 ++ be check 2 ++ (h.src ++ h.dst ++ h.opts).data.toList

/-- The walk of a header: what has been written, and what stands. -/
structure HS (N : Nat) (h : Hdr) (w W : World) (l : List UInt8) : Prop where
  wtr : Wtr W (N + 1) l
  hdr : Blk W N (hdrCells h) 43
  fr : Fr [] w W

theorem HS.step {N : Nat} {h : Hdr} {w W W' : World} {l l' : List UInt8} (hs : HS N h w W l) (hw : Wtr W' (N + 1) l') (hb : Below (N + 1) W W') (hN : N = w.heap.size) : HS N h w W' l' where
  wtr := hw
  hdr := by
    have h1 := hs.hdr
    unfold Blk at *
    rw [hb.block N (by omega)]; exact h1
  fr := ⟨hb.os.trans hs.fr.os, hb.tape.trans hs.fr.tape, hb.output.trans hs.fr.output, Nat.le_trans hs.fr.size hb.size, fun k hk hn => (hb.block k (by omega)).trans (hs.fr.block k hk hn)⟩

theorem HS.step' {N : Nat} {h : Hdr} {w W W' : World} {l : List UInt8} (hs : HS N h w W l) (hb : Below (N + 1) W W') (hN : N = w.heap.size) : Fr [] w W' :=
  ⟨hb.os.trans hs.fr.os, hb.tape.trans hs.fr.tape, hb.output.trans hs.fr.output, Nat.le_trans hs.fr.size hb.size, fun k hk hn => (hb.block k (by omega)).trans (hs.fr.block k hk hn)⟩

theorem hdrOk_spec {h : Hdr} (hok : hdrOk h = true) : (0 ≤ h.tos ∧ h.tos ≤ 255) ∧ (0 ≤ h.ttl ∧ h.ttl ≤ 255) ∧ (0 ≤ h.proto ∧ h.proto ≤ 255) ∧ (0 ≤ h.id ∧ h.id ≤ 65535) ∧ (0 ≤ h.off ∧ h.off ≤ 8191) ∧ h.src.size = 4 ∧ h.dst.size = 4 ∧ h.opts.size ≤ 40 ∧ h.opts.size % 4 = 0 := by
  simp [hdrOk, allIn, inPair] at hok
  omega

theorem words_val : ∀ n : Nat, n < 41 → bits .or .i64 64 (wrap64 ((wrap64 (20 + (n : Int))).tdiv 4)) = ((69 + n / 4 : Nat) : Int) := by
  have h : (List.range 41).all (fun n => decide (bits .or .i64 64 (wrap64 ((wrap64 (20 + (n : Int))).tdiv 4)) = ((69 + n / 4 : Nat) : Int))) = true := by kernel_rfl
  intro n hn
  have h1 := List.all_eq_true.1 h n (by simpa using hn)
  simpa using h1

theorem flags_val (df mf : Bool) (off : Int) (h0 : 0 ≤ off) (h1 : off ≤ 8191) : bits .or .i64 (bits .or .i64 ((bitOf df 14 : Nat) : Int) ((bitOf mf 13 : Nat) : Int)) off = ((bitOf df 14 + bitOf mf 13 + off.toNat : Nat) : Int) := by
  obtain ⟨n, rfl⟩ := Int.eq_ofNat_of_zero_le h0
  have ha : bitOf df 14 ≤ 16384 := by cases df <;> simp [bitOf]
  have hb : bitOf mf 13 ≤ 8192 := by cases mf <;> simp [bitOf]
  have hab : bitOf df 14 ||| bitOf mf 13 = bitOf df 14 + bitOf mf 13 := by cases df <;> cases mf <;> simp [bitOf]
  have hk : ∃ k, bitOf df 14 + bitOf mf 13 = 2 ^ 13 * k := by
    cases df <;> cases mf
    · exact ⟨0, rfl⟩
    · exact ⟨1, rfl⟩
    · exact ⟨2, rfl⟩
    · exact ⟨3, rfl⟩
  rw [i64_or_nat _ _ (by omega) (by omega), hab, i64_or_nat _ _ (by omega) (by omega)]
  obtain ⟨k, hk⟩ := hk
  rw [hk, ← Nat.two_pow_add_eq_or_of_lt (by omega)]
  simp

theorem u64_nat (n : Nat) (h : n < 18446744073709551616) : (IntKind.u64.wrap (n : Int)).toNat = n := by rw [IntKind.wrap_u64]; omega
theorem u64_int (n : Int) (h0 : 0 ≤ n) (h : n < 18446744073709551616) : (IntKind.u64.wrap n).toNat = n.toNat := by rw [IntKind.wrap_u64]; omega

set_option maxRecDepth 100000 in
set_option maxHeartbeats 2000000 in
theorem ip4header_any (h : Hdr) (total check : Nat) (w : World) (hok : hdrOk h = true) (ht : total ≤ 65535) (hc : check ≤ 65535) :
    Calls Try.prog 74 #[hdrV h, .int .i64 total, .int .i64 check] w fun e w' => e = .returned (.string ⟨(hdrBytes h total check).toArray⟩) ∧ Fr [] w w' := by
  obtain ⟨N, hN⟩ : ∃ N, N = w.heap.size := ⟨_, rfl⟩
  have hq := hdrOk_spec hok
  have HQ := Lib.hid hq
  unfold hdrV hdrCells
  have HN := Lib.hid hN
  have HT := Lib.hid (And.intro ht hc)
  clear hq hok ht hc
  go_enter Try.func74, Try.ntmps74
  go_wp2_with fail
  rw [← hN]
  refine Calls.world fun W0 hW => ?_
  have s0 : HS N h w W0 [] := by
    rw [hW]
    refine ⟨?_, ?_, ?_⟩
    · have hf := Lib.fresh_isBuilder 151 5 (w.alloc (Obj.cells #[Value.int IntKind.i64 h.tos, Value.int IntKind.i64 h.id, Value.int IntKind.i64 h.off, Value.int IntKind.i64 h.ttl, Value.int IntKind.i64 h.proto, Value.bool h.df, Value.bool h.mf, Value.string h.src, Value.string h.dst, Value.string h.opts] 43))
      rw [show (w.alloc (Obj.cells #[Value.int IntKind.i64 h.tos, Value.int IntKind.i64 h.id, Value.int IntKind.i64 h.off, Value.int IntKind.i64 h.ttl, Value.int IntKind.i64 h.proto, Value.bool h.df, Value.bool h.mf, Value.string h.src, Value.string h.dst, Value.string h.opts] 43)).heap.size = N + 1 from by simp [hN]] at hf
      exact hf
    · exact (Blk.new_at hN _ _).alloc _
    · exact ((Fr.refl _ _).alloc _).alloc _
  clear hW hN
  rw [words_val _ (by have := HQ.out; omega)]
  have S0 := Lib.hid s0
  clear s0
  refine (wu8_any (N + 1) _ _ W0 S0.out.wtr (by simp [be_length])).mono ?_
  rintro e w1 ⟨rfl, h1, hb⟩
  rw [u64_nat _ (by have := HQ.out; omega)] at h1
  have s1 := S0.out.step h1 hb HN.out
  clear h1 hb S0
  have c1 : ∀ k, w1.cell? ⟨N, k, none⟩ = (hdrCells h)[k]? := s1.hdr.cell
  simp only [hdrCells] at c1
  have S1 := Lib.hid s1
  clear s1
  go_wp2_with fail
  refine (wu8_any (N + 1) _ _ w1 S1.out.wtr (by simp [be_length])).mono ?_
  rintro e w2 ⟨rfl, h1, hb⟩
  rw [u64_int h.tos (by have := HQ.out; omega) (by have := HQ.out; omega)] at h1
  have s1 := S1.out.step h1 hb HN.out
  clear h1 hb S1
  have c2 : ∀ k, w2.cell? ⟨N, k, none⟩ = (hdrCells h)[k]? := s1.hdr.cell
  simp only [hdrCells] at c2
  clear c1
  have S2 := Lib.hid s1
  clear s1
  go_wp2_with fail
  refine (wu16_any (N + 1) _ _ w2 S2.out.wtr (by simp [be_length])).mono ?_
  rintro e w3 ⟨rfl, h1, hb⟩
  rw [u64_nat _ (by have := HT.out; omega)] at h1
  have s1 := S2.out.step h1 hb HN.out
  clear h1 hb S2
  have c3 : ∀ k, w3.cell? ⟨N, k, none⟩ = (hdrCells h)[k]? := s1.hdr.cell
  simp only [hdrCells] at c3
  clear c2
  have S3 := Lib.hid s1
  clear s1
  go_wp2_with fail
  refine (wu16_any (N + 1) _ _ w3 S3.out.wtr (by simp [be_length])).mono ?_
  rintro e w4 ⟨rfl, h1, hb⟩
  rw [u64_int h.id (by have := HQ.out; omega) (by have := HQ.out; omega)] at h1
  have s1 := S3.out.step h1 hb HN.out
  clear h1 hb S3
  have c4 : ∀ k, w4.cell? ⟨N, k, none⟩ = (hdrCells h)[k]? := s1.hdr.cell
  simp only [hdrCells] at c4
  clear c3
  have S4 := Lib.hid s1
  clear s1
  go_wp2_with fail
  refine wp_region_still_tail 10 (by kernel_rfl) (by kernel_rfl) ?_
  simp only [List.take_succ_cons, List.take_zero, List.drop_succ_cons, List.drop_zero]
  repeat still_step
  skip
  still_call (ip4bit_any h.df 14 _ (.inr rfl))
  repeat still_step
  still_call (ip4bit_any h.mf 13 _ (.inl rfl))
  repeat still_step
  refine wpStill_nil ?_
  rw [flags_val h.df h.mf h.off (by have := HQ.out; omega) (by have := HQ.out; omega), show bitOf h.df 14 + bitOf h.mf 13 + h.off.toNat = flagsOf h from rfl]
  have hfl : flagsOf h < 65536 := by
    have := HQ.out
    unfold flagsOf bitOf; split <;> split <;> omega
  have HFL := Lib.hid hfl
  clear hfl
  have S4' : HS N h w w4.drew _ := ⟨S4.out.wtr.drew, S4.out.hdr.drew, S4.out.fr.drew⟩
  clear S4
  have S4 := Lib.hid S4'
  clear S4'
  change wpList _ _ _ _ _ w4.drew
  replace c4 : ∀ k, w4.drew.cell? ⟨N, k, none⟩ = (hdrCells h)[k]? := c4
  simp only [hdrCells] at c4
  generalize w4.drew = w4 at *
  go_wp2_with fail
  refine (wu16_any (N + 1) _ _ w4 S4.out.wtr (by simp [be_length])).mono ?_
  rintro e w5 ⟨rfl, h1, hb⟩
  rw [u64_nat _ (by have := HFL.out; omega)] at h1
  have s1 := S4.out.step h1 hb HN.out
  clear h1 hb S4
  have c5 : ∀ k, w5.cell? ⟨N, k, none⟩ = (hdrCells h)[k]? := s1.hdr.cell
  simp only [hdrCells] at c5
  clear c4
  have S5 := Lib.hid s1
  clear s1
  go_wp2_with fail
  refine (wu8_any (N + 1) _ _ w5 S5.out.wtr (by simp [be_length])).mono ?_
  rintro e w6 ⟨rfl, h1, hb⟩
  rw [u64_int h.ttl (by have := HQ.out; omega) (by have := HQ.out; omega)] at h1
  have s1 := S5.out.step h1 hb HN.out
  clear h1 hb S5
  have c6 : ∀ k, w6.cell? ⟨N, k, none⟩ = (hdrCells h)[k]? := s1.hdr.cell
  simp only [hdrCells] at c6
  clear c5
  have S6 := Lib.hid s1
  clear s1
  go_wp2_with fail
  refine (wu8_any (N + 1) _ _ w6 S6.out.wtr (by simp [be_length])).mono ?_
  rintro e w7 ⟨rfl, h1, hb⟩
  rw [u64_int h.proto (by have := HQ.out; omega) (by have := HQ.out; omega)] at h1
  have s1 := S6.out.step h1 hb HN.out
  clear h1 hb S6
  have c7 : ∀ k, w7.cell? ⟨N, k, none⟩ = (hdrCells h)[k]? := s1.hdr.cell
  simp only [hdrCells] at c7
  clear c6
  have S7 := Lib.hid s1
  clear s1
  go_wp2_with fail
  refine (wu16_any (N + 1) _ _ w7 S7.out.wtr (by simp [be_length])).mono ?_
  rintro e w8 ⟨rfl, h1, hb⟩
  rw [u64_nat _ (by have := HT.out; omega)] at h1
  have s1 := S7.out.step h1 hb HN.out
  clear h1 hb S7
  have c8 : ∀ k, w8.cell? ⟨N, k, none⟩ = (hdrCells h)[k]? := s1.hdr.cell
  simp only [hdrCells] at c8
  clear c7
  have S8 := Lib.hid s1
  clear s1
  have ha1 : ∀ W, (Op.stringOp .add h.src h.dst).run Try.prog W = .ok (.string (h.src ++ h.dst)) W := fun W => run_string_add_sum W _ _ (by have := HQ.out; omega)
  have ha2 : ∀ W, (Op.stringOp .add (h.src ++ h.dst) h.opts).run Try.prog W = .ok (.string (h.src ++ h.dst ++ h.opts)) W := fun W => run_string_add_sum W _ _ (by have := HQ.out; rw [ByteArray.size_append]; omega)
  go_wp2_with fail
  refine (wtext_any (N + 1) _ (h.src ++ h.dst ++ h.opts) w8 S8.out.wtr (by have := HQ.out; simp [be_length, ByteArray.size_append]; omega)).mono ?_
  rintro e w9 ⟨rfl, h1, hb⟩
  have s1 := S8.out.step h1 hb HN.out
  have S9 := Lib.hid s1
  clear s1 h1 hb c8 S8 ha1 ha2
  go_wp2_with fail
  refine (wstring_any (N + 1) _ w9 S9.out.wtr).mono ?_
  rintro e w10 ⟨rfl, hb⟩
  have s1 := S9.out.step' hb HN.out
  have S10 := Lib.hid s1
  clear s1 hb S9
  go_wp2_with fail
  go_ret
  refine ⟨?_, S10.out⟩
  simp [hdrBytes, flagsOf]

/-- What ip4.Put answers. -/
def ip4put (h : Hdr) (y : ByteArray) : ByteArray × Nat :=
  if hdrOk h = false then (⟨#[]⟩, 1)
  else if 65535 < 20 + h.opts.size + y.size then (⟨#[]⟩, 4)
  else (⟨(hdrBytes h (20 + h.opts.size + y.size) (csum (hdrBytes h (20 + h.opts.size + y.size) 0))).toArray⟩ ++ y, 0)
end Go.Proofs.Ytlgjhacmhkbkdaa
