/- palanquinref05.Put. -/
import Derived.Test.YtlgjhacmhkbkdaaRefSum
import Derived.Test.YtlgjhacmhkbkdaaRefRight
import Derived.Deep.RegionHeld3
namespace Go.Proofs.Ytlgjhacmhkbkdaa
open Go.RowKit

theorem add_bs (a b : List UInt8) (W : World) (h : a.length + b.length ≤ 100) : (Op.stringOp .add (bs a) (bs b)).run Try.prog W = .ok (.string (bs (a ++ b))) W := by
  rw [run_string_add_sum W _ _ (by rw [bs_size, bs_size]; omega), bs_append]

/-- A header's bytes ahead of the sum. -/
def hdrHead (h : Hdr) (total : Nat) : List UInt8 :=
  be (69 + h.opts.size / 4) 1 ++ be h.tos.toNat 1 ++ be total 2 ++ be h.id.toNat 2 ++ be (flagsOf h) 2 ++ be h.ttl.toNat 1 ++ be h.proto.toNat 1

def hdrTail (h : Hdr) : ByteArray := h.src ++ h.dst ++ h.opts

theorem hdrBytes_parts (h : Hdr) (total check : Nat) : hdrBytes h total check = hdrHead h total ++ be check 2 ++ (hdrTail h).data.toList := by simp [hdrBytes, hdrHead, hdrTail]

theorem headL (h : Hdr) (T : Nat) (t f : Int) (ht : t = (T : Int)) (hf : f.toNat = flagsOf h) :
    be (69 + (h.opts.size : Int) / 4).toNat 1 ++ (be h.tos.toNat 1 ++ (be t.toNat 2 ++ (be h.id.toNat 2 ++ (be f.toNat 2 ++ (be h.ttl.toNat 1 ++ be h.proto.toNat 1))))) = hdrHead h T := by
  rw [hf, ht, show (69 + (h.opts.size : Int) / 4).toNat = 69 + h.opts.size / 4 by omega]
  simp [hdrHead]

theorem hdrHead_length (h : Hdr) (T : Nat) : (hdrHead h T).length = 10 := by simp [hdrHead, be_length]

theorem hdr_joined (h : Hdr) (T X : Nat) : bs (hdrHead h T ++ be X 2) ++ hdrTail h = ⟨(hdrBytes h T X).toArray⟩ := by
  rw [hdrBytes_parts]
  apply ByteArray.ext
  apply Array.ext'
  simp [bs]

theorem hdr_zeros (h : Hdr) (T : Nat) : (bs (hdrHead h T ++ [0, 0]) ++ hdrTail h).data.toList = hdrBytes h T 0 := by
  rw [hdrBytes_parts, show be 0 2 = [0, 0] from rfl]
  simp [bs]

set_option maxRecDepth 100000 in
set_option maxHeartbeats 8000000 in
theorem rput5_any (h : Hdr) (y : ByteArray) (w : World) (ho : h.opts.size ≤ 35184372088832) (hy : y.size ≤ 35184372088832) :
    Calls Try.prog 22 #[hdrV h, .string y] w fun e w' => e = .returned (.tuple #[.string (ip4put h y).1, .int .i64 (ip4put h y).2]) ∧ Fr [] w w' := by
  obtain ⟨N, hN⟩ : ∃ N, N = w.heap.size := ⟨_, rfl⟩
  have HCK := Lib.hid (rright5_any h ((w.alloc (Obj.cells (hdrCells h) 43))))
  have HB := Lib.hid (And.intro hN (And.intro ho hy))
  clear hN ho
  unfold hdrV hdrCells
  go_enter Try.func22, Try.ntmps22
  go_wp2_with fail
  refine HCK.out.mono ?_
  rintro e w1 ⟨rfl, hf⟩
  have b0 : Blk w1 N (hdrCells h) 43 := hf.keep (Blk.new_at HB.out.1 _ _) (by simp)
  have f0 : Fr [] w w1 := ((Fr.refl _ _).alloc _).trans hf
  rw [← HB.out.1]
  clear hf HCK
  cases hok : hdrOk h
  · have hv : ip4put h y = (⟨#[]⟩, 1) := by rw [ip4put, if_pos hok]
    have HV := Lib.hid (And.intro hv f0)
    clear hv b0 f0 hok
    go_wp2_with fail
    go_ret2
    exact ⟨by rw [HV.out.1]; rfl, HV.out.2⟩
  · have hsp := hdrOk_spec hok
    have ho40 : h.opts.size ≤ 40 := by omega
    have HK := Lib.hid (And.intro b0 (And.intro f0 (And.intro hok hsp)))
    have c0 : ∀ k, w1.cell? ⟨N, k, none⟩ = (hdrCells h)[k]? := b0.cell
    simp only [hdrCells] at c0
    clear b0 f0 hsp hok
    by_cases ht : 65535 < 20 + h.opts.size + y.size
    · have d0 : decide (65535 < 20 + h.opts.size + y.size) = true := by simpa using ht
      have d1 : decide ((65535 : Int) < 20 + (h.opts.size : Int) + (y.size : Int)) = true := by simp; omega
      have hv : ip4put h y = (⟨#[]⟩, 4) := by rw [ip4put, if_neg (by rw [HK.out.2.2.1]; simp), if_pos ht]
      have HV := Lib.hid hv
      clear hv ht
      go_wp2_with fail
      go_ret2
      exact ⟨by rw [HV.out]; rfl, HK.out.2.1⟩
    · have d0 : decide (65535 < 20 + h.opts.size + y.size) = false := by simpa using ht
      have d1 : decide ((65535 : Int) < 20 + (h.opts.size : Int) + (y.size : Int)) = false := by simp; omega
      have hv : ip4put h y = (⟨(hdrBytes h (20 + h.opts.size + y.size) (csum (hdrBytes h (20 + h.opts.size + y.size) 0))).toArray⟩ ++ y, 0) := by rw [ip4put, if_neg (by rw [HK.out.2.2.1]; simp), if_neg ht]
      have ho0 : 0 ≤ h.off ∧ h.off ≤ 8191 := by have := HK.out.2.2.2; omega
      have HV := Lib.hid hv
      have hbl : ∀ n k, (be n k).length = k := be_length
      have hadd : ∀ (a b : List UInt8) (W : World), a.length + b.length ≤ 100 → (Op.stringOp .add (bs a) (bs b)).run Try.prog W = .ok (.string (bs (a ++ b))) W := add_bs
      have hnum : ∀ (n k : Int) W, 0 ≤ n → n < 9223372036854775808 → 0 ≤ k → k ≤ 8 → Calls Try.prog 46 #[.int .i64 n, .int .i64 k] W fun e w' => e = .returned (.string (bs (be n.toNat k.toNat))) ∧ Fr [] W w' := by
        intro n k W h0 h1 k0 k1
        obtain ⟨k, rfl⟩ := Int.eq_ofNat_of_zero_le k0
        have := rnum5_any n k W (by omega)
        rw [u64_int n h0 (by omega)] at this
        exact this
      have HN := Lib.hid hnum
      have HBL := Lib.hid hbl
      have HADD := Lib.hid hadd
      clear hv hnum hbl hadd ht
      go_wp2_with fail
      all_goals
        have hbl := HBL.out
        have hadd := HADD.out
        have e1 : IntKind.i64.wrap ((h.opts.size : Int) / 4) = (h.opts.size : Int) / 4 := by rw [IntKind.wrap_i64]; omega
        have e2 : IntKind.i64.wrap (69 + (h.opts.size : Int) / 4) = 69 + (h.opts.size : Int) / 4 := by rw [IntKind.wrap_i64]; omega
        go_region_held3 (fun w' => (∀ k, w'.cell? ⟨N, k, none⟩ = (#[Value.int IntKind.i64 h.tos, Value.int IntKind.i64 h.id, Value.int IntKind.i64 h.off, Value.int IntKind.i64 h.ttl, Value.int IntKind.i64 h.proto, Value.bool h.df, Value.bool h.mf, Value.string h.src, Value.string h.dst, Value.string h.opts] : Array Value)[k]?))
          (first | (exact kk) | go_keep)
          (first | (go_at_call 46; refine (HN.out _ _ _ (by have := HK.out; omega) (by have := HK.out; omega) (by omega) (by omega)).mono ?_; rintro e w4 ⟨rfl, hf4⟩; (first | (have hh := hh.trans hf4) | (have hh := ((Fr.refl [] w1).drew).trans hf4)); have kk := hh.cells c0 (by simp) (by simp)))
        rw [headL h (20 + h.opts.size + y.size) _ _ (by simp) (by simp [flagsOf, bitOf, *]; try omega)]
        have hll := hdrHead_length h (20 + h.opts.size + y.size)
        have hjo := hdr_joined h (20 + h.opts.size + y.size)
        have hze := hdr_zeros h (20 + h.opts.size + y.size)
        generalize hdrHead h (20 + h.opts.size + y.size) = L at *
        have HQ := Lib.hid HK.out.2.2.2
        have htl : (hdrTail h).size = 8 + h.opts.size := by have := HQ.out; rw [hdrTail, ByteArray.size_append, ByteArray.size_append]; omega
        have ha1 : ∀ W, (Op.stringOp .add h.src h.dst).run Try.prog W = .ok (.string (h.src ++ h.dst)) W := fun W => run_string_add_sum W _ _ (by have := HQ.out; omega)
        have ha2 : ∀ W, (Op.stringOp .add (h.src ++ h.dst) h.opts).run Try.prog W = .ok (.string (hdrTail h)) W := fun W => run_string_add_sum W _ _ (by have := HQ.out; rw [ByteArray.size_append]; omega)
        have hA : ∀ W, (Op.stringOp .add (bs L) { data := #[0, 0] }).run Try.prog W = .ok (.string (bs (L ++ [0, 0]))) W := fun W => add_bs L [0, 0] W (by rw [hll]; simp)
        have hB : ∀ (l : List UInt8) W, l.length = 12 → (Op.stringOp .add (bs l) (hdrTail h)).run Try.prog W = .ok (.string (bs l ++ hdrTail h)) W := fun l W hl => run_string_add_sum W _ _ (by rw [bs_size, hl, htl]; omega)
        have hB1 := fun W => hB (L ++ [0, 0]) W (by rw [List.length_append, hll]; rfl)
        have hcs := csum_le (hdrBytes h (20 + h.opts.size + y.size) 0)
        have HR := Lib.hid (fun W => rsum2_any (bs (L ++ [0, 0]) ++ hdrTail h) W (by rw [ByteArray.size_append, bs_size, List.length_append, hll, htl]; simp; omega))
        rw [hze] at HR
        generalize csum (hdrBytes h (20 + h.opts.size + y.size) 0) = X at *
        have hC : ∀ W, (Op.stringOp .add (bs L) (bs (be X 2))).run Try.prog W = .ok (.string (bs (L ++ be X 2))) W := fun W => add_bs L (be X 2) W (by rw [hll, be_length]; simp)
        have hB2 := fun W => hB (L ++ be X 2) W (by rw [List.length_append, hll, be_length])
        have hE : ∀ W, (Op.stringOp .add (bs (L ++ be X 2) ++ hdrTail h) y).run Try.prog W = .ok (.string (bs (L ++ be X 2) ++ hdrTail h ++ y)) W := fun W => run_string_add_sum W _ _ (by rw [ByteArray.size_append, bs_size, List.length_append, hll, be_length, htl]; omega)
        have HJ := Lib.hid (hjo X)
        have HC := Lib.hid hcs
        have hfr := HK.out.2.1.trans hh
        have HF := Lib.hid hfr
        clear hbl hadd hjo hze hll htl hB hcs hfr e1 e2 hh c0
        go_wp2_with fail
        refine (HR.out _).mono ?_
        rintro e w5 ⟨rfl, hf5⟩
        have HF5 := Lib.hid (HF.out.trans hf5)
        clear hf5 HF HR hA hB1
        go_wp2_with fail
        refine (HN.out (X : Int) 2 _ (by omega) (by have := HC.out; omega) (by omega) (by omega)).mono ?_
        rintro e w6 ⟨rfl, hf6⟩
        have HF6 := Lib.hid (HF5.out.trans hf6)
        clear hf6 HF5
        go_wp2_with fail
        go_ret2
        exact ⟨by rw [HV.out, HJ.out]; rfl, HF6.out⟩
end Go.Proofs.Ytlgjhacmhkbkdaa
