/- ip4.Put, whole. -/
import Derived.Test.YtlgjhacmhkbkdaaIp4Put
import Derived.Deep.RegionHeld3
namespace Go.Proofs.Ytlgjhacmhkbkdaa
open Go.RowKit

theorem be_len (n k : Nat) : (be n k).length = k := be_length n k

theorem hdrBytes_length (h : Hdr) (t c : Nat) (hok : hdrOk h = true) : (hdrBytes h t c).length = 20 + h.opts.size := by
  have := hdrOk_spec hok
  simp [hdrBytes, be_length]
  omega

/-- A header's whole length. -/
def totalOf (h : Hdr) (y : ByteArray) : Nat := 20 + h.opts.size + y.size

set_option maxRecDepth 100000 in
set_option maxHeartbeats 2000000 in
theorem ip4put_any (h : Hdr) (y : ByteArray) (w : World) (hs : h.src.size ≤ 35184372088832) (hd : h.dst.size ≤ 35184372088832) (ho : h.opts.size ≤ 35184372088832) (hy : y.size ≤ 35184372088832) :
    Calls Try.prog 50 #[hdrV h, .string y] w fun e w' => e = .returned (.tuple #[.string (ip4put h y).1, .int .i64 (ip4put h y).2]) ∧ Fr [] w w' := by
  obtain ⟨N, hN⟩ : ∃ N, N = w.heap.size := ⟨_, rfl⟩
  have hck := ip4check_any h ((w.alloc (Obj.cells (hdrCells h) 43))) hs hd ho
  have HCK := Lib.hid hck
  have HB := Lib.hid (And.intro hN (And.intro ho hy))
  clear hck hN hs hd ho
  unfold hdrV hdrCells
  go_enter Try.func50, Try.ntmps50
  go_wp2_with fail
  refine HCK.out.mono ?_
  rintro e w1 ⟨rfl, hf⟩
  have b0 : Blk w1 N (hdrCells h) 43 := hf.keep (Blk.new_at HB.out.1 _ _) (by simp)
  have f0 : Fr [] w w1 := ((Fr.refl _ _).alloc _).trans hf
  rw [← HB.out.1]
  by_cases hok : hdrOk h = true
  · have he : hdrErr h = 0 := by rw [hdrErr, if_pos hok]
    rw [he]
    have hsp := hdrOk_spec hok
    have hl := hdrBytes_length h
    have ho40 : h.opts.size ≤ 40 := by omega
    have HK := Lib.hid (And.intro b0 (And.intro f0 hok))
    have HL := Lib.hid hl
    have c0 : ∀ k, w1.cell? ⟨N, k, none⟩ = (hdrCells h)[k]? := b0.cell
    simp only [hdrCells] at c0
    clear hf HCK he hsp hl b0 f0 hok
    by_cases ht : 65535 < 20 + h.opts.size + y.size
    · have d0 : decide (65535 < 20 + h.opts.size + y.size) = true := by simpa using ht
      have d1 : decide ((65535 : Int) < 20 + (h.opts.size : Int) + (y.size : Int)) = true := by simp; omega
      have hv : ip4put h y = (⟨#[]⟩, 4) := by rw [ip4put, if_neg (by rw [HK.out.2.2]; simp), if_pos ht]
      have HV := Lib.hid hv
      clear hv ht
      go_wp2_with fail
      go_ret2
      exact ⟨by rw [HV.out]; rfl, HK.out.2.1⟩
    · have d0 : decide (65535 < 20 + h.opts.size + y.size) = false := by simpa using ht
      have d1 : decide ((65535 : Int) < 20 + (h.opts.size : Int) + (y.size : Int)) = false := by simp; omega
      have hv : ip4put h y = (⟨(hdrBytes h (20 + h.opts.size + y.size) (csum (hdrBytes h (20 + h.opts.size + y.size) 0))).toArray⟩ ++ y, 0) := by rw [ip4put, if_neg (by rw [HK.out.2.2]; simp), if_neg ht]
      have hT : 20 + (h.opts.size : Int) + (y.size : Int) = ((20 + h.opts.size + y.size : Nat) : Int) := by simp
      have hh : ∀ (c : Int) W, 0 ≤ c → c ≤ 65535 → Calls Try.prog 74 #[hdrV h, .int .i64 (20 + (h.opts.size : Int) + (y.size : Int)), .int .i64 c] W fun e w' => e = .returned (.string ⟨(hdrBytes h (20 + h.opts.size + y.size) c.toNat).toArray⟩) ∧ Fr [] W w' := by
        intro c W h0 hc
        obtain ⟨c, rfl⟩ := Int.eq_ofNat_of_zero_le h0
        rw [hT]
        exact ip4header_any h _ c W HK.out.2.2 (by omega) (by omega)
      have hsum : ∀ W, Calls Try.prog 75 #[.slice (some ⟨W.heap.size, 0, none⟩) 1 1] (W.alloc (Obj.cells #[Value.string ⟨(hdrBytes h (20 + h.opts.size + y.size) 0).toArray⟩] 9)) fun e w' =>
          e = .returned (.int .i64 (csum (hdrBytes h (20 + h.opts.size + y.size) 0))) ∧ Fr [] W w' := by
        intro W
        have hr := sum_any [⟨(hdrBytes h (20 + h.opts.size + y.size) 0).toArray⟩] W.heap.size 1 (W.alloc (Obj.cells #[Value.string ⟨(hdrBytes h (20 + h.opts.size + y.size) 0).toArray⟩] 9)) (by simp) (texts_new _ rfl) (by simp) (by simp [cat, HL.out _ _ HK.out.2.2]; omega)
        refine hr.mono ?_
        rintro e w' ⟨rfl, hf⟩
        exact ⟨by simp [cat], ((Fr.refl _ _).alloc _).trans hf⟩
      have ha : ∀ (c : Nat) W, (Op.stringOp .add ⟨(hdrBytes h (20 + h.opts.size + y.size) c).toArray⟩ y).run Try.prog W = .ok (.string (⟨(hdrBytes h (20 + h.opts.size + y.size) c).toArray⟩ ++ y)) W := fun c W => run_string_add_sum W _ _ (by
        have := HL.out (20 + h.opts.size + y.size) c HK.out.2.2
        have h2 : (ByteArray.mk (hdrBytes h (20 + h.opts.size + y.size) c).toArray).size = (hdrBytes h (20 + h.opts.size + y.size) c).length := by show (hdrBytes h (20 + h.opts.size + y.size) c).toArray.size = _; simp
        rw [h2, this]; omega)
      have HV := Lib.hid hv
      have HH := Lib.hid hh
      have HS := Lib.hid hsum
      have hcs := csum_le (hdrBytes h (20 + h.opts.size + y.size) 0)
      have HC := Lib.hid hcs
      have HK2 := Lib.hid HK.out.2.1
      clear hv hT hh hsum ht hcs
      go_wp2_with fail
      generalize hX : csum (hdrBytes h (20 + h.opts.size + y.size) 0) = X at *
      have HX := Lib.hid hX
      clear hX
      go_region_held3 (fun w' => (∀ k, w'.cell? ⟨N, k, none⟩ = (#[Value.int IntKind.i64 h.tos, Value.int IntKind.i64 h.id, Value.int IntKind.i64 h.off, Value.int IntKind.i64 h.ttl, Value.int IntKind.i64 h.proto, Value.bool h.df, Value.bool h.mf, Value.string h.src, Value.string h.dst, Value.string h.opts] : Array Value)[k]?))
        (first | (exact k6) | (exact k5) | (exact k4) | (exact ((Fr.refl [] w4).alloc _).cells k4 (by simp) (by simp)) | go_keep)
        (first | (go_at_call 74; refine (HH.out _ _ (by omega) (by have := HC.out; omega)).mono ?_; rintro e w4 ⟨rfl, hf4⟩; first | (have k6 := hf4.cells k5 (by simp) (by simp)) | (have k4 := (((Fr.refl [] w1).drew).trans hf4).cells c0 (by simp) (by simp))) | (go_at_call 75; refine (HS.out w4).mono ?_; rintro e w5 ⟨rfl, hf5⟩; have k5 := hf5.cells k4 (by simp) (by simp)))
      go_wp2_with fail
      go_ret2
      exact ⟨by rw [HV.out]; rfl, (((HK2.out.trans ((Fr.refl _ _).drew)).trans (by assumption)).trans hf5).trans hf4⟩
  · have he : hdrErr h = 1 := by rw [hdrErr, if_neg hok]
    have hv : ip4put h y = (⟨#[]⟩, 1) := by rw [ip4put, if_pos (by simpa using hok)]
    have HV := Lib.hid (And.intro hv f0)
    rw [he]
    clear hv HCK he hf b0 f0 hok
    go_wp2_with fail
    go_ret2
    exact ⟨by rw [HV.out.1]; rfl, HV.out.2⟩
end Go.Proofs.Ytlgjhacmhkbkdaa
