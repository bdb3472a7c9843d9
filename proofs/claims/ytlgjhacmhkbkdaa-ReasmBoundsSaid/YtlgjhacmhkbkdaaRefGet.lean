/- palanquinref05.Get. -/
import Derived.Test.YtlgjhacmhkbkdaaRefSum
import Derived.Test.YtlgjhacmhkbkdaaIp4Get2
import Derived.Test.YtlgjhacmhkbkdaaBase2
import Derived.Deep.RegionHeld3
import Derived.StillTailTactics
import Derived.Test.YtlgjhacmhkbkdaaReg
namespace Go.Proofs.Ytlgjhacmhkbkdaa
open Go.RowKit

set_option maxRecDepth 100000 in
set_option maxHeartbeats 1000000 in
theorem rvalue_any (s : ByteArray) (w : World) (hs : s.size ≤ 7) :
    Calls Try.prog 76 #[.string s] w fun e w' => e = .returned (.int .u64 (val s.data.toList)) ∧ w' = w := by
  go_enter Try.func76, Try.ntmps76
  go_wp2_with fail
  go_loopw [3, 4] (fun n v wr => ∃ i : Nat, i ≤ s.size ∧ n = .int .u64 (val (s.data.toList.take i) : Nat) ∧ v = .int .i64 (i : Int) ∧ wr = w) (fun _ v _ => s.size - (intOf v).toNat)
  case atStart => exact ⟨0, by omega, int_eq (by simp [val]), rfl, rfl⟩
  case round =>
    obtain ⟨i, hi, rfl, rfl, rfl⟩ := hrel
    have hv := val_take_lt s.data.toList i
    have hp : 256 ^ i ≤ 256 ^ 7 := Nat.pow_le_pow_right (by omega) (by omega)
    by_cases hlt : i < s.size
    · have hp6 : 256 ^ i ≤ 256 ^ 6 := Nat.pow_le_pow_right (by omega) (by omega)
      have hsn : val (s.data.toList.take (i + 1)) = val (s.data.toList.take i) * 256 + (s[i]'hlt).toNat := by
        rw [List.take_succ_eq_append_getElem (by simpa using hlt), val_snoc]; rfl
      have HS := Lib.hid hsn
      generalize val (s.data.toList.take i) = n at *
      have hn : n < 281474976710656 := by omega
      have hx := (s[i]'hlt).toNat_lt
      clear hsn hv hp hp6
      go_wp2_with fail
      exact ⟨⟨i + 1, by omega, int_eq (by rw [HS.out]; simp), by go_num, by first | rfl | trivial⟩, by simp [intOf]; omega⟩
    · obtain hie : i = s.size := by omega
      subst hie
      have htk : s.data.toList.take s.size = s.data.toList := by rw [← ByteArray.size_data, ← Array.length_toList, List.take_length]
      rw [htk]
      clear hv hp htk
      go_wp2_with fail
      go_ret
      exact ⟨rfl, by first | rfl | trivial⟩

theorem val_lt7 (s : ByteArray) (hs : s.size ≤ 7) : val s.data.toList < 72057594037927936 := by
  have h := val_lt s.data.toList
  have hl : s.data.toList.length = s.size := by simp
  rw [hl] at h
  exact Nat.lt_of_lt_of_le h (Nat.le_trans (Nat.pow_le_pow_right (by omega) hs) (by decide))

theorem num_extract (p : ByteArray) (k n : Nat) : val (p.extract k (k + n)).data.toList = num p k n := by
  unfold num
  congr 1
  simp

set_option maxHeartbeats 400000 in
theorem rat5_any (s : ByteArray) (k n : Nat) (w : World) (hn : n ≤ 7) (hk : k + n ≤ s.size) (hs : s.size ≤ 35184372088832) :
    Calls Try.prog 51 #[.string s, .int .i64 k, .int .i64 n] w fun e w' => e = .returned (.int .i64 (num s k n)) ∧ w' = w := by
  have hsz : (s.extract k (k + n)).size = n := by rw [ByteArray.size_extract]; omega
  have h7 := val_lt7 (s.extract k (k + n)) (by omega)
  have H := Lib.hid (rvalue_any (s.extract k (k + n)) w (by omega))
  rw [num_extract] at H h7
  generalize num s k n = v at *
  go_enter Try.func51, Try.ntmps51
  go_wp2_with fail
  refine H.out.mono ?_
  rintro e w1 ⟨rfl, rfl⟩
  go_wp2_with fail
  go_ret
  exact ⟨rfl, rfl⟩

theorem num_one (p : ByteArray) (k : Nat) (h : k < p.size) : num p k 1 = (p[k]'h).toNat := by
  unfold num
  have h1 : (p.data.toList.drop k).take 1 = [p.data.toList[k]'(by simpa using h)] := by
    rw [List.drop_eq_getElem_cons (by simpa using h)]; rfl
  rw [h1]
  simp [val]
  rfl

theorem results_rget5 (h : Hdr) (b : Nat) (v3 v4 : Value) (tmps : Array Value) (W : World) (hB : Blk W b (hdrCells h) 43) (h2 : tmps.getD 2 undef = .pointer (some ⟨b, 0, none⟩)) (h3 : tmps.getD 3 undef = v3) (h4 : tmps.getD 4 undef = v4) :
    (results Try.f25 tmps).run Try.prog W = .ok (.tuple #[hdrV h, v3, v4]) W := by
  have c := hB.cell
  simp only [hdrCells] at c
  simp only [Array.getD_eq_getD_getElem?] at h2 h3 h4
  simp [results, Try.results25, go_sem, h2, h3, h4, c, hdrV, hdrCells]

theorem rget5_exit (p : ByteArray) (w : World) (b e : Nat) (tmps : Array Value) (ds : List Deferred) (W : World) (hv : ip4get p = (Hdr.zero, ⟨#[]⟩, e)) (hB : Blk W b (hdrCells Hdr.zero) 43) (hf : Fr [] w W) (hd : ds = [])
    (h2 : tmps.getD 2 undef = .pointer (some ⟨b, 0, none⟩)) (h3 : tmps.getD 3 undef = .string ⟨#[]⟩) (h4 : tmps.getD 4 undef = .int .i64 e) :
    bodyPost Try.prog Try.f25 (fun e w' => e = .returned (.tuple #[hdrV (ip4get p).1, .string (ip4get p).2.1, .int .i64 (ip4get p).2.2]) ∧ Fr [] w w') .ret { tmps := tmps, defers := ds } W := by
  subst hd
  refine bodyPost_ret (results_rget5 Hdr.zero b (.string ⟨#[]⟩) (.int .i64 e) _ _ hB h2 h3 h4) rfl ?_
  exact ⟨by rw [hv], hf⟩

set_option maxRecDepth 100000 in
set_option maxHeartbeats 4000000 in
theorem rget5_any (p : ByteArray) (w : World) (hp : p.size ≤ 35184372088832) :
    Calls Try.prog 25 #[.string p] w fun e w' => e = .returned (.tuple #[hdrV (ip4get p).1, .string (ip4get p).2.1, .int .i64 (ip4get p).2.2]) ∧ Fr [] w w' := by
  obtain ⟨N, hN⟩ : ∃ N, N = w.heap.size := ⟨_, rfl⟩
  go_enter Try.func25, Try.ntmps25
  by_cases h20 : p.size < 20
  · have d1 : decide (p.size < 20) = true := by simpa using h20
    have d2 : decide ((p.size : Int) < 20) = true := by simp; omega
    have hv : ip4get p = (Hdr.zero, ⟨#[]⟩, 2) := by unfold ip4get ip4err; simp [h20]
    have HV := Lib.hid hv
    clear hv
    go_wp2_with fail
    exact rget5_exit p w w.heap.size 2 _ _ _ HV.out ((Blk.new _ _ _).alloc _) (((Fr.refl _ _).alloc _).alloc _) rfl rfl rfl rfl
  · have d1 : decide (p.size < 20) = false := by simpa using h20
    have d2 : decide ((p.size : Int) < 20) = false := by simp; omega
    have h0 : 0 < p.size := by omega
    have hx0 := num_one p 0 h0
    by_cases hv4 : num p 0 1 / 16 = 4
    · have d3 : ((p[0]'h0).toNat / 16 != 4) = false := by rw [← hx0]; simp [hv4]
      have d4 : (((p[0]'h0).toNat : Int) / 16 != 4) = false := by rw [← hx0]; simp; omega
      have d5 : (((p[0]'h0).toNat : Int) / 16 % 256 != 4) = false := by rw [← hx0]; simp; omega
      have hn : hlen p = (p[0]'h0).toNat % 16 * 4 := by unfold hlen; rw [hx0]; omega
      by_cases hn1 : hlen p < 20
      · have c1 : decide (((p[0]'h0).toNat : Int) % 16 * 4 < 20) = true := by simp; omega
        have c1' : decide ((p[0]'h0).toNat % 16 * 4 < 20) = true := by simp; omega
        have hv : ip4get p = (Hdr.zero, ⟨#[]⟩, 4) := by unfold ip4get ip4err; simp [h20, hv4, hn1]
        have HV := Lib.hid hv
        clear hv
        go_wp2_with fail
        exact rget5_exit p w w.heap.size 4 _ _ _ HV.out ((Blk.new _ _ _).alloc _) (((Fr.refl _ _).alloc _).alloc _) rfl rfl rfl rfl
      have c1 : decide (((p[0]'h0).toNat : Int) % 16 * 4 < 20) = false := by simp; omega
      have c1' : decide ((p[0]'h0).toNat % 16 * 4 < 20) = false := by simp; omega
      by_cases hn2 : p.size < hlen p
      · have c2 : decide ((p.size : Int) < ((p[0]'h0).toNat : Int) % 16 * 4) = true := by simp; omega
        have c2' : decide (p.size < (p[0]'h0).toNat % 16 * 4) = true := by simp; omega
        have hv : ip4get p = (Hdr.zero, ⟨#[]⟩, 4) := by unfold ip4get ip4err; simp [h20, hv4, hn1, hn2]
        have HV := Lib.hid hv
        clear hv
        go_wp2_with fail
        exact rget5_exit p w w.heap.size 4 _ _ _ HV.out ((Blk.new _ _ _).alloc _) (((Fr.refl _ _).alloc _).alloc _) rfl rfl rfl rfl
      have c2 : decide ((p.size : Int) < ((p[0]'h0).toNat : Int) % 16 * 4) = false := by simp; omega
      have c2' : decide (p.size < (p[0]'h0).toNat % 16 * 4) = false := by simp; omega
      have HR := Lib.hid (fun (k : Nat) W (h : k + 2 ≤ p.size) => rat5_any p k 2 W (by omega) h hp)
      by_cases hn3 : num p 2 2 = p.size
      · have c3 : ((num p 2 2 : Int) != (p.size : Int)) = false := by simp; omega
        have c3' : (num p 2 2 != p.size) = false := by simp; omega
        have hcat : p.data.toList.take (hlen p) = (p.extract 0 (hlen p)).data.toList := by simp
        have hsum := fun W => rsum2_any (p.extract 0 (hlen p)) W (by rw [ByteArray.size_extract]; omega)
        rw [← hcat] at hsum
        have HS := Lib.hid hsum
        clear hsum hcat
        have hext : p.extract 0 ((p[0]'h0).toNat % 16 * 4) = p.extract 0 (hlen p) := by rw [hn]
        go_wp2_with (first | (go_at_call 51; refine (HR.out 2 _ (by omega)).mono ?_; rintro e w1 ⟨rfl, rfl⟩))
        refine Calls.world fun W0 hW => ?_
        have b0 : Blk W0 w.heap.size (hdrCells Hdr.zero) 43 := by rw [hW]; exact (Blk.new _ _ _).alloc _
        have b1 : Blk W0 (w.heap.size + 1) (hdrCells Hdr.zero) 43 := by rw [hW]; exact Blk.new_at (by simp) _ _
        have f0 : Fr [] w W0 := by rw [hW]; exact ((Fr.refl _ _).alloc _).alloc _
        clear hW
        refine (HS.out _).mono ?_
        rintro e w5 ⟨rfl, hf5⟩
        have k0 := hf5.keep b0 (by simp)
        have k1 := hf5.keep b1 (by simp)
        rw [← hN] at k0 k1
        have HK := Lib.hid (And.intro k0 (And.intro (f0.trans hf5) (And.intro hN (And.intro hx0 hn))))
        have c0 : ∀ k, w5.cell? ⟨N, k, none⟩ = (hdrCells Hdr.zero)[k]? := k0.cell
        have z0 := k0.free
        have c1x : ∀ k, w5.cell? ⟨N + 1, k, none⟩ = (hdrCells Hdr.zero)[k]? := k1.cell
        simp only [hdrCells, Hdr.zero] at c0 c1x
        rw [← hN]
        clear b0 b1 f0 hf5 k0 k1 hN HS d3 d4 d5 c1 c1' c2 c2' c3 c3' hx0
        by_cases hn5 : csum (p.data.toList.take (hlen p)) = 0
        · rw [hn5]
          by_cases hn9 : num p 6 2 / 32768 = 0
          · have d9 : decide (32768 ≤ num p 6 2) = false := by simp; omega
            have d9' : decide ((32768 : Int) ≤ (num p 6 2 : Int)) = false := by simp; omega
            have hv : ip4get p = (ip4hdr p, ip4pay p, 0) := by unfold ip4get ip4err; simp [h20, hv4, hn1, hn2, hn3, hn5, hn9]
            have HV := Lib.hid hv
            clear hv
            go_wp2_with (first | (go_at_call 51; refine (HR.out 6 _ (by omega)).mono ?_; rintro e w1 ⟨rfl, rfl⟩))
            have h1 : 1 < p.size := by omega
            have h8 : 8 < p.size := by omega
            have h9 : 9 < p.size := by omega
            have x1 := num_one p 1 h1
            have x8 := num_one p 8 h8
            have x9 := num_one p 9 h9
            have hh : ip4hdr p = ⟨((p[1]'h1).toNat : Int), (num p 4 2 : Int), (num p 6 2 : Int) % 8192, ((p[8]'h8).toNat : Int), ((p[9]'h9).toNat : Int), ((num p 6 2 : Int) / 16384 == 1), ((num p 6 2 : Int) / 8192 % 2 == 1), p.extract 12 16, p.extract 16 20, p.extract 20 (hlen p)⟩ := by
              unfold ip4hdr
              rw [x1, x8, x9]
              congr 1
              rw [Bool.eq_iff_iff]; simp; omega
            have hy : ip4pay p = p.extract (hlen p) p.size := rfl
            have HH := Lib.hid (And.intro hh hy)
            have hext2 : p.extract 20 ((p[0]'h0).toNat % 16 * 4) = p.extract 20 (hlen p) := by rw [hn]
            have hext3 : p.extract ((p[0]'h0).toNat % 16 * 4) p.size = p.extract (hlen p) p.size := by rw [hn]
            have HG := Lib.hid (fun W => rat5_any p 4 2 W (by omega) (by omega) hp)
            have b1 := (p[1]'h1).toNat_lt
            have b8 := (p[8]'h8).toNat_lt
            have b9 := (p[9]'h9).toNat_lt
            have w1e : IntKind.i64.wrap ((p[1]'h1).toNat : Int) = ((p[1]'h1).toNat : Int) := i64_small _ (by omega)
            have w8e : IntKind.i64.wrap ((p[8]'h8).toNat : Int) = ((p[8]'h8).toNat : Int) := i64_small _ (by omega)
            have w9e : IntKind.i64.wrap ((p[9]'h9).toNat : Int) = ((p[9]'h9).toNat : Int) := i64_small _ (by omega)
            have hq := val_take_lt (p.data.toList.drop 6) 2
            have hq2 : num p 6 2 < 32768 := by omega
            have wq1 : IntKind.i64.wrap ((num p 6 2 : Int) / 16384) = (num p 6 2 : Int) / 16384 := by rw [IntKind.wrap_i64]; omega
            have wq2 : IntKind.i64.wrap ((num p 6 2 : Int) / 8192) = (num p 6 2 : Int) / 8192 := by rw [IntKind.wrap_i64]; omega
            have i1 : (1 : Int) < (p.size : Int) := by omega
            have i8 : (8 : Int) < (p.size : Int) := by omega
            have i9 : (9 : Int) < (p.size : Int) := by omega
            have i16 : (16 : Int) ≤ (p.size : Int) := by omega
            have i20 : (20 : Int) ≤ (p.size : Int) := by omega
            have j20 : (20 : Int) ≤ ((p[0]'h0).toNat : Int) % 16 * 4 := by omega
            have j0 : (0 : Int) ≤ ((p[0]'h0).toNat : Int) % 16 * 4 := by omega
            have js : ((p[0]'h0).toNat : Int) % 16 * 4 ≤ (p.size : Int) := by omega
            have jn : (((p[0]'h0).toNat : Int) % 16 * 4).toNat = hlen p := by omega
            clear x1 x8 x9 hh hy hq
            have HK1 := HK.out.1.drew
            have HK2 := HK.out.2.1.drew
            have HKK := Lib.hid (And.intro HK1 (And.intro HK2 HK.out.2.2.1))
            clear HK1 HK2 HK c1x
            refine Code.world fun W8 hW8 => ?_
            obtain ⟨W9, hW9⟩ : ∃ W9, W9 = W8.drew := ⟨_, rfl⟩
            rw [← hW8] at HKK
            clear hW8
            obtain ⟨H9, hH9⟩ : ∃ H9 : Hdr, H9 = ⟨((p[1]'h1).toNat : Int), (num p 4 2 : Int), (num p 6 2 : Int) % 8192, ((p[8]'h8).toNat : Int), ((p[9]'h9).toNat : Int), ((num p 6 2 : Int) / 16384 == 1), ((num p 6 2 : Int) / 8192 % 2 == 1), p.extract 12 16, p.extract 16 20, p.extract 20 (hlen p)⟩ := ⟨_, rfl⟩
            obtain ⟨S, hS9⟩ : ∃ S : Bool → World → Prop, S = fun b w' => w' = cond b (putHdr W9 N H9) W9 := ⟨_, rfl⟩
            have k9 : ∀ k, W9.cell? ⟨N, k, none⟩ = (hdrCells Hdr.zero)[k]? := by rw [hW9]; exact HKK.out.1.cell
            have z9 : ∀ k, W9.frozen? ⟨N, k, none⟩ = false := by rw [hW9]; exact HKK.out.1.free
            rw [← hW9] at HKK
            simp only [hdrCells, Hdr.zero] at k9
            have H0 : S false W8.drew := by rw [hS9]; exact hW9.symm
            have HS9 := Lib.hid hS9
            have HH9 := Lib.hid hH9
            clear hS9 hW9 hH9 c0 z0
            refine wp_region_inv S 31 (by kernel_rfl) (by kernel_rfl) H0 ?_
            clear H0
            repeat (first | (refine wpI_same (by rfl) (by rfl) (fun b w1 hS => by (go_simp; first | exact ⟨rfl, hS⟩ | exact rfl | ((refine (HG.out _).mono ?_; rintro e w7 ⟨rfl, rfl⟩; exact ⟨rfl, hS⟩)))) (fun K hK => ?_); go_simp; refine hK _ ?_; clear hK K) | (refine wpI_pass (by rfl) (by rfl) (fun K hK => ?_); go_simp; refine hK _ ?_; clear hK K))
            (refine wpI_turn (by rfl) (by rfl) (fun w1 hS => by ((rw [HS9.out] at hS; simp only [cond_false] at hS; subst hS; rw [HS9.out, HH9.out]; go_simp; exact ⟨rfl, rfl⟩))) (fun K hK => ?_); go_simp; refine hK _ ?_; clear hK K)
            repeat (first | (refine wpI_same (by rfl) (by rfl) (fun b w1 hS => by (go_simp; first | exact ⟨rfl, hS⟩ | exact rfl)) (fun K hK => ?_); go_simp; refine hK _ ?_; clear hK K) | (refine wpI_pass (by rfl) (by rfl) (fun K hK => ?_); go_simp; refine hK _ ?_; clear hK K))
            refine wpI_nil ?_
            intro w' hS'
            rw [HS9.out] at hS'
            simp at hS'
            subst hS'
            have hb9 : Blk (putHdr W9 N H9) N (hdrCells H9) 43 := HKK.out.1.putHdr H9
            have hf9 : Fr [] w (putHdr W9 N H9) := HKK.out.2.1.putHdr H9 (.inr (by rw [HKK.out.2.2]; exact Nat.le_refl _))
            generalize putHdr W9 N H9 = W7 at *
            have HB9 := Lib.hid (And.intro hb9 hf9)
            clear hb9 hf9 k9 z9
            go_wp2_with fail
            refine bodyPost_ret (results_rget5 H9 N (.string (p.extract (hlen p) p.size)) (.int .i64 0) _ _ HB9.out.1 ?h2 ?h3 ?h4) rfl ?fin
            case h2 => rfl
            case h3 => rfl
            case h4 => rfl
            case fin => exact ⟨by rw [HV.out, HH.out.1, HH.out.2, HH9.out]; rfl, HB9.out.2⟩
          · have d9 : decide (32768 ≤ num p 6 2) = true := by simp; omega
            have d9' : decide ((32768 : Int) ≤ (num p 6 2 : Int)) = true := by simp; omega
            have hv : ip4get p = (Hdr.zero, ⟨#[]⟩, 9) := by unfold ip4get ip4err; simp [h20, hv4, hn1, hn2, hn3, hn5, hn9]
            have HV := Lib.hid hv
            clear hv
            go_wp2_with (first | (go_at_call 51; refine (HR.out 6 _ (by omega)).mono ?_; rintro e w1 ⟨rfl, rfl⟩))
            exact rget5_exit p w N 9 _ _ _ HV.out (HK.out.1.putHdr Hdr.zero) (HK.out.2.1.putHdr Hdr.zero (.inr (by rw [HK.out.2.2.1]; exact Nat.le_refl _))) rfl rfl rfl rfl
        · have hv : ip4get p = (Hdr.zero, ⟨#[]⟩, 5) := by unfold ip4get ip4err; simp [h20, hv4, hn1, hn2, hn3, hn5]
          have HV := Lib.hid hv
          clear hv
          generalize csum (p.data.toList.take (hlen p)) = c at *
          have d5 : ((c : Int) != 0) = true := by simp; omega
          have d5' : (c != 0) = true := by simp; omega
          go_wp2_with fail
          exact rget5_exit p w N 5 _ _ _ HV.out (HK.out.1.putHdr Hdr.zero) (HK.out.2.1.putHdr Hdr.zero (.inr (by rw [HK.out.2.2.1]; exact Nat.le_refl _))) rfl rfl rfl rfl
      · have c3 : ((num p 2 2 : Int) != (p.size : Int)) = true := by simp; omega
        have c3' : (num p 2 2 != p.size) = true := by simp; omega
        have hv : ip4get p = (Hdr.zero, ⟨#[]⟩, 4) := by unfold ip4get ip4err; simp [h20, hv4, hn1, hn2, hn3]
        have HV := Lib.hid hv
        clear hv
        go_wp2_with (first | (go_at_call 51; refine (HR.out 2 _ (by omega)).mono ?_; rintro e w1 ⟨rfl, rfl⟩))
        exact rget5_exit p w w.heap.size 4 _ _ _ HV.out ((Blk.new _ _ _).alloc _) (((Fr.refl _ _).alloc _).alloc _) rfl rfl rfl rfl
    · have d3 : ((p[0]'h0).toNat / 16 != 4) = true := by rw [← hx0]; simp [hv4]
      have d4 : (((p[0]'h0).toNat : Int) / 16 != 4) = true := by rw [← hx0]; simp; omega
      have d5 : (((p[0]'h0).toNat : Int) / 16 % 256 != 4) = true := by rw [← hx0]; simp; have := val_take_lt (p.data.toList.drop 0) 1; unfold num at *; omega
      have hv : ip4get p = (Hdr.zero, ⟨#[]⟩, 3) := by unfold ip4get ip4err; simp [h20, hv4]
      have HV := Lib.hid hv
      clear hv
      go_wp2_with fail
      exact rget5_exit p w w.heap.size 3 _ _ _ HV.out ((Blk.new _ _ _).alloc _) (((Fr.refl _ _).alloc _).alloc _) rfl rfl rfl rfl
end Go.Proofs.Ytlgjhacmhkbkdaa
