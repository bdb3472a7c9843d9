/- palanquinref02.Sum. -/
import Derived.Test.YtlgjhacmhkbkdaaRefA
import Derived.BigQuiet
namespace Go.Proofs.Ytlgjhacmhkbkdaa
open Go.RowKit

theorem opar_even : ∀ (l : List UInt8), l.length % 2 = 0 → opar false l = false
  | [], _ => rfl
  | [_], h => by simp at h
  | _ :: _ :: l, h => by
    simp only [opar, Bool.not_false, Bool.not_true]
    exact opar_even l (by simp at h; omega)

theorem osum_take2 (l : List UInt8) (i : Nat) (h : i + 1 < l.length) (he : i % 2 = 0) : osum false (l.take (i + 2)) = osum false (l.take i) + l[i].toNat * 256 + l[i + 1].toNat := by
  rw [List.take_succ_eq_append_getElem (i := i + 1) h, List.take_succ_eq_append_getElem (i := i) (by omega)]
  rw [osum_append, osum_append]
  have h1 := opar_even (l.take i) (by rw [List.length_take]; omega)
  rw [opar_append, h1]
  simp [osum, opar]

set_option maxRecDepth 100000 in
set_option maxHeartbeats 1000000 in
theorem rsum2_any (s : ByteArray) (w : World) (hs : s.size ≤ 70368744177663) :
    Calls Try.prog 47 #[.string s] w fun e w' => e = .returned (.int .i64 (csum s.data.toList)) ∧ Fr [] w w' := by
  have hcv : ∀ w : World, (convert 53 9 (.slice (some ⟨w.heap.size, 0, none⟩) 1 1)).run Try.prog (w.alloc (.cells #[.int .u8 0] 5)) = .ok (.string (bs [0])) (w.alloc (.cells #[.int .u8 0] 5)) := fun w => run_one_byte 0 w
  have hadd : ∀ W, (Op.stringOp .add s (bs [0])).run Try.prog W = .ok (.string (s ++ bs [0])) W := fun W => run_string_add_sum W _ _ (by rw [bs_size]; simp; omega)
  go_enter Try.func47, Try.ntmps47
  by_cases hpar : s.size % 2 = 1
  case' pos =>
    have d0 : (s.size % 2 == 1) = true := by simp [hpar]
    have d1 : ((s.size : Int) % 2 == 1) = true := by simp; omega
    go_wp2_with fail
    obtain ⟨t, ht⟩ : ∃ t, t = s ++ bs [0] := ⟨_, rfl⟩
    obtain ⟨w0, hw⟩ : ∃ w0, w0 = w.alloc (Obj.cells #[Value.int IntKind.u8 0] 5) := ⟨_, rfl⟩
    have HS : Hid (t.size % 2 = 0 ∧ osum false t.data.toList = osum false s.data.toList ∧ t.size ≤ 70368744177664 ∧ Fr [] w w0) := by
      refine ⟨?_, ?_, ?_, ?_⟩
      · rw [ht, ByteArray.size_append, bs_size]; simp; omega
      · rw [ht]; simp [osum_append, bs]; cases opar false s.data.toList <;> simp [osum]
      · rw [ht, ByteArray.size_append, bs_size]; simp; omega
      · rw [hw]; exact (Fr.refl _ _).alloc _
    rw [← ht, ← hw]
    clear ht hw hadd hcv d0 d1 hpar hs
  case' neg =>
    have d0 : (s.size % 2 == 1) = false := by simp [hpar]
    have d1 : ((s.size : Int) % 2 == 1) = false := by simp; omega
    go_wp2_with fail
    obtain ⟨t, ht⟩ : ∃ t, t = s := ⟨_, rfl⟩
    obtain ⟨w0, hw⟩ : ∃ w0, w0 = w := ⟨_, rfl⟩
    have HS : Hid (t.size % 2 = 0 ∧ osum false t.data.toList = osum false s.data.toList ∧ t.size ≤ 70368744177664 ∧ Fr [] w w0) := by
      refine ⟨?_, ?_, ?_, ?_⟩
      · rw [ht]; omega
      · rw [ht]
      · rw [ht]; omega
      · rw [hw]; exact Fr.refl _ _
    rw [← hw, ← ht]
    clear ht hw hadd hcv d0 d1 hpar hs
  all_goals
    have hfin : csum s.data.toList = 65535 - foldn (osum false t.data.toList) := by rw [HS.out.2.1]; rfl
    have HFI := Lib.hid hfin
    have hts := HS.out.2.2.1
    clear hfin
    go_loopw [3, 4] (fun n v wr => ∃ i : Nat, i ≤ t.size ∧ i % 2 = 0 ∧ n = .int .i64 (osum false (t.data.toList.take i) : Nat) ∧ v = .int .i64 (i : Int) ∧ Hid (Fr [] w wr)) (fun _ v _ => t.size - (intOf v).toNat)
    case atStart => exact ⟨0, by omega, rfl, int_eq (by simp [osum]), rfl, HS.out.2.2.2⟩
    case round =>
      obtain ⟨i, hi, hpar, rfl, rfl, HF⟩ := hrel
      by_cases hlt : i < t.size
      · have hlt2 : i + 1 < t.size := by have := HS.out.1; omega
        have hle := osum_le (t.data.toList.take i) false
        have hos := osum_take2 t.data.toList i (by simpa using hlt2) (by omega)
        have hlen : (t.data.toList.take i).length ≤ i := by simp; omega
        have HO := Lib.hid hos
        generalize hnn : osum false (t.data.toList.take i) = n at *
        have HN := Lib.hid hnn
        have hn : n ≤ 65280 * i := by omega
        clear hle hlen hos hnn
        have hx := (t[i]'hlt).toNat_lt
        have hy := (t[i + 1]'hlt2).toNat_lt
        have e1 : IntKind.i64.wrap ((t[i]'hlt).toNat : Int) = ((t[i]'hlt).toNat : Int) := i64_small _ (by omega)
        have e2 : IntKind.i64.wrap (((t[i]'hlt).toNat : Int) * 256) = ((t[i]'hlt).toNat : Int) * 256 := by rw [IntKind.wrap_i64]; omega
        have e3 : IntKind.i64.wrap ((n : Int) + ((t[i]'hlt).toNat : Int) * 256) = (n : Int) + ((t[i]'hlt).toNat : Int) * 256 := by rw [IntKind.wrap_i64]; omega
        have e4 : IntKind.i64.wrap ((i : Int) + 1) = (i : Int) + 1 := by rw [IntKind.wrap_i64]; omega
        have e5 : IntKind.i64.wrap ((t[i + 1]'hlt2).toNat : Int) = ((t[i + 1]'hlt2).toNat : Int) := i64_small _ (by omega)
        have e6 : IntKind.i64.wrap ((n : Int) + ((t[i]'hlt).toNat : Int) * 256 + ((t[i + 1]'hlt2).toNat : Int)) = (n : Int) + ((t[i]'hlt).toNat : Int) * 256 + ((t[i + 1]'hlt2).toNat : Int) := by rw [IntKind.wrap_i64]; omega
        have i0 : (0 : Int) ≤ (i : Int) + 1 := by omega
        have i1 : (i : Int) + 1 < (t.size : Int) := by omega
        have i2 : ((i : Int) + 1).toNat = i + 1 := by omega
        have hov : osum false (t.data.toList.take (i + 2)) = n + (t[i]'hlt).toNat * 256 + (t[i + 1]'hlt2).toNat := by rw [HO.out]; rfl
        have HV := Lib.hid hov
        clear hov
        go_wp2_with fail
        go_quiet (fail)
        go_wp2_with fail
        exact ⟨⟨i + 2, by omega, by omega, int_eq (by rw [HV.out]; simp), by go_num, HF.out.drewN _⟩, by simp [intOf]; omega⟩
      · obtain hie : i = t.size := by omega
        subst hie
        have htk : t.data.toList.take t.size = t.data.toList := by rw [← ByteArray.size_data, ← Array.length_toList, List.take_length]
        have hle := foldn_le (osum false t.data.toList)
        have hb := osum_le t.data.toList false
        have hln : t.data.toList.length = t.size := by simp
        rw [htk]
        generalize osum false t.data.toList = n at *
        have hn : n < 9223372036854775808 := by omega
        have HR := Lib.hid (rdown_any n wr hn)
        clear hb hln htk hn
        go_wp2_with fail
        refine HR.out.mono ?_
        rintro e w1 ⟨rfl, rfl⟩
        go_wp2_with fail
        go_ret
        exact ⟨by rw [HFI.out]; first | rfl | (apply ret_eq; apply int_eq; omega), HF.out⟩
end Go.Proofs.Ytlgjhacmhkbkdaa
