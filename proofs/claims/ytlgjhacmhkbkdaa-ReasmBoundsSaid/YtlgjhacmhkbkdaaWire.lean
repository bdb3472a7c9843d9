/- The reader: Need, Left, Take, number, U8, U16, Rest, Read. -/
import Derived.Test.YtlgjhacmhkbkdaaProg
import Derived.Test.YtlgjhacmhkbkdaaBase
import Derived.Test.YtlgjhacmhkbkdaaPlain
import Derived.Lib.ConvBytes
namespace Go.Proofs.Ytlgjhacmhkbkdaa
open Go.RowKit

def stopped (e : Int) : List PanicEntry := [{ v := .iface 130 (.agg #[.int .i64 e]), recovered := false }]

set_option maxHeartbeats 400000 in
theorem need_ok (p : Value) (e : Int) (w : World) :
    Calls Try.prog 55 #[p, .bool true, .int .i64 e] w fun r w' => r = .returned (.tuple #[]) ∧ w = w' := by
  go_enter Try.func55, Try.ntmps55
  go_wp2
  go_end0
  exact ⟨rfl, rfl⟩

set_option maxHeartbeats 400000 in
theorem need_no (p : Value) (e : Int) (w : World) :
    Calls Try.prog 55 #[p, .bool false, .int .i64 e] w fun r w' => r = .panicked (stopped e) ∧ w = w' := by
  go_enter Try.func55, Try.ntmps55
  go_wp2
  exact ⟨rfl, rfl, rfl⟩

/-- Need, whatever is asked. -/
theorem need_any (p : Value) (c : Bool) (e : Int) (w : World) :
    Calls Try.prog 55 #[p, .bool c, .int .i64 e] w fun r w' => w = w' ∧ ((c = true ∧ r = .returned (.tuple #[])) ∨ (c = false ∧ r = .panicked (stopped e))) := by
  cases c
  · exact (need_no p e w).mono fun r w' ⟨h1, h2⟩ => ⟨h2, .inr ⟨rfl, h1⟩⟩
  · exact (need_ok p e w).mono fun r w' ⟨h1, h2⟩ => ⟨h2, .inl ⟨rfl, h1⟩⟩

theorem val_step (g : Array UInt8) (j : Nat) (hj : j < g.size) (h8 : j < 8) :
    bits BinOp.or IntKind.u64 (IntKind.u64.wrap ((val (g.toList.take j) : Int) * 256)) (IntKind.u64.wrap ((g[j]?.getD 0).toNat : Int)) = (val (g.toList.take (j + 1)) : Int) := by
  have hl : j < g.toList.length := by rw [Array.length_toList]; exact hj
  have h1 := val_lt (g.toList.take j)
  rw [List.length_take, Nat.min_eq_left (by omega)] at h1
  have h2 : val (g.toList.take j) < 256 ^ 7 := Nat.lt_of_lt_of_le h1 (Nat.pow_le_pow_right (by omega) (by omega))
  have e : g[j]?.getD 0 = g.toList[j] := by simp [hj]
  rw [e, List.take_succ_eq_append_getElem hl, val_snoc]
  have h3 := g.toList[j].toNat_lt
  have h4 : (256 : Nat) ^ 7 = 72057594037927936 := by decide
  rw [h4] at h2
  generalize val (g.toList.take j) = v at *
  generalize g.toList[j].toNat = x at *
  have e1 : ((v : Int) * 256) = ((v * 256 : Nat) : Int) := by omega
  rw [IntKind.wrap_u64, IntKind.wrap_u64, Int.emod_eq_of_lt (by omega) (by omega), Int.emod_eq_of_lt (by omega) (by omega), e1, u64_or_nat _ _ (by omega) (by omega), nat_join 8 _ _ (by omega) (by omega)]

def rdr (s : ByteArray) (k : Nat) : Array Value := #[.string s, .int .i64 k]

theorem rdr_cells {w : World} {b : Nat} {s : ByteArray} {k : Nat} (h : Blk w b (rdr s k) 132) :
    w.cell? ⟨b, 0, none⟩ = some (.string s) ∧ w.cell? ⟨b, 1, none⟩ = some (.int .i64 k) ∧ w.frozen? ⟨b, 0, none⟩ = false ∧ w.frozen? ⟨b, 1, none⟩ = false :=
  ⟨h.cell 0, h.cell 1, h.free 0, h.free 1⟩

set_option maxHeartbeats 400000 in
theorem left_any (b : Nat) (s : ByteArray) (k : Nat) (w : World) (h : Blk w b (rdr s k) 132) (hk : k ≤ s.size) (hs : s.size ≤ 4611686018427387904) :
    Calls Try.prog 79 #[.pointer (some ⟨b, 0, none⟩)] w fun r w' => r = .returned (.int .i64 ((s.size - k : Nat) : Int)) ∧ ∃ n, w.drewN n = w' := by
  obtain ⟨h0, h1, _, _⟩ := rdr_cells h
  clear h
  go_enter Try.func79, Try.ntmps79
  go_wp2
  go_quiet (fail)
  go_wp2
  go_ret
  exact ⟨ret_eq (int_eq (by omega)), _, rfl⟩

set_option maxHeartbeats 400000 in
theorem take_ok (b : Nat) (s : ByteArray) (k n : Nat) (w : World) (h : Blk w b (rdr s k) 132) (hk : k + n ≤ s.size) (hs : s.size ≤ 4611686018427387904) :
    Calls Try.prog 59 #[.pointer (some ⟨b, 0, none⟩), .int .i64 n] w fun r w' => r = .returned (.string (s.extract k (k + n))) ∧ Blk w' b (rdr s (k + n)) 132 ∧ Fr [b] w w' := by
  obtain ⟨h0, h1, f0, f1⟩ := rdr_cells h
  have H := Lib.hid h
  clear h
  go_enter Try.func59, Try.ntmps59
  go_wp2_with (first | (go_at_call 79; refine (left_any b s k _ H.out (by omega) hs).mono ?_; rintro e w' ⟨rfl, m, rfl⟩) | (go_at_call 55; refine (need_any _ _ _ _).mono ?_; rintro e w' ⟨rfl, (⟨hc, rfl⟩ | ⟨hc, rfl⟩)⟩; rotate_left; (exfalso; simp at hc; omega); clear hc))
  go_quiet (fail)
  go_wp2
  go_ret
  exact ⟨rfl, ((H.out.drewN m).set_to 1 _ (by simp [rdr])).drewN nq, ((((Fr.refl _ _).drewN _).setCell _ _ (.inl (by simp))).drewN _)⟩

set_option maxHeartbeats 400000 in
theorem take_no (b : Nat) (s : ByteArray) (k : Nat) (n : Int) (w : World) (h : Blk w b (rdr s k) 132) (hk : k ≤ s.size) (hn : n < 0 ∨ (s.size : Int) - k < n) (hs : s.size ≤ 4611686018427387904) :
    Calls Try.prog 59 #[.pointer (some ⟨b, 0, none⟩), .int .i64 n] w fun r w' => r = .panicked (stopped 2) ∧ ∃ m, w.drewN m = w' := by
  have H := Lib.hid h
  clear h
  by_cases h0 : 0 ≤ n
  · have hd : decide (0 ≤ n) = true := by simpa using h0
    go_enter Try.func59, Try.ntmps59
    go_wp2_with (first | (go_at_call 79; refine (left_any b s k _ H.out (by omega) hs).mono ?_; rintro e w' ⟨rfl, m, rfl⟩) | (go_at_call 55; refine (need_any _ _ _ _).mono ?_; rintro e w' ⟨rfl, (⟨hc, rfl⟩ | ⟨hc, rfl⟩)⟩; (exfalso; simp at hc; omega); clear hc))
    exact ⟨rfl, rfl, _, rfl⟩
  · have hd : decide (0 ≤ n) = false := by simpa using h0
    go_enter Try.func59, Try.ntmps59
    go_wp2_with (first | (go_at_call 55; refine (need_any _ _ _ _).mono ?_; rintro e w' ⟨rfl, (⟨hc, rfl⟩ | ⟨hc, rfl⟩)⟩; (exfalso; simp at hc); clear hc))
    exact ⟨rfl, rfl, 0, rfl⟩

set_option maxHeartbeats 400000 in
theorem number_ok (b : Nat) (s : ByteArray) (k n : Nat) (w : World) (h : Blk w b (rdr s k) 132) (hk : k + n ≤ s.size) (hs : s.size ≤ 4611686018427387904) (hn : n ≤ 8) :
    Calls Try.prog 78 #[.pointer (some ⟨b, 0, none⟩), .int .i64 n] w fun r w' => r = .returned (.int .u64 (num s k n)) ∧ Blk w' b (rdr s (k + n)) 132 ∧ Fr [b] w w' := by
  have H := Lib.hid h
  clear h
  go_enter Try.func78, Try.ntmps78
  go_wp2_with fail
  refine (take_ok b s k n _ H.out (by omega) hs).mono ?_
  rintro e w1 ⟨rfl, hB, hF⟩
  have hsz : (s.extract k (k + n)).size = n := by simp; omega
  generalize hg : s.extract k (k + n) = g at *
  have hB' := Lib.hid hB
  have hG := Lib.hid hg
  clear hB hg hs hk
  have hcv := fun (w : World) (s : ByteArray) => Lib.run_convert_string_bytes (P := Try.prog) w 9 53 5 s Try.underlying9 Try.underlying53 Try.underlying5
  go_wp2_with fail
  clear hcv
  have hcell : ∀ j, j < n → (Lib.bytesWorld w1 5 g).cell? ⟨w1.heap.size, j, none⟩ = some (.int .u8 (g.data[j]?.getD 0).toNat) := fun j hj => by rw [Lib.bytesWorld_cell w1 5 g j (by omega)]; simp
  have HF : Hid (Blk (Lib.bytesWorld w1 5 g) b (rdr s (k + n)) 132 ∧ Fr [b] w (Lib.bytesWorld w1 5 g)) := by
    have hF2 : Fr [] w1 (Lib.bytesWorld w1 5 g) := ⟨rfl, rfl, rfl, by rw [Lib.bytesWorld_size]; omega, fun k hk _ => Lib.bytesWorld_at_old _ _ _ _ hk⟩
    exact ⟨hF2.keep hB'.out (by simp), hF.trans hF2.nil⟩
  generalize Lib.bytesWorld w1 5 g = w2 at *
  generalize w1.heap.size = B at *
  have HS := Lib.hid hsz
  clear hB' hF H hsz
  go_loop [5, 13] (fun a i => ∃ j : Nat, j ≤ n ∧ i = .int .i64 j ∧ a = .int .u64 (val (g.data.toList.take j))) (fun _ i => n - (intOf i).toNat)
  case atStart => exact ⟨0, Nat.zero_le _, rfl, rfl⟩
  case round =>
    obtain ⟨j, hj, rfl, rfl⟩ := hrel
    by_cases hlt : j < n
    · have hc := hcell j hlt
      go_wp2
      exact ⟨⟨j + 1, by omega, by go_num, int_eq (val_step g.data j (by show j < g.size; rw [HS.out]; exact hlt) (by omega))⟩, by simp [intOf]; omega⟩
    · obtain rfl : j = n := by omega
      go_wp2
      go_ret
      have e : g.data.toList = (s.data.toList.drop k).take j := by rw [← hG.out]; simp
      exact ⟨ret_eq (int_eq (by rw [e, List.take_take, Nat.min_self]; rfl)), HF.out⟩

set_option maxHeartbeats 400000 in
theorem number_no (b : Nat) (s : ByteArray) (k n : Nat) (w : World) (h : Blk w b (rdr s k) 132) (hk : k ≤ s.size) (hn : s.size < k + n) (hs : s.size ≤ 4611686018427387904) :
    Calls Try.prog 78 #[.pointer (some ⟨b, 0, none⟩), .int .i64 n] w fun r w' => r = .panicked (stopped 2) ∧ ∃ m, w.drewN m = w' := by
  have H := Lib.hid h
  clear h
  go_enter Try.func78, Try.ntmps78
  go_wp2_with fail
  refine (take_no b s k n _ H.out hk (by omega) hs).mono ?_
  rintro e w1 ⟨rfl, m, rfl⟩
  exact ⟨rfl, rfl, _, rfl⟩

set_option maxHeartbeats 400000 in
theorem u8_ok (b : Nat) (s : ByteArray) (k : Nat) (w : World) (h : Blk w b (rdr s k) 132) (hk : k + 1 ≤ s.size) (hs : s.size ≤ 4611686018427387904) :
    Calls Try.prog 56 #[.pointer (some ⟨b, 0, none⟩)] w fun r w' => r = .returned (.int .i64 (num s k 1)) ∧ Blk w' b (rdr s (k + 1)) 132 ∧ Fr [b] w w' := by
  have hv : num s k 1 < 256 := val_take_lt (s.data.toList.drop k) 1
  generalize hx : num s k 1 = x at *
  have HX := Lib.hid hx
  have H := Lib.hid h
  clear h hx
  go_enter Try.func56, Try.ntmps56
  go_wp2_with fail
  refine (number_ok b s k 1 _ H.out hk hs (by omega)).mono ?_
  rintro e w1 ⟨rfl, hB, hF⟩
  rw [HX.out]
  have HB := Lib.hid hB
  clear hB hs hk
  go_wp2
  go_ret
  exact ⟨rfl, HB.out, hF⟩

set_option maxHeartbeats 400000 in
theorem u16_ok (b : Nat) (s : ByteArray) (k : Nat) (w : World) (h : Blk w b (rdr s k) 132) (hk : k + 2 ≤ s.size) (hs : s.size ≤ 4611686018427387904) :
    Calls Try.prog 57 #[.pointer (some ⟨b, 0, none⟩)] w fun r w' => r = .returned (.int .i64 (num s k 2)) ∧ Blk w' b (rdr s (k + 2)) 132 ∧ Fr [b] w w' := by
  have hv : num s k 2 < 65536 := val_take_lt (s.data.toList.drop k) 2
  generalize hx : num s k 2 = x at *
  have HX := Lib.hid hx
  have H := Lib.hid h
  clear h hx
  go_enter Try.func57, Try.ntmps57
  go_wp2_with fail
  refine (number_ok b s k 2 _ H.out hk hs (by omega)).mono ?_
  rintro e w1 ⟨rfl, hB, hF⟩
  rw [HX.out]
  have HB := Lib.hid hB
  clear hB hs hk
  go_wp2
  go_ret
  exact ⟨rfl, HB.out, hF⟩

set_option maxHeartbeats 400000 in
theorem u16_no (b : Nat) (s : ByteArray) (k : Nat) (w : World) (h : Blk w b (rdr s k) 132) (hk : k ≤ s.size) (hn : s.size < k + 2) (hs : s.size ≤ 4611686018427387904) :
    Calls Try.prog 57 #[.pointer (some ⟨b, 0, none⟩)] w fun r w' => r = .panicked (stopped 2) ∧ ∃ m, w.drewN m = w' := by
  have H := Lib.hid h
  clear h
  go_enter Try.func57, Try.ntmps57
  go_wp2_with fail
  refine (number_no b s k 2 _ H.out hk hn hs).mono ?_
  rintro e w1 ⟨rfl, m, rfl⟩
  exact ⟨rfl, rfl, _, rfl⟩

set_option maxHeartbeats 400000 in
theorem rest_ok (b : Nat) (s : ByteArray) (k : Nat) (w : World) (h : Blk w b (rdr s k) 132) (hk : k ≤ s.size) (hs : s.size ≤ 4611686018427387904) :
    Calls Try.prog 60 #[.pointer (some ⟨b, 0, none⟩)] w fun r w' => r = .returned (.string (s.extract k s.size)) ∧ Blk w' b (rdr s s.size) 132 ∧ Fr [b] w w' := by
  have H := Lib.hid h
  clear h
  go_enter Try.func60, Try.ntmps60
  go_wp2_with fail
  refine (left_any b s k _ H.out hk hs).mono ?_
  rintro e w1 ⟨rfl, m, rfl⟩
  go_wp2_with fail
  refine (take_ok b s k (s.size - k) _ (H.out.drewN m) (by omega) hs).mono ?_
  rintro e w1 ⟨rfl, hB, hF⟩
  have e : k + (s.size - k) = s.size := by omega
  rw [e] at hB ⊢
  clear e hk hs
  go_wp2
  go_ret
  exact ⟨rfl, hB, ((Fr.refl _ _).drewN m).trans hF⟩
end Go.Proofs.Ytlgjhacmhkbkdaa
