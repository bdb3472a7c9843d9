/- ip4.Get. -/
import Derived.Test.YtlgjhacmhkbkdaaWireRead
import Derived.Test.YtlgjhacmhkbkdaaSum
import Derived.Deep.RegionHeld3
import Derived.Deep.DeepCutAuto
import Derived.Deep.RegionWith
import Derived.StillTailTactics
namespace Go.Proofs.Ytlgjhacmhkbkdaa
open Go.RowKit

/-- A header's cells. -/
def hdrCells (h : Hdr) : Array Value := #[.int .i64 h.tos, .int .i64 h.id, .int .i64 h.off, .int .i64 h.ttl, .int .i64 h.proto, .bool h.df, .bool h.mf, .string h.src, .string h.dst, .string h.opts]

/-- How far ip4.Get's reading is. -/
structure G4 (p : ByteArray) (b bp bh bs : Nat) (w W : World) (k : Nat) (h : Hdr) (y : ByteArray) : Prop where
  rd : Blk W b (rdr p k) 132
  pp : Blk W bp #[.string p] 9
  hh : Blk W bh (hdrCells h) 43
  ss : Blk W bs #[.string y] 9
  fr : Fr [b, bh, bs] w W

/-- Its blocks are several. -/
structure Apart4 (b bp bh bs : Nat) : Prop where
  n1 : b ≠ bp
  n2 : b ≠ bh
  n3 : b ≠ bs
  n4 : bp ≠ bh
  n5 : bp ≠ bs
  n6 : bh ≠ bs

section
variable {p : ByteArray} {b bp bh bs : Nat} {w W W' : World} {k k' : Nat} {h h' : Hdr} {y : ByteArray}
theorem G4.read (g : G4 p b bp bh bs w W k h y) (a : Apart4 b bp bh bs) (hb : Blk W' b (rdr p k') 132) (hf : Fr [b] W W') : G4 p b bp bh bs w W' k' h y :=
  ⟨hb, hf.keep g.pp (by simpa using a.n1.symm), hf.keep g.hh (by simpa using a.n2.symm), hf.keep g.ss (by simpa using a.n3.symm), g.fr.trans' hf (by intro i hi; left; simp at hi; simp [hi])⟩
theorem G4.frame (g : G4 p b bp bh bs w W k h y) (hf : Fr [] W W') : G4 p b bp bh bs w W' k h y :=
  ⟨hf.keep g.rd (by simp), hf.keep g.pp (by simp), hf.keep g.hh (by simp), hf.keep g.ss (by simp), g.fr.trans hf.nil⟩
theorem G4.put (g : G4 p b bp bh bs w W k h y) (a : Apart4 b bp bh bs) (o : Nat) (v : Value) (h' : Hdr) (e : (hdrCells h).setIfInBounds o v = hdrCells h') : G4 p b bp bh bs w (W.setCell ⟨bh, o, none⟩ v) k h' y :=
  ⟨g.rd.set_other _ _ a.n2, g.pp.set_other _ _ a.n4, g.hh.set_to _ _ e, g.ss.set_other _ _ a.n6.symm, g.fr.setCell _ _ (.inl (by simp))⟩
theorem G4.put_text (g : G4 p b bp bh bs w W k h y) (a : Apart4 b bp bh bs) (y' : ByteArray) : G4 p b bp bh bs w (W.setCell ⟨bs, 0, none⟩ (.string y')) k h y' :=
  ⟨g.rd.set_other _ _ a.n3, g.pp.set_other _ _ a.n5, g.hh.set_other _ _ a.n6, g.ss.set_to _ _ rfl, g.fr.setCell _ _ (.inl (by simp))⟩
end

theorem and15 (n : Nat) (h : n < 256) : bits BinOp.and IntKind.i64 (n : Int) 15 = ((n % 16 : Nat) : Int) := by
  have := i64_and_nat n 15 (by omega) (by omega)
  rw [nat_mask4] at this
  exact this

set_option maxRecDepth 100000 in
set_option maxHeartbeats 4000000 in
theorem ip4get1_any (p : ByteArray) (b bp bh bs : Nat) (w : World) (hp : p.size ≤ 35184372088832) (a : Apart4 b bp bh bs) (g0 : G4 p b bp bh bs w w 0 Hdr.zero ⟨#[]⟩) :
    Calls Try.prog 54 #[.pointer (some ⟨b, 0, none⟩), .pointer (some ⟨bp, 0, none⟩), .pointer (some ⟨bh, 0, none⟩), .pointer (some ⟨bs, 0, none⟩)] w fun e w' =>
      Fr [b, bh, bs] w w' ∧ ((ip4err p = 0 ∧ e = .returned (.tuple #[]) ∧ Blk w' bh (hdrCells (ip4hdr p)) 43 ∧ Blk w' bs #[.string (ip4pay p)] 9) ∨ (ip4err p ≠ 0 ∧ e = .panicked (stopped (ip4err p)))) := by
  have hcp := g0.pp.cell 0
  have H := Lib.hid (And.intro g0 a)
  have HP : p.size ≤ 4611686018427387904 := by omega
  clear g0 a
  -- the length
  go_enter Try.func54, Try.ntmps54
  go_wp2_with fail
  refine (need_any _ _ _ _).mono ?_
  rintro e w' ⟨rfl, (⟨hc, rfl⟩ | ⟨hc, rfl⟩)⟩
  rotate_left
  · have : ip4err p = 2 := by unfold ip4err; rw [if_pos (by simp at hc; omega)]
    exact ⟨rfl, Fr.refl _ _, .inr (by rw [this]; exact ⟨by decide, rfl⟩)⟩
  have h20 : 20 ≤ p.size := by simp at hc; omega
  clear hc
  -- the first byte
  have hv0 : num p 0 1 < 256 := val_take_lt _ 1
  have ha15 := and15 _ hv0
  go_wp2_with fail
  refine (u8_ok b p 0 _ H.out.1.rd (by omega) HP).mono ?_
  rintro e w1 ⟨rfl, hb1, hf1⟩
  have H1 := Lib.hid (H.out.1.read H.out.2 hb1 hf1)
  clear hb1 hf1 hcp
  have h4 : 4 * ((num p 0 1 : Int) % 16) = (hlen p : Int) := by unfold hlen; omega
  have hn60 : hlen p ≤ 60 := by unfold hlen; omega
  go_wp2_with fail
  -- the version
  refine (need_any _ _ _ _).mono ?_
  rintro e w' ⟨rfl, (⟨hc, rfl⟩ | ⟨hc, rfl⟩)⟩
  rotate_left
  · have : ip4err p = 3 := by unfold ip4err; rw [if_neg (by omega), if_pos (by simp at hc; omega)]
    exact ⟨rfl, H1.out.fr, .inr (by rw [this]; exact ⟨by decide, rfl⟩)⟩
  have hver : num p 0 1 / 16 = 4 := by simp at hc; omega
  clear hc ha15 h4
  generalize hn : hlen p = n at *
  have HN := Lib.hid hn
  have HV := Lib.hid hver
  clear hn hver
  -- TOS
  go_wp2_with fail
  refine (u8_ok b p 1 _ H1.out.rd (by omega) HP).mono ?_
  rintro e w2 ⟨rfl, hb1, hf1⟩
  have H2 := Lib.hid (H1.out.read H.out.2 hb1 hf1)
  have c0 : w2.cell? ⟨bh, 0, none⟩ = some (.int .i64 0) := H2.out.hh.cell 0
  have f0 := H2.out.hh.free 0
  clear hb1 hf1 H1
  go_wp2_with fail
  have H3 := Lib.hid (H2.out.put H.out.2 0 (.int .i64 (num p 1 1)) { Hdr.zero with tos := num p 1 1 } rfl)
  generalize w2.setCell ⟨bh, 0, none⟩ (.int .i64 (num p 1 1)) = w3 at *
  clear H2 c0 f0
  have hcp : w3.cell? ⟨bp, 0, none⟩ = some (.string p) := H3.out.pp.cell 0
  -- the lengths
  go_cut [] (fun wx => Hid (G4 p b bp bh bs w wx 4 { Hdr.zero with tos := num p 1 1 } ⟨#[]⟩ ∧ 20 ≤ n ∧ n ≤ p.size ∧ num p 2 2 = p.size))
  case first =>
    by_cases hE : n < 20 ∨ p.size < n ∨ num p 2 2 ≠ p.size
    · have h4 : ip4err p = 4 := by unfold ip4err; rw [if_neg (by omega), if_neg (by rw [HV.out]; omega), HN.out, if_pos hE]
      by_cases hn20 : n < 20
      · have d1 : decide ((20 : Int) ≤ (n : Int)) = false := by simp; omega
        clear hE
        go_still_tail 16, (by kernel_rfl)
        change wpList _ _ _ _ _ w3.drew
        go_wp2_with fail
        refine (need_no _ _ _).mono ?_
        rintro e w' ⟨rfl, rfl⟩
        exact ⟨rfl, H3.out.fr.drew, .inr (by rw [h4]; exact ⟨by decide, rfl⟩)⟩
      have d1 : decide ((20 : Int) ≤ (n : Int)) = true := by simp; omega
      by_cases hnp : p.size < n
      · have d2 : decide (n ≤ p.size) = false := by simp; omega
        clear hE
        go_still_tail 16, (by kernel_rfl)
        change wpList _ _ _ _ _ w3.drew
        go_wp2_with fail
        refine (need_no _ _ _).mono ?_
        rintro e w' ⟨rfl, rfl⟩
        exact ⟨rfl, H3.out.fr.drew, .inr (by rw [h4]; exact ⟨by decide, rfl⟩)⟩
      have d2 : decide (n ≤ p.size) = true := by simp; omega
      have d3 : ((num p 2 2 : Int) == (p.size : Int)) = false := by simp; omega
      have d3' : (num p 2 2 == p.size) = false := by simp; omega
      clear hE
      go_region_with (first | (go_at_call 57; refine (u16_ok b p 2 _ (by exact H3.out.rd) (by omega) HP).mono ?_; rintro e w4 ⟨rfl, hb1, hf1⟩; have hcq : w4.cell? ⟨bp, 0, none⟩ = some (.string p) := (H3.out.read H.out.2 hb1 (by exact ((Fr.refl _ _).drew).trans hf1)).pp.cell 0) | (go_at_call 55; refine (need_no _ _ _).mono ?_; rintro e w' ⟨rfl, rfl⟩; suffices _hd : wpAny Try.prog Region.Mode.any #[] (fun _ _ _ => True) 0 #[] ⟨#[], []⟩ w4 from ⟨rfl, (H3.out.fr.drew).trans' hf1 (by intro i hi; left; simp at hi; simp [hi]), .inr (by rw [h4]; exact ⟨by decide, rfl⟩)⟩))
      all_goals trivial
    have hlen : num p 2 2 = p.size := by omega
    have hn20 : 20 ≤ n := by omega
    have hnp : n ≤ p.size := by omega
    have d1 : decide ((20 : Int) ≤ (n : Int)) = true := by simp; omega
    have d2 : decide (n ≤ p.size) = true := by simp; omega
    have d3 : ((num p 2 2 : Int) == (p.size : Int)) = true := by simp; omega
    have d3' : (num p 2 2 == p.size) = true := by simp; omega
    have HE := Lib.hid hlen
    clear hlen hE
    go_region_held3 (fun w' => w'.cell? ⟨bp, 0, none⟩ = some (.string p)) (first | go_keep | (exact (H3.out.read H.out.2 hb1 (by exact ((Fr.refl _ _).drew).trans hf1)).pp.cell 0)) (first | (go_at_call 57; refine (u16_ok b p 2 _ (by exact H3.out.rd) (by omega) HP).mono ?_; rintro e w4 ⟨rfl, hb1, hf1⟩) | (go_at_call 55; refine (need_ok _ _ _).mono ?_; rintro e w' ⟨rfl, rfl⟩))
    go_wp2_with fail
    go_meet
    exact ⟨(H3.out.frame ((Fr.refl _ _).drew)).read H.out.2 hb1 hf1, hn20, hnp, HE.out⟩
  case rest =>
    obtain ⟨g4, hn20, hnp, hlen⟩ := hcut.out
    have H4 := Lib.hid g4
    have hcq : wc.cell? ⟨bp, 0, none⟩ = some (.string p) := g4.pp.cell 0
    clear hcut g4 H3 hcp
    -- the sum
    have hcat : cat [p.extract 0 n] = p.data.toList.take n := by simp [cat]
    have hrt := right_any [p.extract 0 n] wc.heap.size 1 (wc.alloc (Obj.cells #[Value.string (p.extract 0 n)] 9)) (by simp) (texts_new [p.extract 0 n] rfl) (by simp) (by rw [hcat]; simp; omega)
    rw [hcat] at hrt
    have HR := Lib.hid hrt
    clear hrt hcat
    go_wp2_with fail
    refine HR.out.mono ?_
    rintro e w5 ⟨rfl, hf1⟩
    have H5 := Lib.hid (H4.out.frame (((Fr.refl _ _).alloc _).trans hf1))
    clear HR hf1 H4 hcq
    go_wp2_with fail
    refine (need_any _ _ _ _).mono ?_
    rintro e w' ⟨rfl, (⟨hc, rfl⟩ | ⟨hc, rfl⟩)⟩
    rotate_left
    · have : ip4err p = 5 := by
        unfold ip4err
        rw [if_neg (by omega), if_neg (by rw [HV.out]; omega), HN.out, if_neg (by omega), if_pos (by simpa using hc)]
      exact ⟨rfl, H5.out.fr, .inr (by rw [this]; exact ⟨by decide, rfl⟩)⟩
    have HS := Lib.hid (by simpa using hc : csum (p.data.toList.take n) = 0)
    clear hc
    -- ID
    go_wp2_with fail
    refine (u16_ok b p 4 _ H5.out.rd (by omega) HP).mono ?_
    rintro e w6 ⟨rfl, hb1, hf1⟩
    have H6 := Lib.hid (H5.out.read H.out.2 hb1 hf1)
    have c1 : w6.cell? ⟨bh, 1, none⟩ = some (.int .i64 0) := H6.out.hh.cell 1
    have f1 := H6.out.hh.free 1
    clear hb1 hf1 H5
    go_wp2_with fail
    have H7 := Lib.hid (H6.out.put H.out.2 1 (.int .i64 (num p 4 2)) { Hdr.zero with tos := num p 1 1, id := num p 4 2 } rfl)
    generalize w6.setCell ⟨bh, 1, none⟩ (.int .i64 (num p 4 2)) = w7 at *
    clear H6 c1 f1
    -- the flags
    refine (u16_ok b p 6 _ H7.out.rd (by omega) HP).mono ?_
    rintro e w8 ⟨rfl, hb1, hf1⟩
    have H8 := Lib.hid (H7.out.read H.out.2 hb1 hf1)
    clear hb1 hf1 H7
    go_wp2_with fail
    refine (need_any _ _ _ _).mono ?_
    rintro e w' ⟨rfl, (⟨hc, rfl⟩ | ⟨hc, rfl⟩)⟩
    rotate_left
    · have : ip4err p = 9 := by
        unfold ip4err
        rw [if_neg (by omega), if_neg (by rw [HV.out]; omega), HN.out, if_neg (by omega), if_neg (by rw [HS.out]; omega), if_pos (by simp at hc; omega)]
      exact ⟨rfl, H8.out.fr, .inr (by rw [this]; exact ⟨by decide, rfl⟩)⟩
    have hzero : ip4err p = 0 := by
        unfold ip4err
        rw [if_neg (by omega), if_neg (by rw [HV.out]; omega), HN.out, if_neg (by omega), if_neg (by rw [HS.out]; omega), if_neg (by simp at hc; omega)]
    have HZ := Lib.hid hzero
    clear hc hlen hzero
    have hv6 : num p 6 2 < 65536 := val_take_lt _ 2
    have m1 : bits BinOp.and IntKind.i64 ((num p 6 2 : Int) / 16384) 1 = ((num p 6 2 / 16384 % 2 : Nat) : Int) := by
      have := i64_and_nat (num p 6 2 / 16384) 1 (by omega) (by omega)
      rw [nat_mask1] at this
      exact this
    have m2 : bits BinOp.and IntKind.i64 ((num p 6 2 : Int) / 8192) 1 = ((num p 6 2 / 8192 % 2 : Nat) : Int) := by
      have := i64_and_nat (num p 6 2 / 8192) 1 (by omega) (by omega)
      rw [nat_mask1] at this
      exact this
    have m3 : bits BinOp.and IntKind.i64 (num p 6 2 : Int) 8191 = ((num p 6 2 % 8192 : Nat) : Int) := by
      have := i64_and_nat (num p 6 2) 8191 (by omega) (by omega)
      rw [nat_mask13] at this
      exact this
    have q2 : w8.cell? ⟨bh, 2, none⟩ = some (.int .i64 0) := H8.out.hh.cell 2
    have q5 : w8.cell? ⟨bh, 5, none⟩ = some (.bool false) := H8.out.hh.cell 5
    have q6 : w8.cell? ⟨bh, 6, none⟩ = some (.bool false) := H8.out.hh.cell 6
    have f2 := H8.out.hh.free 2
    have f5 := H8.out.hh.free 5
    have f6 := H8.out.hh.free 6
    go_wp2_with fail
    have H9 := Lib.hid (((H8.out.put H.out.2 5 (.bool ((num p 6 2 : Int) / 16384 % 2 == 1)) { Hdr.zero with tos := num p 1 1, id := num p 4 2, df := (num p 6 2 : Int) / 16384 % 2 == 1 } rfl).put H.out.2 6 (.bool ((num p 6 2 : Int) / 8192 % 2 == 1)) { Hdr.zero with tos := num p 1 1, id := num p 4 2, df := (num p 6 2 : Int) / 16384 % 2 == 1, mf := (num p 6 2 : Int) / 8192 % 2 == 1 } rfl).put H.out.2 2 (.int .i64 ((num p 6 2 : Int) % 8192)) { Hdr.zero with tos := num p 1 1, id := num p 4 2, df := (num p 6 2 : Int) / 16384 % 2 == 1, mf := (num p 6 2 : Int) / 8192 % 2 == 1, off := (num p 6 2 : Int) % 8192 } rfl)
    generalize ((w8.setCell ⟨bh, 5, none⟩ (.bool ((num p 6 2 : Int) / 16384 % 2 == 1))).setCell ⟨bh, 6, none⟩ (.bool ((num p 6 2 : Int) / 8192 % 2 == 1))).setCell ⟨bh, 2, none⟩ (.int .i64 ((num p 6 2 : Int) % 8192)) = w9 at *
    clear H8 q2 q5 q6 f2 f5 f6 m1 m2 m3 hv6
    generalize hdf : ((num p 6 2 : Int) / 16384 % 2 == 1) = df at *
    generalize hmf : ((num p 6 2 : Int) / 8192 % 2 == 1) = mf at *
    generalize hof : ((num p 6 2 : Int) % 8192) = off at *
    have HD := Lib.hid (And.intro hdf (And.intro hmf hof))
    clear hdf hmf hof
    -- TTL, Proto
    refine (u8_ok b p 8 _ H9.out.rd (by omega) HP).mono ?_
    rintro e w10 ⟨rfl, hb1, hf1⟩
    have H10 := Lib.hid (H9.out.read H.out.2 hb1 hf1)
    clear hb1 hf1 H9
    go_wp2_with fail
    refine (u8_ok b p 9 _ H10.out.rd (by omega) HP).mono ?_
    rintro e w11 ⟨rfl, hb1, hf1⟩
    have H11 := Lib.hid (H10.out.read H.out.2 hb1 hf1)
    have q3 : w11.cell? ⟨bh, 3, none⟩ = some (.int .i64 0) := H11.out.hh.cell 3
    have q4 : w11.cell? ⟨bh, 4, none⟩ = some (.int .i64 0) := H11.out.hh.cell 4
    have f3 := H11.out.hh.free 3
    have f4 := H11.out.hh.free 4
    clear hb1 hf1 H10
    go_wp2_with fail
    have H12 := Lib.hid ((H11.out.put H.out.2 3 (.int .i64 (num p 8 1)) { Hdr.zero with tos := num p 1 1, id := num p 4 2, df := df, mf := mf, off := off, ttl := num p 8 1 } rfl).put H.out.2 4 (.int .i64 (num p 9 1)) { Hdr.zero with tos := num p 1 1, id := num p 4 2, df := df, mf := mf, off := off, ttl := num p 8 1, proto := num p 9 1 } rfl)
    generalize ((w11.setCell ⟨bh, 3, none⟩ (.int .i64 (num p 8 1))).setCell ⟨bh, 4, none⟩ (.int .i64 (num p 9 1))) = w12 at *
    clear H11 q3 q4 f3 f4
    -- the sum's place, Src, Dst
    refine (u16_ok b p 10 _ H12.out.rd (by omega) HP).mono ?_
    rintro e w13 ⟨rfl, hb1, hf1⟩
    have H13 := Lib.hid (H12.out.read H.out.2 hb1 hf1)
    clear hb1 hf1 H12
    go_wp2_with fail
    refine (take_ok b p 12 4 _ H13.out.rd (by omega) HP).mono ?_
    rintro e w14 ⟨rfl, hb1, hf1⟩
    have H14 := Lib.hid (H13.out.read H.out.2 hb1 hf1)
    clear hb1 hf1 H13
    go_wp2_with fail
    refine (take_ok b p 16 4 _ H14.out.rd (by omega) HP).mono ?_
    rintro e w15 ⟨rfl, hb1, hf1⟩
    have H15 := Lib.hid (H14.out.read H.out.2 hb1 hf1)
    have q3 : w15.cell? ⟨bh, 7, none⟩ = some (.string ⟨#[]⟩) := H15.out.hh.cell 7
    have q4 : w15.cell? ⟨bh, 8, none⟩ = some (.string ⟨#[]⟩) := H15.out.hh.cell 8
    have f3 := H15.out.hh.free 7
    have f4 := H15.out.hh.free 8
    have en : ((n : Int) - 20) = ((n - 20 : Nat) : Int) := by omega
    have e24 : 20 + (n - 20) = n := by omega
    clear hb1 hf1 H14
    go_wp2_with fail
    have H16 := Lib.hid ((H15.out.put H.out.2 7 (.string (p.extract 12 16)) { Hdr.zero with tos := num p 1 1, id := num p 4 2, df := df, mf := mf, off := off, ttl := num p 8 1, proto := num p 9 1, src := p.extract 12 16 } rfl).put H.out.2 8 (.string (p.extract 16 20)) { Hdr.zero with tos := num p 1 1, id := num p 4 2, df := df, mf := mf, off := off, ttl := num p 8 1, proto := num p 9 1, src := p.extract 12 16, dst := p.extract 16 20 } rfl)
    generalize ((w15.setCell ⟨bh, 7, none⟩ (.string (p.extract 12 16))).setCell ⟨bh, 8, none⟩ (.string (p.extract 16 20))) = w16 at *
    clear H15 q3 q4 f3 f4
    -- Options, the payload
    have HT := Lib.hid (take_ok b p 20 (n - 20) _ H16.out.rd (by omega) HP)
    rw [e24] at HT
    refine HT.out.mono ?_
    rintro e w17 ⟨rfl, hb1, hf1⟩
    have H17 := Lib.hid (H16.out.read H.out.2 hb1 hf1)
    clear hb1 hf1 H16 HT e24 en
    go_wp2_with fail
    refine (rest_ok b p n _ H17.out.rd hnp HP).mono ?_
    rintro e w18 ⟨rfl, hb1, hf1⟩
    have H18 := Lib.hid (H17.out.read H.out.2 hb1 hf1)
    clear hb1 hf1 H17
    have q3 : w18.cell? ⟨bh, 9, none⟩ = some (.string ⟨#[]⟩) := H18.out.hh.cell 9
    have q4 : w18.cell? ⟨bs, 0, none⟩ = some (.string ⟨#[]⟩) := H18.out.ss.cell 0
    have f3 := H18.out.hh.free 9
    have f4 := H18.out.ss.free 0
    have hne : ¬ bh = bs := H.out.2.n6
    have hne' : ¬ bs = bh := fun h => hne h.symm
    go_wp2_with fail
    go_end0
    have H19 := (H18.out.put H.out.2 9 (.string (p.extract 20 n)) { Hdr.zero with tos := num p 1 1, id := num p 4 2, df := df, mf := mf, off := off, ttl := num p 8 1, proto := num p 9 1, src := p.extract 12 16, dst := p.extract 16 20, opts := p.extract 20 n } rfl).put_text H.out.2 (p.extract n p.size)
    have hh : { Hdr.zero with tos := num p 1 1, id := num p 4 2, df := df, mf := mf, off := off, ttl := num p 8 1, proto := num p 9 1, src := p.extract 12 16, dst := p.extract 16 20, opts := p.extract 20 n } = ip4hdr p := by
      unfold ip4hdr
      rw [HD.out.1, HD.out.2.1, HD.out.2.2, HN.out]
    refine ⟨H19.fr, .inl ⟨HZ.out, rfl, ?_, ?_⟩⟩
    · rw [← hh]; exact H19.hh
    · unfold ip4pay; rw [HN.out]; exact H19.ss
end Go.Proofs.Ytlgjhacmhkbkdaa
