/- ip4.Get, whole. -/
import Derived.Test.YtlgjhacmhkbkdaaIp4Get
import Derived.Shelf.Abstract
namespace Go.Proofs.Ytlgjhacmhkbkdaa
open Go.RowKit

theorem ip4get1_enters : ∀ args w, (callFunc 54 args).run Try.prog w = .ok (.enter 54 args) w := enters_of Try.func54 (by kernel_rfl) rfl

/-- What ip4.Get answers. -/
def ip4get (p : ByteArray) : Hdr × ByteArray × Nat := if ip4err p = 0 then (ip4hdr p, ip4pay p, 0) else (Hdr.zero, ⟨#[]⟩, ip4err p)

def hdrV (h : Hdr) : Value := .agg (hdrCells h)

/-- A header stored into a block. -/
def putHdr (w : World) (b : Nat) (h : Hdr) : World :=
  ((((((((((w.setCell ⟨b, 0, none⟩ (.int .i64 h.tos)).setCell ⟨b, 1, none⟩ (.int .i64 h.id)).setCell ⟨b, 2, none⟩ (.int .i64 h.off)).setCell ⟨b, 3, none⟩ (.int .i64 h.ttl)).setCell ⟨b, 4, none⟩ (.int .i64 h.proto)).setCell ⟨b, 5, none⟩ (.bool h.df)).setCell
    ⟨b, 6, none⟩ (.bool h.mf)).setCell ⟨b, 7, none⟩ (.string h.src)).setCell ⟨b, 8, none⟩ (.string h.dst)).setCell ⟨b, 9, none⟩ (.string h.opts))

theorem Blk.putHdr {w : World} {b : Nat} {t : TypeId} {h0 : Hdr} (hb : Blk w b (hdrCells h0) t) (h : Hdr) : Blk (putHdr w b h) b (hdrCells h) t := by
  have h1 := (((((((((hb.set 0 (.int .i64 h.tos)).set 1 (.int .i64 h.id)).set 2 (.int .i64 h.off)).set 3 (.int .i64 h.ttl)).set 4 (.int .i64 h.proto)).set 5 (.bool h.df)).set 6 (.bool h.mf)).set 7 (.string h.src)).set 8 (.string h.dst)).set 9 (.string h.opts)
  refine Blk.same h1 ?_
  simp [hdrCells]

theorem Fr.putHdr {S : List Nat} {a w : World} {b : Nat} (hf : Fr S a w) (h : Hdr) (hb : b ∈ S ∨ a.heap.size ≤ b) : Fr S a (putHdr w b h) :=
  (((((((((hf.setCell _ _ hb).setCell _ _ hb).setCell _ _ hb).setCell _ _ hb).setCell _ _ hb).setCell _ _ hb).setCell _ _ hb).setCell _ _ hb).setCell _ _ hb).setCell _ _ hb

theorem results_ip4get (h : Hdr) (b : Nat) (v3 v4 : Value) (tmps : Array Value) (W : World) (hB : Blk W b (hdrCells h) 43) (h2 : tmps.getD 2 undef = .pointer (some ⟨b, 0, none⟩)) (h3 : tmps.getD 3 undef = v3) (h4 : tmps.getD 4 undef = v4) :
    (results Try.f29 tmps).run Try.prog W = .ok (.tuple #[hdrV h, v3, v4]) W := by
  have c := hB.cell
  simp only [hdrCells] at c
  simp only [Array.getD_eq_getD_getElem?] at h2 h3 h4
  simp [results, Try.results29, go_sem, h2, h3, h4, c, hdrV, hdrCells]

set_option maxRecDepth 100000 in
set_option maxHeartbeats 1000000 in
theorem ip4get_any (p : ByteArray) (w : World) (hp : p.size ≤ 35184372088832) :
    Calls Try.prog 29 #[.string p] w fun e w' => e = .returned (.tuple #[hdrV (ip4get p).1, .string (ip4get p).2.1, .int .i64 (ip4get p).2.2]) ∧ Fr [] w w' := by
  have hmf : ∀ (fn : Fn) (first cap : Array Value) (w : World), (Instr.makeFunc fn first cap).run Try.prog w = .ok (.func fn first cap) w := fun _ _ _ _ => rfl
  go_enter Try.func29, Try.ntmps29
  go_wp2_with fail
  have hz : (#[Value.int IntKind.i64 0, Value.int IntKind.i64 0, Value.int IntKind.i64 0, Value.int IntKind.i64 0, Value.int IntKind.i64 0, Value.bool false, Value.bool false, Value.string { data := #[] }, Value.string { data := #[] }, Value.string { data := #[] }] : Array Value) = hdrCells Hdr.zero := rfl
  have b0 : Blk ((((w.alloc (Obj.cells #[Value.string p] 9)).alloc (Obj.cells (hdrCells Hdr.zero) 43)).alloc (Obj.cells (hdrCells Hdr.zero) 43)).alloc (Obj.cells #[Value.string { data := #[] }] 9)) w.heap.size #[Value.string p] 9 := (((Blk.new _ _ _).alloc _).alloc _).alloc _
  have b1 : Blk ((((w.alloc (Obj.cells #[Value.string p] 9)).alloc (Obj.cells (hdrCells Hdr.zero) 43)).alloc (Obj.cells (hdrCells Hdr.zero) 43)).alloc (Obj.cells #[Value.string { data := #[] }] 9)) (w.heap.size + 1) (hdrCells Hdr.zero) 43 := ((Blk.new_at (by simp) _ _).alloc _).alloc _
  have b2 : Blk ((((w.alloc (Obj.cells #[Value.string p] 9)).alloc (Obj.cells (hdrCells Hdr.zero) 43)).alloc (Obj.cells (hdrCells Hdr.zero) 43)).alloc (Obj.cells #[Value.string { data := #[] }] 9)) (w.heap.size + 1 + 1) (hdrCells Hdr.zero) 43 := (Blk.new_at (by simp) _ _).alloc _
  have b3 : Blk ((((w.alloc (Obj.cells #[Value.string p] 9)).alloc (Obj.cells (hdrCells Hdr.zero) 43)).alloc (Obj.cells (hdrCells Hdr.zero) 43)).alloc (Obj.cells #[Value.string { data := #[] }] 9)) (w.heap.size + 1 + 1 + 1) #[Value.string { data := #[] }] 9 := Blk.new_at (by simp) _ _
  have hF0 : Fr [] w ((((w.alloc (Obj.cells #[Value.string p] 9)).alloc (Obj.cells (hdrCells Hdr.zero) 43)).alloc (Obj.cells (hdrCells Hdr.zero) 43)).alloc (Obj.cells #[Value.string { data := #[] }] 9)) := ((((Fr.refl _ _).alloc _).alloc _).alloc _).alloc _
  have hs : ((((w.alloc (Obj.cells #[Value.string p] 9)).alloc (Obj.cells (hdrCells Hdr.zero) 43)).alloc (Obj.cells (hdrCells Hdr.zero) 43)).alloc (Obj.cells #[Value.string { data := #[] }] 9)).heap.size = w.heap.size + 4 := by simp
  rw [hz]
  generalize ((((w.alloc (Obj.cells #[Value.string p] 9)).alloc (Obj.cells (hdrCells Hdr.zero) 43)).alloc (Obj.cells (hdrCells Hdr.zero) 43)).alloc (Obj.cells #[Value.string { data := #[] }] 9)) = W0 at *
  have ap : ∀ b, W0.heap.size < b → Apart4 b w.heap.size (w.heap.size + 1 + 1) (w.heap.size + 1 + 1 + 1) := fun b hb => ⟨by omega, by omega, by omega, by omega, by omega, by omega⟩
  refine (read_any 54 #[.pointer (some ⟨w.heap.size, 0, none⟩), .pointer (some ⟨w.heap.size + 1 + 1, 0, none⟩), .pointer (some ⟨w.heap.size + 1 + 1 + 1, 0, none⟩)] p (ip4err p) [w.heap.size + 1 + 1, w.heap.size + 1 + 1 + 1]
    (fun W' => ip4err p = 0 → Blk W' (w.heap.size + 1 + 1) (hdrCells (ip4hdr p)) 43 ∧ Blk W' (w.heap.size + 1 + 1 + 1) #[.string (ip4pay p)] 9) W0 ip4get1_enters (by intro i hi; simp at hi; omega) ?_).mono ?_
  · intro W b hF hb hlt
    refine (ip4get1_any p b w.heap.size (w.heap.size + 1 + 1) (w.heap.size + 1 + 1 + 1) W hp (ap b hlt) ⟨hb, hF.keep b0 (by simp), hF.keep b2 (by simp), hF.keep b3 (by simp), Fr.refl _ _⟩).mono ?_
    rintro e W' ⟨hf, ⟨h0, rfl, h1, h2⟩ | ⟨h0, rfl⟩⟩
    · exact ⟨hf, fun _ => ⟨h1, h2⟩, .inl ⟨by rw [h0]; rfl, rfl⟩⟩
    · exact ⟨hf, fun h => absurd h h0, .inr ⟨by omega, rfl⟩⟩
  · rintro e w1 ⟨rfl, hf, W1, hK, hf1⟩
    have hf2 := hF0.trans' hf (by intro i hi; simp at hi; right; omega)
    have r1 := hf.keep b1 (by simp)
    by_cases h0 : ip4err p = 0
    · obtain ⟨k1, k2⟩ := hK h0
      have r2 := hf1.keep k1 (by simp; omega)
      have r3 := hf1.keep k2 (by simp; omega)
      clear hf hf1 hK hF0 ap b0 b1 b2 b3 k1 k2
      rw [h0]
      have E0 := Lib.hid (by unfold ip4get; rw [if_pos h0] : ip4get p = (ip4hdr p, ip4pay p, 0))
      have HB := Lib.hid (And.intro r1 hf2)
      have HS := Lib.hid hs
      have c1 := r1.cell
      have c2 := r2.cell
      have c3 : w1.cell? ⟨w.heap.size + 1 + 1 + 1, 0, none⟩ = some (.string (ip4pay p)) := r3.cell 0
      have f1 := r1.free
      generalize ip4hdr p = h at *
      generalize ip4pay p = y at *
      generalize hN : w.heap.size = N at *
      have HNN := Lib.hid hN
      clear hN
      clear r1 r2 r3 hf2 hs h0
      go_wp2_with fail
      simp only [hdrCells] at c1 c2
      go_region
      go_wp2_with fail
      refine bodyPost_ret (results_ip4get h (N + 1) (.string y) (.int .i64 0) _ _ ?hb ?h2 ?h3 ?h4) rfl ?fin
      case hb => exact (HB.out.1.putHdr h).drew
      case h2 => rfl
      case h3 => rfl
      case h4 => rfl
      case fin => exact ⟨by rw [E0.out]; rfl, (HB.out.2.putHdr h (.inr (by rw [HNN.out]; omega))).drew⟩
    · have E0 := Lib.hid (by unfold ip4get; rw [if_neg h0] : ip4get p = (Hdr.zero, ⟨#[]⟩, ip4err p))
      have he : ((ip4err p : Int) != 0) = true := by simp; omega
      have HB := Lib.hid (And.intro r1 hf2)
      have c1 := r1.cell
      have f1 := r1.free
      clear r1 hf2 h0 hK hf hf1 ap b0 b1 b2 b3 hF0 hs
      generalize ip4err p = x at *
      generalize hN : w.heap.size = N at *
      have HNN := Lib.hid hN
      clear hN
      simp only [hdrCells, Hdr.zero] at c1
      clear hz
      go_wp2_with fail
      refine bodyPost_ret (results_ip4get Hdr.zero (N + 1) (.string ⟨#[]⟩) (.int .i64 x) _ _ ?hb ?h2 ?h3 ?h4) rfl ?fin
      case hb => exact HB.out.1.putHdr Hdr.zero
      case h2 => rfl
      case h3 => rfl
      case h4 => rfl
      case fin => exact ⟨by rw [E0.out], HB.out.2.putHdr Hdr.zero (.inr (by rw [HNN.out]; omega))⟩
end Go.Proofs.Ytlgjhacmhkbkdaa
