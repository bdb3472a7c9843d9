/- palanquinref16: small functions. -/
import Derived.Test.YtlgjhacmhkbkdaaRefRight
import Derived.Test.YtlgjhacmhkbkdaaBase2
import Derived.Deep.RegionHeld3
import Derived.Deep.DeepCutAuto
import Derived.Test.YtlgjhacmhkbkdaaReg
namespace Go.Proofs.Ytlgjhacmhkbkdaa
open Go.RowKit

/-- A piece of the reference: a header, and a payload. -/
structure Pc where
  h : Hdr
  s : ByteArray

def Pc.from (p : Pc) : Nat := 8 * p.h.off.toNat
def Pc.end (p : Pc) : Nat := 8 * p.h.off.toNat + p.s.size

/-- A piece that a packet may have. -/
structure Pc.ok (p : Pc) : Prop where
  o0 : 0 ≤ p.h.off
  o1 : p.h.off ≤ 8191
  sz : p.s.size ≤ 1048576
  ss : p.h.src.size ≤ 100
  sd : p.h.dst.size ≤ 100
  so : p.h.opts.size ≤ 100

def pcCells (p : Pc) : Array Value :=
  #[.int .i64 p.h.tos, .int .i64 p.h.id, .int .i64 p.h.off, .int .i64 p.h.ttl, .int .i64 p.h.proto, .bool p.h.df, .bool p.h.mf, .string p.h.src, .string p.h.dst, .string p.h.opts, .string p.s]

def pcV (p : Pc) : Value := .agg (pcCells p)

set_option maxHeartbeats 400000 in
theorem rpfrom_any (p : Pc) (w : World) (hp : p.ok) : Calls Try.prog 42 #[pcV p] w fun e w' => e = .returned (.int .i64 p.from) ∧ Fr [] w w' := by
  have h0 := hp.o0
  have h1 := hp.o1
  have hf : (p.from : Int) = p.h.off * 8 := by unfold Pc.from; omega
  have HF := Lib.hid hf
  unfold pcV pcCells
  go_enter Try.func42, Try.ntmps42
  go_wp2_with fail
  go_ret
  exact ⟨by rw [HF.out]; rfl, (Fr.refl _ _).alloc _⟩

set_option maxHeartbeats 400000 in
theorem rpend_any (p : Pc) (w : World) (hp : p.ok) : Calls Try.prog 40 #[pcV p] w fun e w' => e = .returned (.int .i64 p.end) ∧ Fr [] w w' := by
  have h0 := hp.o0
  have h1 := hp.o1
  have hsz := hp.sz
  have hf : (p.end : Int) = p.h.off * 8 + p.s.size := by unfold Pc.end; omega
  have HF := Lib.hid hf
  unfold pcV pcCells
  go_enter Try.func40, Try.ntmps40
  go_wp2_with fail
  go_ret
  exact ⟨by rw [HF.out]; rfl, (Fr.refl _ _).alloc _⟩

/-- Do two pieces overlap? -/
def over (a b : Pc) : Bool := decide (a.from < b.end) && decide (b.from < a.end)
def fitR2 (a b : Pc) : Bool := !a.h.mf && (!b.h.mf || decide (a.end < b.end))
def fitR (a b : Pc) : Bool := if over a b then false else if fitR2 a b then false else b.h.mf || decide (a.end ≤ b.end)

/-- Two pieces' boxes, and the frame. -/
structure FS (N : Nat) (a b : Pc) (w W : World) : Prop where
  c1 : ∀ k, W.cell? ⟨N, k, none⟩ = (pcCells a)[k]?
  c2 : ∀ k, W.cell? ⟨N + 1, k, none⟩ = (pcCells b)[k]?
  fr : Fr [] w W

theorem pcCells_size (p : Pc) : 0 < (pcCells p).size := by simp [pcCells]

theorem FS.trans {N : Nat} {a b : Pc} {w W W' : World} (h : FS N a b w W) (hf : Fr [] W W') : FS N a b w W' :=
  ⟨hf.cells h.c1 (by simp) (pcCells_size a), hf.cells h.c2 (by simp) (pcCells_size b), h.fr.trans hf⟩
theorem FS.drew {N : Nat} {a b : Pc} {w W : World} (h : FS N a b w W) : FS N a b w W.drew := h.trans (Fr.refl _ _).drew


theorem pcV_lit (p : Pc) : Value.agg #[.int .i64 p.h.tos, .int .i64 p.h.id, .int .i64 p.h.off, .int .i64 p.h.ttl, .int .i64 p.h.proto, .bool p.h.df, .bool p.h.mf, .string p.h.src, .string p.h.dst, .string p.h.opts, .string p.s] = pcV p := rfl

theorem over_spec (a b : Pc) : over a b = (decide (a.from < b.end) && decide (b.from < a.end)) := rfl

set_option maxRecDepth 100000 in
set_option maxHeartbeats 1000000 in
theorem rfit_any (a b : Pc) (w : World) (ha : a.ok) (hb : b.ok) : Calls Try.prog 43 #[pcV a, pcV b] w fun e w' => e = .returned (.bool (fitR a b)) ∧ Fr [] w w' := by
  obtain ⟨N, hN⟩ : ∃ N, N = w.heap.size := ⟨_, rfl⟩
  go_enter Try.func43, Try.ntmps43
  unfold pcV pcCells
  go_wp2_with fail
  rw [← hN, pcV_lit a, pcV_lit b]
  have HN := Lib.hid hN
  clear hN
  go_cut [16] (fun v wx => v = .bool (over a b) ∧ Hid (FS N a b w wx))
  case first =>
    obtain ⟨W0, hW⟩ : ∃ W0, W0 = ((w.alloc (Obj.cells (pcCells a) 88)).alloc (Obj.cells (pcCells b) 88)) := ⟨_, rfl⟩
    have k0 : FS N a b w W0 := by
      rw [hW]
      exact ⟨(((Blk.new_at HN.out _ _).alloc _) : Blk _ N (pcCells a) 88).cell, (Blk.new_at (by simp [HN.out]) _ _ : Blk _ (N + 1) (pcCells b) 88).cell, ((Fr.refl _ _).alloc _).alloc _⟩
    unfold pcCells at hW
    rw [← hW]
    clear hW
    have K0 := Lib.hid k0.drew
    clear k0
    refine wp_region_keep (fun w' => Hid (FS N a b w w')) (by kernel_rfl) (by kernel_rfl) K0 ?_
    clear K0
    repeat (first | (refine wpI_one (by rfl) (fun w1 hS => by (have q1 := hS.out.c1; have q2 := hS.out.c2; unfold pcCells at q1 q2; go_simp; first | exact ⟨rfl, hS⟩ | exact rfl | (refine (rpfrom_any _ _ (by assumption)).mono ?_; rintro e w4 ⟨rfl, hf4⟩; exact ⟨rfl, Lib.hid (hS.out.trans hf4)⟩) | (refine (rpend_any _ _ (by assumption)).mono ?_; rintro e w4 ⟨rfl, hf4⟩; exact ⟨rfl, Lib.hid (hS.out.trans hf4)⟩))) (fun K hK => ?_); go_simp; refine hK _ ?_; clear hK K) | (refine wpI_skip (by rfl) (fun K hK => ?_); go_simp; refine hK _ ?_; clear hK K))
    have hov := over_spec a b
    generalize decide (a.from < b.end) = x at *
    generalize hy : decide (b.from < a.end) = y at *
    cases x
    all_goals
      repeat (first | (refine wpI_one (by rfl) (fun w1 hS => by (have q1 := hS.out.c1; have q2 := hS.out.c2; unfold pcCells at q1 q2; go_simp; first | exact ⟨rfl, hS⟩ | exact rfl | (refine (rpfrom_any _ _ (by assumption)).mono ?_; rintro e w4 ⟨rfl, hf4⟩; exact ⟨rfl, Lib.hid (hS.out.trans hf4)⟩) | (refine (rpend_any _ _ (by assumption)).mono ?_; rintro e w4 ⟨rfl, hf4⟩; exact ⟨rfl, Lib.hid (hS.out.trans hf4)⟩))) (fun K hK => ?_); go_simp; refine hK _ ?_; clear hK K) | (refine wpI_skip (by rfl) (fun K hK => ?_); go_simp; refine hK _ ?_; clear hK K))
      refine wpI_nil ?_; intro w' hS
      go_wp2_with fail
      go_meet
      exact ⟨by rw [hov]; first | rfl | (rw [hy]; rfl), hS⟩
  case rest =>
    obtain ⟨rfl, hS0⟩ := hcut
    have hfit : fitR a b = if over a b then false else if fitR2 a b then false else b.h.mf || decide (a.end ≤ b.end) := rfl
    have HFIT := Lib.hid hfit
    clear hfit
    generalize over a b = o1 at *
    cases o1
    case true =>
      go_wp2_with fail
      go_ret
      exact ⟨by rw [HFIT.out]; rfl, hS0.out.fr⟩
    case false =>
      go_wp2_with fail
      go_cut [33] (fun v wx => v = .bool (fitR2 a b) ∧ Hid (FS N a b w wx))
      case first =>
        refine wp_region_keep (fun w' => Hid (FS N a b w w')) (by kernel_rfl) (by kernel_rfl) (Lib.hid hS0.out.drew) ?_
        clear hS0
        repeat (first | (refine wpI_one (by rfl) (fun w1 hS => by (have q1 := hS.out.c1; have q2 := hS.out.c2; unfold pcCells at q1 q2; go_simp; first | exact ⟨rfl, hS⟩ | exact rfl)) (fun K hK => ?_); go_simp; refine hK _ ?_; clear hK K) | (refine wpI_skip (by rfl) (fun K hK => ?_); go_simp; refine hK _ ?_; clear hK K))
        have hr2 : fitR2 a b = (!a.h.mf && (!b.h.mf || decide (a.end < b.end))) := rfl
        have HR := Lib.hid hr2
        clear hr2
        generalize hm1 : a.h.mf = m1
        have HM1 := Lib.hid hm1
        clear hm1
        cases m1
        case' false =>
          repeat (first | (refine wpI_one (by rfl) (fun w1 hS => by (have q1 := hS.out.c1; have q2 := hS.out.c2; unfold pcCells at q1 q2; go_simp; first | exact ⟨rfl, hS⟩ | exact rfl)) (fun K hK => ?_); go_simp; refine hK _ ?_; clear hK K) | (refine wpI_skip (by rfl) (fun K hK => ?_); go_simp; refine hK _ ?_; clear hK K))
          generalize hm2 : b.h.mf = m2
          have HM2 := Lib.hid hm2
          clear hm2
          cases m2
        all_goals
          repeat (first | (refine wpI_one (by rfl) (fun w1 hS => by (have q1 := hS.out.c1; have q2 := hS.out.c2; unfold pcCells at q1 q2; go_simp; first | exact ⟨rfl, hS⟩ | exact rfl | (refine (rpend_any _ _ (by assumption)).mono ?_; rintro e w4 ⟨rfl, hf4⟩; exact ⟨rfl, Lib.hid (hS.out.trans hf4)⟩))) (fun K hK => ?_); go_simp; refine hK _ ?_; clear hK K) | (refine wpI_skip (by rfl) (fun K hK => ?_); go_simp; refine hK _ ?_; clear hK K))
          refine wpI_nil ?_; intro w' hS
          go_wp2_with fail
          go_meet
          exact ⟨by rw [HR.out, HM1.out]; first | rfl | (rw [HM2.out]; first | rfl | simp), hS⟩
      case rest =>
        obtain ⟨rfl, hS1⟩ := hcut
        generalize fitR2 a b = o2 at *
        cases o2
        case true =>
          go_wp2_with fail
          go_ret
          exact ⟨by rw [HFIT.out]; rfl, hS1.out.fr⟩
        case false =>
          go_wp2_with fail
          refine wp_region_keep (fun w' => Hid (FS N a b w w')) (by kernel_rfl) (by kernel_rfl) (Lib.hid hS1.out.drew) ?_
          clear hS1 hS0
          repeat (first | (refine wpI_one (by rfl) (fun w1 hS => by (have q1 := hS.out.c1; have q2 := hS.out.c2; unfold pcCells at q1 q2; go_simp; first | exact ⟨rfl, hS⟩ | exact rfl)) (fun K hK => ?_); go_simp; refine hK _ ?_; clear hK K) | (refine wpI_skip (by rfl) (fun K hK => ?_); go_simp; refine hK _ ?_; clear hK K))
          generalize hm2 : b.h.mf = m2
          have HM2 := Lib.hid hm2
          clear hm2
          cases m2
          all_goals
            repeat (first | (refine wpI_one (by rfl) (fun w1 hS => by (have q1 := hS.out.c1; have q2 := hS.out.c2; unfold pcCells at q1 q2; go_simp; first | exact ⟨rfl, hS⟩ | exact rfl | (refine (rpend_any _ _ (by assumption)).mono ?_; rintro e w4 ⟨rfl, hf4⟩; exact ⟨rfl, Lib.hid (hS.out.trans hf4)⟩))) (fun K hK => ?_); go_simp; refine hK _ ?_; clear hK K) | (refine wpI_skip (by rfl) (fun K hK => ?_); go_simp; refine hK _ ?_; clear hK K))
            refine wpI_nil ?_; intro w' hS
            go_wp2_with fail
            go_ret
            exact ⟨by rw [HFIT.out, HM2.out]; first | rfl | simp, hS.out.fr⟩
end Go.Proofs.Ytlgjhacmhkbkdaa
