/- ip4.Check, whole. -/
import Derived.Test.YtlgjhacmhkbkdaaIp4Check
import Derived.Test.YtlgjhacmhkbkdaaIp4Get2
import Derived.Test.YtlgjhacmhkbkdaaBase2
namespace Go.Proofs.Ytlgjhacmhkbkdaa
open Go.RowKit

theorem ccatch_panicking (p : Nat) (w : World) (h : Blk w p #[.int .i64 0] 28) :
    CallsD Try.prog 91 #[.pointer (some ⟨p, 0, none⟩)] (.panicking oddChain) w fun e u' w' =>
      e = .returned (.tuple #[]) ∧ u' = .panicking [{ v := .iface 147 (.agg #[]), recovered := true }] ∧ Blk w' p #[.int .i64 1] 28 ∧ Fr [p] w w' := by
  have hc := h.cell 0
  have hz := h.free 0
  have hp := h.lt
  have hne : ¬ p = w.heap.size := by omega
  have hta : ∀ (x : Value) (w : World), (Instr.typeAssert (.iface 147 x) 20 147 true).run Try.prog w = .ok (.tuple #[x, .bool true]) w := fun _ _ => by kernel_rfl
  refine callsD_of_wpS Try.func91 rfl fun c₀ cs hu => ?_
  unfold oddChain at hu
  apply wpS_seq
  apply wpS_region
  simp [wpOpsS, go_sem, recoverD, hu, Try.ntmps91, Exit.thenS, hta]
  refine wpS_of_wp ?_
  clear hu
  go_wp2
  exact ⟨rfl, .panicking [{ v := .iface 147 (.agg #[]), recovered := true }], rfl, .tuple #[], results_none rfl _ _ _, rfl, rfl, (h.set_to 0 _ rfl).alloc _, ((Fr.refl _ _).setCell _ _ (.inl (by simp))).alloc _⟩

theorem ccatch_idle (p : Nat) (w : World) :
    CallsD Try.prog 91 #[.pointer (some ⟨p, 0, none⟩)] .returning w fun e u' w' => e = .returned (.tuple #[]) ∧ u' = .returning ∧ Fr [] w w' := by
  have hta : ∀ (w : World), (Instr.typeAssert .nilIface 20 147 true).run Try.prog w = .ok (.tuple #[.agg #[], .bool false]) w := fun _ => by kernel_rfl
  refine callsD_of_wpS Try.func91 rfl fun c₀ cs hu => ?_
  apply wpS_seq
  apply wpS_region
  simp [wpOpsS, go_sem, recoverD, hu, Try.ntmps91, Exit.thenS, hta]
  refine wpS_of_wp ?_
  have HU := Lib.hid hu
  clear hu
  go_wp2
  exact ⟨rfl, .returning, by rw [← HU.out], .tuple #[], results_none rfl _ _ _, rfl, rfl, (Fr.refl _ _).alloc _⟩

/-- May a header be? -/
def hdrOk (h : Hdr) : Bool :=
  allIn [(h.tos, 255), (h.ttl, 255), (h.proto, 255), (h.id, 65535), (h.off, 8191)] && (h.src.size == 4 && h.dst.size == 4 && decide (h.opts.size ≤ 40) && h.opts.size % 4 == 0)

def hdrErr (h : Hdr) : Int := if hdrOk h then 0 else 1

set_option maxRecDepth 100000 in
set_option maxHeartbeats 1000000 in
theorem ip4check_any (h : Hdr) (w : World) (hs : h.src.size ≤ 35184372088832) (hd : h.dst.size ≤ 35184372088832) (ho : h.opts.size ≤ 35184372088832) :
    Calls Try.prog 73 #[hdrV h] w fun e w' => e = .returned (.int .i64 (hdrErr h)) ∧ Fr [] w w' := by
  have hmf : ∀ (fn : Fn) (first cap : Array Value) (w : World), (Instr.makeFunc fn first cap).run Try.prog w = .ok (.func fn first cap) w := fun _ _ _ _ => rfl
  have hout : ∀ l1 l2, l1 = [(h.tos, 255), (h.ttl, 255), (h.proto, 255), (h.id, 65535), (h.off, 8191)] → l2 = [(bits .xor .i64 (h.src.size : Int) 4, 0), (bits .xor .i64 (h.dst.size : Int) 4, 0), ((h.opts.size : Int), 40), ((h.opts.size : Int) % 4, 0)] →
      hdrOk h = (allIn l1 && allIn l2) := by
    rintro l1 l2 rfl rfl
    unfold hdrOk
    congr 1
    rw [show (4 : Int) = ((4 : Nat) : Int) from rfl, i64_xor_nat _ _ (by omega) (by omega), i64_xor_nat _ _ (by omega) (by omega)]
    have hx : ∀ n : Nat, inPair (((n ^^^ 4 : Nat) : Int), 0) = (n == 4) := by
      intro n
      have h1 : n ^^^ 4 = 0 ↔ n = 4 := nat_xor_zero _ _
      rw [Bool.eq_iff_iff]
      simp [inPair]
      first | (rw [← h1]; done) | (rw [← h1]; omega)
    simp only [allIn, List.all_cons, List.all_nil, hx, Bool.and_true, Bool.and_assoc]
    congr 2
    simp [inPair]
    rw [Bool.eq_iff_iff]
    simp
    omega
  have hN : ∃ N, N = w.heap.size := ⟨_, rfl⟩
  obtain ⟨N, hN⟩ := hN
  have HO := Lib.hid (And.intro hout (And.intro hs (And.intro hd ho)))
  clear hout
  unfold hdrV hdrCells
  go_enter_defers Try.func73, Try.ntmps73
  go_wp2_with fail
  rw [← hN]
  refine Calls.world fun W0 hW => ?_
  have b0 : Blk W0 N (hdrCells h) 43 := by rw [hW]; exact ((Blk.new_at hN _ _).alloc _).alloc _
  have b1 : Blk W0 (N + 1) #[Value.int IntKind.i64 0] 28 := by rw [hW]; exact (Blk.new_at (by simp [hN]) _ _).alloc _
  have b2 : Blk W0 (N + 1 + 1) (pairCells [(h.tos, 255), (h.ttl, 255), (h.proto, 255), (h.id, 65535), (h.off, 8191)]).toArray 61 := by rw [hW]; exact Blk.new_at (by simp [hN]) _ _
  have f0 : Fr [] w W0 := by rw [hW]; exact (((Fr.refl _ _).alloc _).alloc _).alloc _
  clear hW
  refine (within_any _ (N + 1 + 1) 5 W0 b2 (by simp)).mono ?_
  rintro e w1 ⟨hf1, ⟨ha, rfl⟩ | ⟨ha, rfl⟩⟩
  rotate_left
  · have hb1 := hf1.keep b1 (by simp)
    refine leaves_cons (f := 91) (args := #[.pointer (some ⟨N + 1, 0, none⟩)]) (by simp) (by simp [go_sem]) ?_
    refine (ccatch_panicking (N + 1) w1 hb1).mono ?_
    rintro e u' w2 ⟨rfl, rfl, hb2, hf2⟩
    simp only [settle, List.dropWhile_nil]
    refine ⟨.int .i64 1, ?_, by rw [hdrErr, HO.out.1 _ _ rfl rfl, ha]; rfl, (f0.trans hf1).trans' hf2 (by intro i hi; simp at hi; omega)⟩
    have hr0 := hb2.cell 0
    simp at hr0
    simp [results, Try.results73, go_sem, hr0]
  · have b0' := hf1.keep b0 (by simp)
    have b1' := hf1.keep b1 (by simp)
    have hsz : w1.heap.size = N + 3 + (w1.heap.size - (N + 3)) := by have := b2.lt; have := hf1.size; omega
    have c0 : ∀ k, w1.cell? ⟨N, k, none⟩ = (hdrCells h)[k]? := b0'.cell
    have f0' := b0'.free
    simp only [hdrCells] at c0
    have HB := Lib.hid (And.intro b1' (And.intro (f0.trans hf1) (And.intro hN ha)))
    have hlt := b1'.lt
    have HN := Lib.hid hN
    clear b0 b1 b2 b0' b1' f0 hf1 hN ha hsz
    go_wp2_with fail
    obtain ⟨L2, hL2⟩ : ∃ L2, L2 = [(bits .xor .i64 (h.src.size : Int) 4, (0 : Int)), (bits .xor .i64 (h.dst.size : Int) 4, 0), ((h.opts.size : Int), 40), ((h.opts.size : Int) % 4, 0)] := ⟨_, rfl⟩
    refine Calls.world fun W2 hW => ?_
    have b2 : Blk W2 w1.heap.size (pairCells L2).toArray 61 := by rw [hW, hL2]; exact Blk.new _ _ _
    have b1 : Blk W2 (N + 1) #[Value.int IntKind.i64 0] 28 := by rw [hW]; exact HB.out.1.alloc _
    have f2 : Fr [] w W2 := by rw [hW]; exact HB.out.2.1.alloc _
    have hl : L2.length = 4 := by rw [hL2]; rfl
    have ho := HO.out.1 _ L2 rfl hL2
    rw [HB.out.2.2.2, Bool.true_and] at ho
    clear hW hL2 c0
    have hwi := within_any L2 w1.heap.size 4 W2 b2 (by omega)
    rw [hl] at hwi
    refine hwi.mono ?_
    rintro e w3 ⟨hf1, ⟨ha, rfl⟩ | ⟨ha, rfl⟩⟩
    · have b3 := hf1.keep b1 (by simp)
      have c3 : w3.cell? ⟨N + 1, 0, none⟩ = some (.int .i64 0) := b3.cell 0
      have f3 := b3.free
      have HC := Lib.hid (And.intro b3 (And.intro (f2.trans hf1) (ho.trans ha)))
      clear b2 b1 f2 hwi ha ho hf1 b3 HB
      go_wp2_with fail
      refine leaves_cons (f := 91) (args := #[.pointer (some ⟨N + 1, 0, none⟩)]) (by simp) (by simp [go_sem]) ?_
      refine (ccatch_idle (N + 1) _).mono ?_
      rintro e u' w'' ⟨rfl, rfl, hf4⟩
      have hr := hf4.keep (HC.out.1.set 0 (.int .i64 0)) (by simp)
      refine ⟨.int .i64 0, ?_, by rw [hdrErr, HC.out.2.2]; rfl, (HC.out.2.1.trans' ((Fr.refl [N + 1] _).setCell _ _ (.inl (by simp))) (by intro i hi; simp at hi; have := HN.out; omega)).trans hf4⟩
      have hr0 := hr.cell 0
      simp at hr0
      simp [results, Try.results73, go_sem, hr0]
    · have b3 := hf1.keep b1 (by simp)
      refine leaves_cons (f := 91) (args := #[.pointer (some ⟨N + 1, 0, none⟩)]) (by simp) (by simp [go_sem]) ?_
      refine (ccatch_panicking (N + 1) w3 b3).mono ?_
      rintro e u' w4 ⟨rfl, rfl, hb4, hf4⟩
      simp only [settle, List.dropWhile_nil]
      refine ⟨.int .i64 1, ?_, by rw [hdrErr, ho, ha]; rfl, (f2.trans hf1).trans' hf4 (by intro i hi; simp at hi; have := HN.out; omega)⟩
      have hr0 := hb4.cell 0
      simp at hr0
      simp [results, Try.results73, go_sem, hr0]
end Go.Proofs.Ytlgjhacmhkbkdaa
