/- wire.Read: a reading that may be stopped. -/
import Derived.Test.YtlgjhacmhkbkdaaWire
namespace Go.Proofs.Ytlgjhacmhkbkdaa
open Go.RowKit

theorem catch_panicking (p : Nat) (c : Int) (w : World) (h : Blk w p #[.int .i64 0] 28) :
    CallsD Try.prog 77 #[.pointer (some ⟨p, 0, none⟩)] (.panicking (stopped c)) w fun e u' w' =>
      e = .returned (.tuple #[]) ∧ u' = .panicking [{ v := .iface 130 (.agg #[.int .i64 c]), recovered := true }] ∧ Blk w' p #[.int .i64 c] 28 ∧ Fr [p] w w' := by
  have hc := h.cell 0
  have hz := h.free 0
  have hp := h.lt
  have hne : ¬ p = w.heap.size := by omega
  have hta : ∀ (x : Value) (w : World), (Instr.typeAssert (.iface 130 x) 20 130 true).run Try.prog w = .ok (.tuple #[x, .bool true]) w := fun _ _ => by kernel_rfl
  refine callsD_of_wpS Try.func77 rfl fun c₀ cs hu => ?_
  unfold stopped at hu
  apply wpS_seq
  apply wpS_region
  simp [wpOpsS, go_sem, recoverD, hu, Try.ntmps77, Exit.thenS]
  refine wpS_of_wp ?_
  clear hu
  change Code.wp _ _ _ { tmps := #[.pointer (some ⟨p, 0, none⟩), undef, undef, undef, .iface 130 (.agg #[.int .i64 c]), undef, undef, undef, undef, undef, undef, undef], defers := [] } w
  go_wp2
  exact ⟨rfl, .panicking [{ v := .iface 130 (.agg #[.int .i64 c]), recovered := true }], rfl, .tuple #[], results_none rfl _ _ _, rfl, rfl, (h.set_to 0 _ rfl).alloc _, ((Fr.refl _ _).setCell _ _ (.inl (by simp))).alloc _⟩

theorem catch_idle (p : Nat) (w : World) :
    CallsD Try.prog 77 #[.pointer (some ⟨p, 0, none⟩)] .returning w fun e u' w' => e = .returned (.tuple #[]) ∧ u' = .returning ∧ w' = w := by
  refine callsD_of_wpS Try.func77 rfl fun c₀ cs hu => ?_
  apply wpS_seq
  apply wpS_region
  simp [wpOpsS, go_sem, recoverD, hu, Try.ntmps77, Exit.thenS]
  refine wpS_of_wp ?_
  change Code.wp _ _ _ { tmps := #[.pointer (some ⟨p, 0, none⟩), undef, undef, undef, .nilIface, undef, undef, undef, undef, undef, undef, undef], defers := [] } w
  have HU := Lib.hid hu
  clear hu
  go_wp2
  exact ⟨rfl, .returning, by rw [← HU.out], .tuple #[], results_none rfl _ _ _, rfl, rfl, rfl⟩

set_option maxHeartbeats 400000 in
theorem read_any (g : Nat) (cap : Array Value) (s : ByteArray) (c : Int) (S : List Nat) (K : World → Prop) (w : World)
    (eg : ∀ args w, (callFunc g args).run Try.prog w = .ok (.enter g args) w)
    (hS : ∀ i, i ∈ S → i < w.heap.size)
    (hdo : ∀ W b, Fr [] w W → Blk W b (rdr s 0) 132 → w.heap.size < b → Calls Try.prog g (#[.pointer (some ⟨b, 0, none⟩)] ++ cap) W fun e W' =>
      Fr (b :: S) W W' ∧ K W' ∧ ((c = 0 ∧ e = .returned (.tuple #[])) ∨ (c ≠ 0 ∧ e = .panicked (stopped c)))) :
    Calls Try.prog 53 #[.string s, .func (.func g) #[] cap] w fun e w' => e = .returned (.int .i64 c) ∧ Fr S w w' ∧ ∃ W1, K W1 ∧ Fr [w.heap.size] W1 w' := by
  have hmf : ∀ (fn : Fn) (first cap : Array Value) (w : World), (Instr.makeFunc fn first cap).run Try.prog w = .ok (.func fn first cap) w := fun _ _ _ _ => rfl
  go_enter_defers Try.func53, Try.ntmps53
  go_wp2_with fail
  have hB0 : Blk ((w.alloc (Obj.cells #[Value.int IntKind.i64 0] 28)).alloc (Obj.cells #[Value.string s, Value.int IntKind.i64 0] 132)) w.heap.size #[Value.int IntKind.i64 0] 28 := (Blk.new _ _ _).alloc _
  have hF0 : Fr [] w ((w.alloc (Obj.cells #[Value.int IntKind.i64 0] 28)).alloc (Obj.cells #[Value.string s, Value.int IntKind.i64 0] 132)) := ((Fr.refl _ _).alloc _).alloc _
  have hsz : ∀ i, i ∈ (w.heap.size + 1) :: S → ¬ i = w.heap.size := by
    intro i hi
    rcases List.mem_cons.1 hi with rfl | hi
    · omega
    · have := hS i hi; omega
  have fin : ∀ {W1 : World}, Fr ((w.heap.size + 1) :: S) ((w.alloc (Obj.cells #[Value.int IntKind.i64 0] 28)).alloc (Obj.cells #[Value.string s, Value.int IntKind.i64 0] 132)) W1 →
      Fr [] w ((w.alloc (Obj.cells #[Value.int IntKind.i64 0] 28)).alloc (Obj.cells #[Value.string s, Value.int IntKind.i64 0] 132)) → ∀ w', Fr [w.heap.size] W1 w' → Fr S w w' := by
    intro W1 h1 h0 w' h2
    refine (h0.nil.trans' h1 ?_).trans' h2 ?_
    · intro i hi
      rcases List.mem_cons.1 hi with rfl | hi
      · exact .inr (by omega)
      · exact .inl hi
    · intro i hi
      simp at hi; subst hi; exact .inr (Nat.le_refl _)
  refine (hdo _ (w.heap.size + 1) hF0 (Blk.new_at (by simp) _ _) (by omega)).mono ?_
  rintro e W1 ⟨hF, hK, ⟨rfl, rfl⟩ | ⟨hc, rfl⟩⟩
  · have hB1 := hF.keep hB0 (fun h => hsz _ h rfl)
    have hc0 := hB1.cell 0
    have hz0 := hB1.free 0
    have HB1 := Lib.hid hB1
    have HF := Lib.hid (And.intro hF hF0)
    clear hF hF0 hB1 hB0 hdo
    go_wp2
    refine leaves_cons (f := 77) (args := #[.pointer (some ⟨w.heap.size, 0, none⟩)]) (by simp) (by simp [go_sem]) ?_
    refine (catch_idle w.heap.size _).mono ?_
    rintro e u' w'' ⟨rfl, rfl, rfl⟩
    have hr := HB1.out.set 0 (.int .i64 0)
    refine ⟨.int .i64 0, ?_, rfl, fin HF.out.1 HF.out.2 _ ((Fr.refl _ _).setCell _ _ (.inl (by simp))), W1, hK, (Fr.refl _ _).setCell _ _ (.inl (by simp))⟩
    have hr0 := hr.cell 0
    simp at hr0
    simp [results, Try.results53, go_sem, hr0]
  · have hB1 := hF.keep hB0 (fun h => hsz _ h rfl)
    refine leaves_cons (f := 77) (args := #[.pointer (some ⟨w.heap.size, 0, none⟩)]) (by simp) (by simp [go_sem]) ?_
    refine (catch_panicking w.heap.size c _ hB1).mono ?_
    rintro e u' w'' ⟨rfl, rfl, hB2, hF2⟩
    simp only [settle, List.dropWhile_nil]
    refine ⟨.int .i64 c, ?_, rfl, fin hF hF0 _ hF2, W1, hK, hF2⟩
    have hr0 := hB2.cell 0
    simp at hr0
    simp [results, Try.results53, go_sem, hr0]
end Go.Proofs.Ytlgjhacmhkbkdaa
