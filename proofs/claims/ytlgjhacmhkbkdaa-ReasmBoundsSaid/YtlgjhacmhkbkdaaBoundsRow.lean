/- ReasmBounds: whatever the store and the texts, the law returns true, and its arguments read as before. No condition. -/
import Derived.Test.YtlgjhacmhkbkdaaBounds2
import Derived.Test.YtlgjhacmhkbkdaaRows
import Derived.ProofKit
import Derived.SizedLaws
import Derived.Carry
import Derived.SliceStrings
import Derived.Lib.SmallJoins
namespace Go.Proofs.Ytlgjhacmhkbkdaa
open Go.ChangeShapes Go.WideShapes Go.ChangeAt Go.RowKit Go.Deep Go.Joins

theorem own_none : ownKnob Try.prog.godebug = none := by kernel_rfl
theorem laid_out : laidOutB Try.prog = true := by kernel_rfl
theorem Fr.below' {w W : World} (h : Fr [] w W) : Below w.heap.size w W := ⟨h.os, h.tape, h.output, h.size, fun k hk => h.block k hk (by simp)⟩

theorem mem_weights {H : Type} {P : Program} {e : TypeId} {s : ByteArray} : ∀ {l : List ByteArray}, s ∈ l → s.data.toList.length ∈ DataW.weightsAll P e (strs (H := H) l)
  | x :: r, h => by
    show _ ∈ DataW.weights P e (.lit (.string x.data.toList)) ++ DataW.weightsAll P e (strs r)
    rw [List.mem_append]
    rcases List.mem_cons.1 h with rfl | h
    · left; simp [DataW.weights]
    · exact .inr (mem_weights h)

theorem sized_strs {H : Type} {P : Program} {ts : List TypeId} {ds : List (DataW H)} (h : (DataW.weightsEach P ts ds).all (· ≤ reachBytes) = true) {j : Nat} {t e : TypeId} {l1 l2 : List ByteArray} (ht : ts[j]? = some t) (hd : ds[j]? = some (.slice (strs l1) (strs l2)))
    (hu : P.underlying t = some (.slice e)) : ∀ s ∈ l1, s.size ≤ 140737488355328 := by
  intro s hs
  have := List.all_eq_true.1 h _ (DataW.weights_mem_each ht hd s.data.toList.length (by
    show _ ∈ DataW.weights P t (.slice (strs l1) (strs l2))
    simp only [DataW.weights, hu]
    exact List.mem_cons_of_mem _ (List.mem_append_left _ (mem_weights hs))))
  simp only [decide_eq_true_eq] at this
  have h1 := reachBytes_lt
  have h2 : s.data.toList.length = s.size := by simp
  omega

/-- The texts of an argument. -/
theorem txts_arg {H : Type} {enc : TypeId × Value → H} {W : World} {v : Value} {d : DataW H} {p : List MemPlace} {ts : List TypeId} {ds : List (DataW H)} {j : Nat} {a : Option Addr} {len cap : Nat} (hv : v = .slice a len cap)
    (h : DataW.Trod enc Try.prog W 0 (fun _ => true) true 24 v d p) (hsz : (DataW.weightsEach Try.prog ts ds).all (· ≤ reachBytes) = true) (ht : ts[j]? = some 24) (hd : ds[j]? = some d) : ∃ l, Txts W v l := by
  subst hv
  obtain ⟨fuel, hf⟩ := h
  rcases open_strings Try.underlying24 Try.underlying9 (by kernel_rfl) hf with ⟨hcs, hx⟩ | ⟨a', len', cap', ss, hcs, _, hl, hm, hz, hx, hcell, hws⟩
  · simp [Value.cells] at hcs
    obtain ⟨rfl, rfl, rfl⟩ := hcs
    exact ⟨[], ⟨⟨none, 0, rfl, fun i hi => absurd hi (by simp)⟩, by simp, by simp⟩⟩
  · simp [Value.cells] at hcs
    obtain ⟨rfl, rfl, rfl⟩ := hcs
    simp only [Prod.mk.injEq] at hx
    obtain ⟨rfl, rfl⟩ := hx
    simp only [if_true] at hz
    have hlen : (ss.take len).length = len := by rw [List.length_take]; omega
    refine ⟨ss.take len, ⟨⟨some a', cap, by rw [hlen], fun i hi => ⟨a', rfl, ?_⟩⟩, by rw [hlen]; omega, sized_strs hsz ht hd Try.underlying24⟩⟩
    rw [hlen] at hi
    rw [hcell i (by omega), List.getElem_take]
    congr 2
    rw [List.getD_eq_getElem?_getD, List.getElem?_eq_getElem (by omega)]; rfl

set_option maxRecDepth 100000 in
theorem bounds_lifted (os : Os) (started : os.Started) (H : Type) (enc : TypeId × Value → H) :
    ReturnsInHanded {} Try.checked os 4 .any (Rows.reasmBoundsSpec.pre6 enc Try.prog Try.f4 Rows.reasmBoundsRow.domain false) (Rows.reasmBoundsSpec.post enc Try.prog Try.f4 false true false false) := by
  refine returnsInHanded_of_change_sized (C := Try.checked) own_none started (by kernel_rfl) Try.func4
    (ChangeSpec.witness6 (enc := enc) (C := Try.checked) false ⟨#[], #[.agg #[.int .i64 0, .int .i64 0, .int .i64 0], .slice none 0 0], []⟩ 8 (by kernel_rfl) (by kernel_rfl) (by kernel_rfl) (by kernel_rfl)) ?_
  intro W base args ds gs before hval0 hW _ hsz0 _
  have hsz : (DataW.weightsEach Try.prog (Try.f4.params.toList ++ Rows.reasmBoundsSpec.plain.varTypes Try.prog) (ds ++ gs)).all (· ≤ reachBytes) = true := hsz0
  clear hsz0
  have hval : ∀ (j : Nat) t v, Try.f4.params[j]? = some t → args[j]? = some v → Value.okWide Try.prog W .any base t v := hval0
  have hW' := hW
  obtain ⟨p, q, hA0, hV, rfl, _, _⟩ := hW
  have hA : DataW.TrodAll enc Try.prog W 0 (fun _ => true) true Try.f4.params.toList args.toList ds p := hA0
  rw [Try.params4] at hA hval hsz
  obtain ⟨v0, v1, d0, d1, p0, p1, rfl, rfl, rfl, h0, h1⟩ := trodAll_two hA
  obtain ⟨rfl, rfl⟩ := trodVars_none hV
  obtain ⟨a0, len, cap, rfl⟩ := okWide_slice Try.underlying24 (hval 1 24 v1 rfl rfl)
  have h0k := h0
  obtain ⟨c0, c1, c2, y0, y1, y2, n, rfl, rfl, _, k0, k1, k2⟩ := open_agg3 Try.underlying23 (by kernel_rfl) (by kernel_rfl) (hval 0 23 v0 rfl rfl) h0
  obtain ⟨n0, hc0, _, _⟩ := DataW.trod_int Try.underlying3 k0
  obtain ⟨n1, hc1, _, _⟩ := DataW.trod_int Try.underlying3 k1
  obtain ⟨n2, hc2, _, _⟩ := DataW.trod_int Try.underlying3 k2
  obtain rfl : c0 = .int .i64 n0 := by simpa using hc0
  obtain rfl : c1 = .int .i64 n1 := by simpa using hc1
  obtain rfl : c2 = .int .i64 n2 := by simpa using hc2
  obtain ⟨l, hl⟩ := txts_arg (j := 1) rfl h1 hsz rfl rfl
  clear hA0 hval0
  simp only [List.append_nil] at hW'
  have hlt : ∀ x ∈ p0 ++ p1, x.block < W.heap.size := fun x hx => by simpa using hW'.lt x hx
  refine (bounds_any n0 n1 n2 _ l W hl).mono fun e W' ⟨he, hf⟩ => ?_
  subst he
  refine ⟨_, rfl, _, _, _, [] ++ [], p0 ++ p1, [], hW', ?_, ?_, rfl, hf.below'.frame _, fun h => by cases h⟩
  · exact trodAll_mk1 (shut_bool Try.underlying4 true)
  · exact trodAll_mk2 (Below.trod laid_out (by kernel_rfl) (of_decide_eq_true (by kernel_rfl)) h0k hf.below' (fun x hx => hlt x (by simp [hx]))) (Below.trod laid_out (by kernel_rfl) (of_decide_eq_true (by kernel_rfl)) h1 hf.below' (fun x hx => hlt x (by simp [hx])))

theorem bounds_holds : Rows.ReasmBoundsSaid :=
  OpenClaim.holds_of_wide 4 Try.f4 rfl rfl rfl rfl rfl rfl rfl ⟨rfl, rfl, rfl, rfl, rfl⟩ rfl rfl rfl rfl rfl (by kernel_rfl) Try.func4 (by kernel_rfl)
    (of_decide_eq_true (by kernel_rfl)) (by unfold Func.isWrapper; first | (rw [if_pos (by decide +kernel)]; kernel_rfl) | (rw [if_neg (by decide +kernel)]; exact ⟨rfl, rfl⟩))
    (fun os started H enc _ => bounds_lifted os started H enc)

#print axioms bounds_holds
end Go.Proofs.Ytlgjhacmhkbkdaa
