/- law 16: ReasmBounds, the walk. -/
import Derived.Test.YtlgjhacmhkbkdaaBounds1
import Derived.Test.YtlgjhacmhkbkdaaAwake2
namespace Go.Proofs.Ytlgjhacmhkbkdaa
open Go.RowKit

theorem Fr.cell_at {w W : World} (h : Fr [] w W) {a : Addr} {v : Value} (hc : w.cell? a = some v) : W.cell? a = some v := by
  have hlt : a.block < w.heap.size := by
    rcases Nat.lt_or_ge a.block w.heap.size with hl | hl
    · exact hl
    · unfold World.cell? at hc
      rw [Array.getElem?_eq_none hl] at hc
      cases hc
  rw [World.cell?_of_block (h.block a.block hlt (by simp))]; exact hc

theorem Txts.keep {w W : World} {v : Value} {l : List ByteArray} (h : Txts w v l) (hf : Fr [] w W) : Txts W v l := by
  obtain ⟨a, c, hv, hc⟩ := h.shape
  refine ⟨⟨a, c, hv, fun i hi => ?_⟩, h.len, h.small⟩
  obtain ⟨ad, ha, hx⟩ := hc i hi
  exact ⟨ad, ha, hf.cell_at hx⟩

def stoC (e b l : Int) : Array Value := #[.int .i64 e, .int .i64 b, .int .i64 l]

/-- A table beside a store. -/
structure BW (bt bm N : Nat) (ent byt life : Int) (E : List PEn) (w W : World) : Prop where
  pt : PT bt bm ent byt life E W
  st : Blk W N (stoC ent byt life) 23
  fr : Fr [] w W
  new : ∀ i ∈ ptFoot bt bm E, N < i
  le : w.heap.size ≤ N

section
variable {bt bm N : Nat} {ent byt life : Int} {E E' : List PEn} {w W W' : World}
theorem BW.keep (h : BW bt bm N ent byt life E w W) (hf : Fr [] W W') : BW bt bm N ent byt life E w W' :=
  ⟨h.pt.keep' hf, hf.keep h.st (by simp), h.fr.trans hf, h.new, h.le⟩

theorem BW.step (h : BW bt bm N ent byt life E w W) (hf : Fr (ptFoot bt bm E) W W') (hp : PT bt bm ent byt life E' W') (hn : ∀ i ∈ ptFoot bt bm E', i ∈ ptFoot bt bm E ∨ W.heap.size ≤ i) : BW bt bm N ent byt life E' w W' := by
  have hle := h.le
  have hlt := h.st.lt
  refine ⟨hp, hf.keep h.st (fun hi => ?_), h.fr.trans' hf (fun i hi => ?_), fun i hi => ?_, hle⟩
  · have := h.new N hi; omega
  · have := h.new i hi; right; omega
  · rcases hn i hi with h1 | h1
    · exact h.new i h1
    · omega
end

/-- How old entries are. -/
def agedE (life : Int) (k : Nat) (E : List PEn) : Prop := ∀ e ∈ E, (k : Int) ≤ e.age ∧ (0 < k → e.age < life)

theorem agedE_tick {life : Int} {k : Nat} {E : List PEn} (h : agedE life k E) : agedE life (k + 1) (tickE life E []) := by
  intro y hy
  obtain ⟨x, hx, hxy⟩ := List.mem_filterMap.1 hy
  have := h x hx
  unfold tick1 at hxy
  rw [if_neg (by simp)] at hxy
  split at hxy
  · cases hxy; dsimp only; constructor
    · omega
    · intro; assumption
  · cases hxy

theorem agedE_end {life : Int} {k : Nat} {E : List PEn} (h : agedE life k E) (hk : life ≤ k) (h1 : 1 ≤ life) : E = [] := by
  cases E with
  | nil => rfl
  | cons e r => have := h e (by simp); omega

theorem tick_foot {bt bm : Nat} (life : Int) (E : List PEn) : ∀ i ∈ ptFoot bt bm (tickE life E []), i ∈ ptFoot bt bm E := by
  intro i hi
  exact ((((tickE_foot life [] E).cons_cons bm).cons_cons bt).subset hi)

set_option maxRecDepth 100000 in
set_option maxHeartbeats 4000000 in
theorem bounds_any (e b lf : Int) (v : Value) (l : List ByteArray) (w : World) (h : Txts w v l) :
    Calls Try.prog 4 #[stoV e b lf, v] w fun r w' => r = .returned (.bool true) ∧ Fr [] w w' := by
  have HT := Lib.hid h
  obtain ⟨a, c, rfl, hcl⟩ := h.shape
  have HCL := Lib.hid hcl
  clear hcl
  have hlen := h.len
  unfold maxLen at hlen
  clear h
  unfold stoV
  go_enter Try.func4, Try.ntmps4
  go_upto_region 1 with (fail)
  obtain ⟨N, hN⟩ : ∃ N, N = w.heap.size := ⟨_, rfl⟩
  rw [← hN]
  refine Code.world fun W0 hW => ?_
  have h0 : Blk W0 N (stoC e b lf) 23 ∧ Fr [] w W0 := by rw [hW]; exact ⟨Blk.new_at hN _ _, (Fr.refl _ _).alloc _⟩
  have H0 := Lib.hid h0
  have HN := Lib.hid hN
  clear h0 hW hN
  go_wp2_with fail
  refine (awake_any W0).mono ?_
  rintro r w1 ⟨rfl, hf1⟩
  have H1 := Lib.hid (And.intro (hf1.keep H0.out.1 (by simp)) (H0.out.2.trans hf1))
  clear hf1 H0
  go_wp2_with fail
  refine (few_any (.slice a l.length c) l w1 (HT.out.keep H1.out.2)).mono ?_
  rintro r w2 ⟨rfl, hw2⟩
  rw [hw2]
  clear hw2 w2
  cases hfew : fewR l
  · go_wp2_with fail
    go_ret
    exact ⟨rfl, H1.out.2⟩
  · have hw2 : ∀ k (hk : k < l.length), l[k].size ≤ 200000 := by
      intro k hk
      have h1 := sumT_take l k hk
      have h2 := sumT_take_le l (k + 1)
      have h3 := of_decide_eq_true hfew
      omega
    have HW := Lib.hid hw2
    clear hfew hw2
    have c0 := H1.out.1.cell
    unfold stoC at c0
    go_wp2_with fail
    refine (pnew_any e b lf w1).mono ?_
    rintro r w3 ⟨hf3, h4⟩
    rcases h4 with ⟨_, rfl⟩ | ⟨hs, bt, bm, rfl, hb, hm, l1, l2, hne⟩
    · have hfr := H1.out.2.trans hf3
      have HF := Lib.hid hfr
      clear hfr hf3 H1 c0
      go_wp2_with fail
      go_ret
      exact ⟨rfl, HF.out⟩
    · have hP := PT.new hs hb hm hne
      have hNlt := H1.out.1.lt
      have h3 : BW bt bm N e b lf [] w w3 := ⟨hP, hf3.keep H1.out.1 (by simp), H1.out.2.trans hf3, by intro i hi; simp [ptFoot] at hi; omega, by rw [HN.out]; omega⟩
      have hl1 : 1 ≤ lf ∧ 1 ≤ e ∧ 0 ≤ b ∧ lf ≤ 64 := by
        unfold stoOk inS at hs
        simp only [Bool.and_eq_true, Bool.not_eq_true', decide_eq_false_iff_not] at hs
        omega
      have hli : LI e b (([] : List PEn).map absE) := ⟨by simp; omega, by simp [sizeL]; omega, by simp, by simp⟩
      have H3 := Lib.hid (And.intro h3 hli)
      have HL := Lib.hid hl1
      clear hP hNlt h3 hl1 hli hs hb hm l1 l2 hne hf3 H1 c0
      go_wp2_with fail
      go_loopw [7] (fun i wr => ∃ (k : Nat) (E : List PEn), k ≤ l.length ∧ i = .int .i64 k ∧ Hid (BW bt bm N e b lf E w wr ∧ LI e b (E.map absE))) (fun i _ => l.length - (intOf i).toNat)
      case atStart => exact ⟨0, [], by omega, rfl, H3⟩
      case round =>
        clear H3
        obtain ⟨k, E, hk, rfl, HS⟩ := hrel
        by_cases hlt : k < l.length
        · obtain ⟨ad, rfl, hc⟩ := HCL.out k hlt
          have htz := HW.out k hlt
          obtain ⟨t, ht⟩ : ∃ t, t = l[k]'hlt := ⟨_, rfl⟩
          rw [← ht] at hc htz
          have HC := Lib.hid hc
          clear ht hc
          go_wp2_with fail
          refine (ptlen_any bt bm e b lf E wr HS.out.1.pt).mono ?_
          rintro r w4 ⟨rfl, hw4⟩
          rw [hw4]
          clear hw4 w4
          go_wp2_with fail
          refine (ptbytes_any bt bm e b lf E wr HS.out.1.pt).mono ?_
          rintro r w4 ⟨rfl, hw4⟩
          rw [hw4]
          clear hw4 w4
          go_wp2_with fail
          refine (ptopen_any bt bm e b lf E wr HS.out.1.pt).mono ?_
          rintro r w4 ⟨rfl, hf4⟩
          have H4 := Lib.hid (And.intro (HS.out.1.keep hf4) HS.out.2)
          clear hf4 HS
          have hc4 : w4.cell? (ad.add k) = some (.string t) := H4.out.1.fr.cell_at HC.out
          go_wp2_with fail
          refine (padd_any bt bm e b lf E t w4 H4.out.1.pt (by omega)).mono ?_
          rintro r w5 ⟨hr, hf5, E', hP', hL', hn'⟩
          have hbd := addP_bounds H4.out.2 t
          obtain ⟨q, f, L', hqf⟩ : ∃ q f L', addP e b (E.map absE) t = (L', q, f) := ⟨_, _, _, rfl⟩
          rw [hqf] at hr hL' hbd
          dsimp only at hr hL' hbd
          subst hr
          have H5 := Lib.hid (H4.out.1.step hf5 hP' hn')
          rw [← hL'] at hbd
          have hopl : openE E' ≤ E'.length := by unfold openE; exact List.length_filter_le _ _
          have hll := hbd.1.len
          have hsl := hbd.1.size
          rw [List.length_map] at hll
          rw [← sizeE_abs] at hsl
          have heq : f ≠ 0 → f ≠ 10 → f ≠ 4 → E'.length = E.length ∧ sizeE E' = sizeE E ∧ openE E' = openE E := by
            intro h1 h2 h3
            have h4 := hbd.2.2 h1 h2 h3
            refine ⟨?_, ?_, ?_⟩
            · have := congrArg List.length h4; simpa using this
            · rw [sizeE_abs, sizeE_abs, h4]
            · rw [openE_abs, openE_abs, h4]
          have HEQ := Lib.hid heq
          have HLI := Lib.hid hbd.1
          have htell := hbd.2.1
          have d1 : decide (e < (E'.length : Int)) = false := by simpa using hll
          have d2 : decide (b < (sizeE E' : Int)) = false := by simpa using hsl
          have d3 : decide ((E'.length : Int) < (openE E' : Int)) = false := by simpa using hopl
          have d3' : decide (E'.length < openE E') = false := by simpa using hopl
          have d4 : decide ((sizeE E' : Int) < 0) = false := by simp
          clear hf5 hP' hn' hqf hL' hbd hopl hll hsl heq H4 hc4
          go_wp2_with fail
          rcases htell with ⟨rfl, hq⟩ | ⟨hf0, rfl⟩
          · have hq0 : q.toList.isEmpty = false := by rw [isEmpty_size]; simpa using hq
            clear hq
            refine wp_region_keep (fun w' => Hid (BW bt bm N e b lf E' w w')) (by kernel_rfl) (by kernel_rfl) (Lib.hid (H5.out.keep (Fr.refl _ _).drew)) ?_
            repeat (first | (refine wpI_one (by rfl) (fun w1 hS => by (have u0 : w1.cell? ⟨N, 0, none⟩ = some (.int .i64 e) := hS.out.st.cell 0; have u1 : w1.cell? ⟨N, 1, none⟩ = some (.int .i64 b) := hS.out.st.cell 1; go_simp; first | exact ⟨rfl, hS⟩ | exact rfl | (refine (ptlen_any bt bm e b lf E' _ hS.out.pt).mono ?_; rintro r w4 ⟨rfl, rfl⟩; exact ⟨rfl, hS⟩) | (refine (ptbytes_any bt bm e b lf E' _ hS.out.pt).mono ?_; rintro r w4 ⟨rfl, rfl⟩; exact ⟨rfl, hS⟩) | (refine (ptopen_any bt bm e b lf E' _ hS.out.pt).mono ?_; rintro r w4 ⟨rfl, hf4⟩; exact ⟨rfl, Lib.hid (hS.out.keep hf4)⟩))) (fun K hK => ?_); go_simp; refine hK _ ?_; clear hK K) | (refine wpI_skip (by rfl) (fun K hK => ?_); go_simp; refine hK _ ?_; clear hK K))
            refine wpI_nil ?_; intro w' hS
            have H6 := Lib.hid (And.intro hS.out HLI.out)
            clear hS H5 HLI HEQ d1 d2 d3 d3' d4
            go_wp2_with fail
            exact ⟨⟨k + 1, E', by omega, by go_num, H6⟩, by simp [intOf]; omega⟩
          · have hf1 : ((f : Int) == 0) = false := by simp; omega
            refine wp_region_keep (fun w' => Hid (BW bt bm N e b lf E' w w')) (by kernel_rfl) (by kernel_rfl) (Lib.hid (H5.out.keep (Fr.refl _ _).drew)) ?_
            repeat (first | (refine wpI_one (by rfl) (fun w1 hS => by (have u0 : w1.cell? ⟨N, 0, none⟩ = some (.int .i64 e) := hS.out.st.cell 0; have u1 : w1.cell? ⟨N, 1, none⟩ = some (.int .i64 b) := hS.out.st.cell 1; go_simp; first | exact ⟨rfl, hS⟩ | exact rfl | (refine (ptlen_any bt bm e b lf E' _ hS.out.pt).mono ?_; rintro r w4 ⟨rfl, rfl⟩; exact ⟨rfl, hS⟩) | (refine (ptbytes_any bt bm e b lf E' _ hS.out.pt).mono ?_; rintro r w4 ⟨rfl, rfl⟩; exact ⟨rfl, hS⟩) | (refine (ptopen_any bt bm e b lf E' _ hS.out.pt).mono ?_; rintro r w4 ⟨rfl, hf4⟩; exact ⟨rfl, Lib.hid (hS.out.keep hf4)⟩))) (fun K hK => ?_); go_simp; refine hK _ ?_; clear hK K) | (refine wpI_skip (by rfl) (fun K hK => ?_); go_simp; refine hK _ ?_; clear hK K))
            refine wpI_nil ?_; intro w' hS
            have H6 := Lib.hid (And.intro hS.out HLI.out)
            clear hS H5 HLI d1 d2 d3 d3' d4
            have hf2 : ((f : Int) != 0) = true := by simp; omega
            by_cases h10 : f = 10
            · subst h10
              go_wp2_with fail
              exact ⟨⟨k + 1, E', by omega, by go_num, H6⟩, by simp [intOf]; omega⟩
            · by_cases h4 : f = 4
              · subst h4
                go_wp2_with fail
                exact ⟨⟨k + 1, E', by omega, by go_num, H6⟩, by simp [intOf]; omega⟩
              · have hf10 : ((f : Int) != 10) = true := by simp; omega
                have hf4 : ((f : Int) != 4) = true := by simp; omega
                obtain ⟨g1, g2, g3⟩ := HEQ.out hf0 h10 h4
                go_wp2_with fail
                refine (ptlen_any bt bm e b lf E' _ H6.out.1.pt).mono ?_
                rintro r w4 ⟨rfl, hw4⟩
                rw [hw4, g1]
                clear hw4 w4
                go_wp2_with fail
                refine (ptbytes_any bt bm e b lf E' _ H6.out.1.pt).mono ?_
                rintro r w4 ⟨rfl, hw4⟩
                rw [hw4, g2]
                clear hw4 w4
                go_wp2_with fail
                refine (ptopen_any bt bm e b lf E' _ H6.out.1.pt).mono ?_
                rintro r w4 ⟨rfl, hf4⟩
                rw [g3]
                have H7 := Lib.hid (And.intro (H6.out.1.keep hf4) H6.out.2)
                clear hf4 H6
                go_wp2_with fail
                exact ⟨⟨k + 1, E', by omega, by go_num, H7⟩, by simp [intOf]; omega⟩
        · have hage : agedE lf 0 E := fun y hy => ⟨by have := HS.out.1.pt.age y hy; omega, by omega⟩
          have H6 := Lib.hid (And.intro HS.out.1 hage)
          clear HS hage
          go_wp2_with fail
          go_loopw [13] (fun i wr => ∃ (k : Nat) (E : List PEn), (k : Int) ≤ lf ∧ i = .int .i64 k ∧ Hid (BW bt bm N e b lf E w wr ∧ agedE lf k E)) (fun i _ => lf.toNat - (intOf i).toNat)
          case atStart => exact ⟨0, E, by have := HL.out; omega, rfl, H6⟩
          case round =>
            clear H6
            obtain ⟨k, E, hk, rfl, HS⟩ := hrel
            have u2 : wr.cell? ⟨N, 2, none⟩ = some (.int .i64 lf) := HS.out.1.st.cell 2
            have hlf := HL.out
            by_cases hlt : (k : Int) < lf
            · have d1 : decide ((k : Int) < lf) = true := by simpa using hlt
              go_wp2_with fail
              refine (ptick_any bt bm e b lf E wr HS.out.1.pt).mono ?_
              rintro r w4 ⟨rfl, hp4, hf4⟩
              have H7 := Lib.hid (And.intro (HS.out.1.step hf4 hp4 (fun i hi => .inl (tick_foot lf E i hi))) (agedE_tick HS.out.2))
              clear hp4 hf4 HS
              go_wp2_with fail
              exact ⟨⟨k + 1, tickE lf E [], by omega, by go_num, H7⟩, by simp [intOf]; omega⟩
            · have d1 : decide ((k : Int) < lf) = false := by simpa using hlt
              have hE := agedE_end HS.out.2 (by omega) hlf.1
              subst hE
              go_wp2_with fail
              refine (ptlen_any bt bm e b lf [] wr HS.out.1.pt).mono ?_
              rintro r w4 ⟨rfl, hw4⟩
              rw [hw4]
              clear hw4 w4
              go_wp2_with fail
              refine (ptbytes_any bt bm e b lf [] wr HS.out.1.pt).mono ?_
              rintro r w4 ⟨rfl, hw4⟩
              rw [hw4, show sizeE [] = 0 from rfl]
              clear hw4 w4
              go_wp2_with fail
              refine (ptopen_any bt bm e b lf [] wr HS.out.1.pt).mono ?_
              rintro r w4 ⟨rfl, hf4⟩
              rw [show openE [] = 0 from rfl]
              have HF := Lib.hid (HS.out.1.fr.trans hf4)
              clear hf4 HS
              go_wp2_with fail
              go_ret
              exact ⟨rfl, HF.out⟩
end Go.Proofs.Ytlgjhacmhkbkdaa
