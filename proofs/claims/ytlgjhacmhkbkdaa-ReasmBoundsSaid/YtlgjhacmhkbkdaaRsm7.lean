/- reasm: Tick, the walk. -/
import Derived.Test.YtlgjhacmhkbkdaaRsm6
import Derived.StillTailTactics
namespace Go.Proofs.Ytlgjhacmhkbkdaa
open Go.RowKit

/-- The table while it is gone through. -/
structure TK (bt bm r : Nat) (ent byt life : Int) (E : List PEn) (R : List Key) (w W : World) : Prop where
  tb : Blk W bt (tbCells ent byt life bm (sizeE (tickE life E R))) 65
  rg : Rg bm r (mapE (tickE life E R)) R W
  en : ∀ e ∈ tickE life E R, Blk W e.be (enCells e.v e.done e.age) 72
  row : ∀ e ∈ tickE life E R, Row W 74 12 e.v (e.ps.map ppCells)
  fr : Fr (ptFoot bt bm E) w W

theorem tickE_in {life : Int} {E : List PEn} {R : List Key} {k : Key} {b : Nat} (h : (k, b) ∈ mapE (tickE life E R)) : ∃ e ∈ E, e.key = k ∧ e.be = b := by
  obtain ⟨y, hy, he⟩ := List.mem_map.1 h
  obtain ⟨x, hx, h1, h2, _⟩ := tickE_mem hy
  have e1 := congrArg Prod.fst he
  have e2 := congrArg Prod.snd he
  simp only at e1 e2
  exact ⟨x, hx, by rw [← h1, e1], by rw [← h2, e2]⟩

/-- An entry's blocks among a table's. -/
theorem foot_mem {bt bm : Nat} {E : List PEn} {e : PEn} (he : e ∈ E) : e.be ∈ ptFoot bt bm E ∧ ∀ g, e.v.ownBlock = some g → g ∈ ptFoot bt bm E := by
  refine ⟨?_, fun g hg => ?_⟩
  · simp only [ptFoot, List.mem_cons, List.mem_flatMap]
    exact .inr (.inr ⟨e, he, by simp [PEn.foot]⟩)
  · simp only [ptFoot, List.mem_cons, List.mem_flatMap]
    exact .inr (.inr ⟨e, he, by simp [PEn.foot, hg]⟩)

theorem foot_apart {bt bm : Nat} {E : List PEn} (h : (ptFoot bt bm E).Nodup) : bt ≠ bm ∧ (∀ e ∈ E, e.be ≠ bt ∧ e.be ≠ bm ∧ ∀ g, e.v.ownBlock = some g → g ≠ bt ∧ g ≠ bm ∧ g ≠ e.be) := by
  simp only [ptFoot, List.nodup_cons, List.mem_cons, List.mem_flatMap, not_or, not_exists, not_and] at h
  obtain ⟨⟨h1, h2⟩, h3, h4⟩ := h
  refine ⟨h1, fun e he => ⟨fun h => h2 e he (by simp [PEn.foot, h]), fun h => h3 e he (by simp [PEn.foot, h]), fun g hg => ⟨fun h => h2 e he (by simp [PEn.foot, hg, h]), fun h => h3 e he (by simp [PEn.foot, hg, h]), fun h => ?_⟩⟩⟩
  obtain ⟨A, B, rfl⟩ := List.append_of_mem he
  rw [List.flatMap_append, List.flatMap_cons, List.nodup_append, List.nodup_append] at h4
  have h5 := h4.2.1.1
  simp only [PEn.foot, hg, Option.toList_some, List.nodup_cons, List.mem_cons, List.not_mem_nil, or_false] at h5
  exact h5.1 h.symm

/-- Two entries' blocks are apart. -/
theorem foot_two {bt bm : Nat} {A B : List PEn} {e x : PEn} (h : (ptFoot bt bm (A ++ e :: B)).Nodup) (hx : x ∈ A ++ B) : ∀ i, i ∈ e.foot → i ∉ x.foot := by
  simp only [ptFoot, List.nodup_cons] at h
  have h4 := h.2.2
  rw [List.flatMap_append, List.flatMap_cons] at h4
  intro i hi hix
  rw [List.nodup_append] at h4
  obtain ⟨ha, hb, hab⟩ := h4
  rcases List.mem_append.1 hx with hx | hx
  · exact hab i (List.mem_flatMap.2 ⟨x, hx, hix⟩) i (by simp [hi]) rfl
  · rw [List.nodup_append] at hb
    exact hb.2.2 i hi i (List.mem_flatMap.2 ⟨x, hx, hix⟩) rfl

theorem tickE_foot (life : Int) (R : List Key) : ∀ (E : List PEn), ((tickE life E R).flatMap PEn.foot).Sublist (E.flatMap PEn.foot)
  | [] => List.Sublist.refl _
  | x :: r => by
    have ih := tickE_foot life R r
    unfold tickE at *
    rw [List.filterMap_cons]
    split
    · rw [List.flatMap_cons]; exact List.sublist_append_of_sublist_right ih
    · rename_i y hy
      obtain ⟨h1, h2, h3, h4, h5⟩ := tick1_key hy
      rw [List.flatMap_cons, List.flatMap_cons]
      have : y.foot = x.foot := by simp [PEn.foot, h2, h3]
      rw [this]
      exact List.Sublist.append (List.Sublist.refl _) ih

theorem tickE_size (life : Int) (R : List Key) : ∀ (E : List PEn), sizeE (tickE life E R) ≤ sizeE E
  | [] => Nat.le_refl _
  | x :: r => by
    have ih := tickE_size life R r
    unfold tickE at *
    rw [List.filterMap_cons]
    split
    · rw [sizeE_cons]; omega
    · rename_i y hy
      obtain ⟨h1, h2, h3, h4, h5⟩ := tick1_key hy
      rw [sizeE_cons, sizeE_cons, h4]; omega

theorem tickE_length (life : Int) (R : List Key) (E : List PEn) : (tickE life E R).length ≤ E.length := List.length_filterMap_le _ _

theorem PT.ticked {bt bm r : Nat} {ent byt life : Int} {E : List PEn} {w W : World} (h : PT bt bm ent byt life E w) (k : TK bt bm r ent byt life E [] w W) : PT bt bm ent byt life (tickE life E []) W := by
  refine ⟨k.tb, k.rg.mp, k.en, k.row, ?_, fun e he p hp => ?_, Nat.le_trans (tickE_length _ _ _) h.few, Nat.le_trans (tickE_size _ _ _) h.small, fun e he => ?_, h.lf, h.se, h.sb, fun e he => ?_⟩
  · exact ((((tickE_foot life [] E).cons_cons bm).cons_cons bt).nodup h.nd : (ptFoot bt bm (tickE life E [])).Nodup)
  · obtain ⟨x, hx, h1, h2, h3, h4, h5, h6⟩ := tickE_mem he
    rw [h4] at hp
    exact h.ok x hx p hp
  · obtain ⟨x, hx, h1, h2, h3, h4, h5, h6⟩ := tickE_mem he
    have := h.age x hx
    have := h.lf
    omega
  · obtain ⟨x, hx, h1, h2, h3, h4, h5, h6⟩ := tickE_mem he
    rw [h4]; exact h.inv x hx

/-- Behind an entry's new age: the entry, and the others. -/
structure T3 (q bt bm r nb : Nat) (ent byt life : Int) (E A B : List PEn) (e : PEn) (R : List Key) (w W : World) : Prop where
  bx : Blk W nb (keyCells e.key) 68
  tb : Blk W bt (tbCells ent byt life bm (sizeE (A ++ e :: B))) 65
  rg : Rg bm r (mapE (A ++ e :: B)) (R.erase e.key) W
  ee : Blk W e.be (enCells e.v e.done (e.age + 1)) 72
  en : ∀ x ∈ A ++ B, Blk W x.be (enCells x.v x.done x.age) 72
  row : ∀ x ∈ A ++ e :: B, Row W 74 12 x.v (x.ps.map ppCells)
  fr : Fr (ptFoot bt bm E) w W
  lft : W.rangeLeft bm r < q
  nbt : nb ≠ bt

theorem T3.drew {q bt bm r nb : Nat} {ent byt life : Int} {E A B : List PEn} {e : PEn} {R : List Key} {w W : World} (h : T3 q bt bm r nb ent byt life E A B e R w W) : T3 q bt bm r nb ent byt life E A B e R w W.drew :=
  ⟨h.bx, h.tb, h.rg.keep (Fr.refl [] W).drew (by simp) (by simp), h.ee, h.en, fun x hx => (h.row x hx).keep' (Fr.refl [] W).drew, h.fr.drew, h.lft, h.nbt⟩

set_option maxRecDepth 100000 in
set_option maxHeartbeats 4000000 in
theorem ptick_any (bt bm : Nat) (ent byt life : Int) (E : List PEn) (w : World) (h : PT bt bm ent byt life E w) :
    Calls Try.prog 13 #[.pointer (some ⟨bt, 0, none⟩)] w fun e w' => e = .returned (.int .i64 (E.length - (tickE life E []).length : Nat)) ∧ PT bt bm ent byt life (tickE life E []) w' ∧ Fr (ptFoot bt bm E) w w' := by
  have t3 : w.cell? ⟨bt, 3, none⟩ = some (.map (some bm)) := h.tb.cell 3
  obtain ⟨w0, hrun, hrg, hf0⟩ := h.mp.range
  obtain ⟨r, hr⟩ : ∃ r, r = w.heap.size := ⟨_, rfl⟩
  rw [← hr] at hrun hrg
  have hall : tickE life E ((mapE E).map Prod.fst) = E := tickE_all life E _ (fun e he => by simp only [mapE, List.map_map, List.mem_map]; exact ⟨e, he, rfl⟩)
  have h0 : TK bt bm r ent byt life E ((mapE E).map Prod.fst) w w0 := by
    refine ⟨?_, ?_, ?_, ?_, hf0.nil⟩
    · rw [hall]; exact hf0.keep h.tb (by simp)
    · rw [hall]; exact hrg
    · rw [hall]; exact fun e he => hf0.keep (h.en e he) (by simp)
    · rw [hall]; exact fun e he => (h.row e he).keep' hf0
  have H := Lib.hid h
  have H0 := Lib.hid (And.intro h0 hall)
  have HR := Lib.hid hr
  have hfew := h.few
  clear h hrg hf0 h0 hr hall
  go_enter Try.func13, Try.ntmps13
  go_wp2_with fail
  go_loopw [3] (fun x wr => ∃ R : List Key, x = .int .i64 (E.length - (tickE life E R).length : Nat) ∧ Hid (TK bt bm r ent byt life E R w wr)) (fun _ wr => wr.rangeLeft bm r)
  case atStart => exact ⟨_, by rw [H0.out.2]; simp, H0.out.1⟩
  case round =>
    obtain ⟨R, rfl, HS⟩ := hrel
    rcases HS.out.rg.next 0 with ⟨hR, hrun2⟩ | ⟨k, b, w1, hkR, hkM, hrun2, hent, hrg1, hf1, hlt⟩
    · subst hR
      go_wp2_with fail
      go_ret
      exact ⟨rfl, H.out.ticked HS.out, HS.out.fr⟩
    · obtain ⟨e, he, rfl, rfl⟩ := tickE_in hkM
      obtain ⟨A, B, hE, hA, hB⟩ := split_key E H.out.keys he
      have hT : tickE life E R = tickE life A R ++ e :: tickE life B R := by
        rw [hE]
        by_cases hl : e.age + 1 < life
        · exact (tickE_stay HS.out.rg.rnodup hkR hA hB hl).1
        · exact (tickE_go HS.out.rg.rnodup hkR hA hB hl).1
      have hin : e ∈ tickE life E R := by rw [hT]; simp
      have hnd : (ptFoot bt bm (tickE life A R ++ e :: tickE life B R)).Nodup := by rw [← hT]; exact (((tickE_foot life R E).cons_cons bm).cons_cons bt).nodup H.out.nd
      have hfl := H.out.foot_lt
      have hrf : ∀ g ∈ ptFoot bt bm E, g ∉ [r] := fun g hg => by have := hfl g hg; have := HR.out; simp; omega
      have hee := hf1.keep (HS.out.en e hin) (hrf _ (foot_mem he).1)
      have hag := H.out.age e he
      have c2 : ∀ o, (w1.alloc o).cell? ⟨e.be, 2, none⟩ = some (.int .i64 e.age) := fun o => (hee.alloc o).cell 2
      have z2 : ∀ o, (w1.alloc o).frozen? ⟨e.be, 2, none⟩ = false := fun o => (hee.alloc o).free 2
      obtain ⟨nb, hnb⟩ : ∃ nb, nb = w1.heap.size := ⟨_, rfl⟩
      have hmu : ∀ x ∈ tickE life A R ++ e :: tickE life B R, x.be ∈ ptFoot bt bm E ∧ ∀ g, x.v.ownBlock = some g → g ∈ ptFoot bt bm E := by
        intro x hx
        rw [← hT] at hx
        obtain ⟨y, hy, h1, h2, h3, h4, h5, h6⟩ := tickE_mem hx
        rw [h2, h3]; exact foot_mem hy
      have h3 : ∀ W, W = (w1.alloc (.cells (keyCells e.key) 68)).setCell ⟨e.be, 2, none⟩ (.int .i64 (e.age + 1)) → T3 (wr.rangeLeft bm r) bt bm r nb ent byt life E (tickE life A R) (tickE life B R) e R w W := by
        intro W hW
        have hfa := foot_apart H.out.nd
        obtain ⟨a1, a2, a3⟩ := hfa.2 e he
        have hA1 : Fr [r] wr (w1.alloc (.cells (keyCells e.key) 68)) := hf1.alloc _
        have hB1 : Fr [e.be] (w1.alloc (.cells (keyCells e.key) 68)) W := by rw [hW]; exact (Fr.refl _ _).setCell _ _ (.inl (by simp))
        have hlt1 : e.be < w1.heap.size := hee.lt
        have hrgA := hrg1.keep ((Fr.refl [] w1).alloc (.cells (keyCells e.key) 68)) (by simp) (by simp)
        have hn1 : bm ∉ [e.be] := by simp; exact fun e2 => a2 e2.symm
        have hn2 : r ∉ [e.be] := by simp; have := hfl _ (foot_mem (bt := bt) (bm := bm) he).1; have := HR.out; omega
        refine ⟨hB1.keep (Blk.new_at hnb _ _) (by simp; omega), ?_, ?_, ?_, fun x hx => ?_, fun x hx => ?_, ?_, ?_, by have := (hf1.keep HS.out.tb (hrf _ (by simp [ptFoot]))).lt; omega⟩
        · rw [← hT]; exact hB1.keep (hA1.keep HS.out.tb (hrf _ (by simp [ptFoot]))) (by simp; exact fun e2 => a1 e2.symm)
        · rw [← hT]; exact hrgA.keep hB1 hn1 hn2
        · rw [hW]; exact (hee.alloc _).set_to 2 _ rfl
        · have hx' : x ∈ tickE life E R := by rw [hT]; rcases List.mem_append.1 hx with h | h <;> simp [h]
          refine hB1.keep (hA1.keep (HS.out.en x hx') (hrf _ (hmu x (by rw [← hT]; exact hx')).1)) ?_
          have := foot_two hnd hx e.be (by simp [PEn.foot])
          simp only [PEn.foot, List.mem_cons, not_or] at this
          simp; exact fun e2 => this.1 e2.symm
        · have hm := hmu x hx
          refine ((HS.out.row x (by rw [hT]; exact hx)).keep hA1 (fun g hg => hrf _ (hm.2 g hg))).keep hB1 (fun g hg => ?_)
          simp only [List.mem_singleton]
          rcases List.mem_append.1 hx with h | h
          · have := foot_two hnd (List.mem_append.2 (.inl h)) e.be (by simp [PEn.foot])
            simp only [PEn.foot, List.mem_cons, Option.mem_toList, not_or] at this
            exact fun e2 => this.2 (by rw [hg, e2])
          · rcases List.mem_cons.1 h with rfl | h
            · exact (a3 g hg).2.2
            · have := foot_two hnd (List.mem_append.2 (.inr h)) e.be (by simp [PEn.foot])
              simp only [PEn.foot, List.mem_cons, Option.mem_toList, not_or] at this
              exact fun e2 => this.2 (by rw [hg, e2])
        · exact (HS.out.fr.trans' hA1 (by intro i hi; simp at hi; subst hi; right; rw [HR.out]; exact Nat.le_refl _)).trans' hB1 (by intro i hi; simp at hi; subst hi; left; exact (foot_mem he).1)
        · rw [hrgA.left_same hB1 hn1 hn2, hrg1.left_same ((Fr.refl [] w1).alloc _) (by simp) (by simp)]; exact hlt
      have H3 := Lib.hid h3
      have HT := Lib.hid (And.intro hT (And.intro hE (And.intro hA (And.intro hB (And.intro hmu (And.intro hlt hnd))))))
      have htl := tickE_length life R E
      clear h3 hT hE hA hB hmu hlt hrg1 hf1 hfl hrf hin hnd
      unfold keyV keyCells at hrun2 hent
      go_wp2_with fail
      rw [← hnb]
      refine Code.world fun W3 hW3 => ?_
      have hk3 := H3.out W3 (by rw [hW3]; rfl)
      clear hW3 H3 hnb c2 z2 hee
      have l2 : W3.cell? ⟨bt, 2, none⟩ = some (.int .i64 life) := hk3.tb.cell 2
      have a2 : W3.cell? ⟨e.be, 2, none⟩ = some (.int .i64 (e.age + 1)) := hk3.ee.cell 2
      obtain ⟨W4, hW4⟩ : ∃ W4, W4 = W3.drew := ⟨_, rfl⟩
      have hk4 : T3 (wr.rangeLeft bm r) bt bm r nb ent byt life E (tickE life A R) (tickE life B R) e R w W4 := by rw [hW4]; exact hk3.drew
      have K4 := Lib.hid hk4
      have e1 : IntKind.i64.wrap (e.age + 1) = e.age + 1 := by rw [IntKind.wrap_i64]; omega
      refine wp_region_keep (fun w' => Hid (w' = W4)) (by kernel_rfl) (by kernel_rfl) (Lib.hid hW4.symm) ?_
      clear hW4 hk3 l2 a2
      repeat (first | (refine wpI_one (by rfl) (fun w1 hS => by (have q0 := hS.out; have l2 : W4.cell? ⟨bt, 2, none⟩ = some (.int .i64 life) := K4.out.tb.cell 2; have a2 : W4.cell? ⟨e.be, 2, none⟩ = some (.int .i64 (e.age + 1)) := K4.out.ee.cell 2; rw [← q0] at l2 a2; clear q0; go_simp; first | exact ⟨rfl, hS⟩ | exact rfl)) (fun K hK => ?_); go_simp; refine hK _ ?_; clear hK K) | (refine wpI_skip (by rfl) (fun K hK => ?_); go_simp; refine hK _ ?_; clear hK K))
      refine wpI_nil ?_; intro w' hS
      have hw4 := hS.out
      subst hw4
      clear hS hk4
      obtain ⟨A', hA'⟩ : ∃ A', A' = tickE life A R := ⟨_, rfl⟩
      obtain ⟨B', hB'⟩ : ∃ B', B' = tickE life B R := ⟨_, rfl⟩
      by_cases hl : e.age + 1 < life
      · have d1 : decide (e.age + 1 < life) = true := by simpa using hl
        have hst : tickE life E R = A' ++ e :: B' ∧ tickE life E (R.erase e.key) = A' ++ { e with age := e.age + 1 } :: B' := by
          obtain ⟨hT, hE, hA, hB, hmu, hlt, hnd⟩ := HT.out
          have := tickE_stay HS.out.rg.rnodup hkR hA hB hl
          rw [← hE, ← hA', ← hB'] at this
          exact this
        rw [← hA', ← hB'] at K4
        have hrel : TK bt bm r ent byt life E (R.erase e.key) w w' := by
          have k := K4.out
          refine ⟨?_, ?_, fun x hx => ?_, fun x hx => ?_, k.fr⟩
          · rw [hst.2]
            have : sizeE (A' ++ { e with age := e.age + 1 } :: B') = sizeE (A' ++ e :: B') := by rw [sizeE_append, sizeE_append, sizeE_cons, sizeE_cons]
            rw [this]; exact k.tb
          · rw [hst.2]
            have : mapE (A' ++ { e with age := e.age + 1 } :: B') = mapE (A' ++ e :: B') := by rw [mapE_append, mapE_append, mapE_cons, mapE_cons]
            rw [this]; exact k.rg
          · rw [hst.2] at hx
            rcases List.mem_append.1 hx with h | h
            · exact k.en x (by simp [h])
            · rcases List.mem_cons.1 h with rfl | h
              · exact k.ee
              · exact k.en x (by simp [h])
          · rw [hst.2] at hx
            rcases List.mem_append.1 hx with h | h
            · exact k.row x (by simp [h])
            · rcases List.mem_cons.1 h with rfl | h
              · exact k.row e (by simp)
              · exact k.row x (by simp [h])
        have hlen : (tickE life E (R.erase e.key)).length = (tickE life E R).length := by rw [hst.1, hst.2]; simp
        have HREL := Lib.hid (And.intro hrel (And.intro hlen K4.out.lft))
        clear hrel hlen hst hA' hB'
        go_wp2_with fail
        exact ⟨⟨R.erase e.key, by rw [HREL.out.2.1], HREL.out.1⟩, HREL.out.2.2⟩
      · have d1 : decide (e.age + 1 < life) = false := by simpa using hl
        have hst : tickE life E R = A' ++ e :: B' ∧ tickE life E (R.erase e.key) = A' ++ B' := by
          obtain ⟨hT, hE, hA, hB, hmu, hlt, hnd⟩ := HT.out
          have := tickE_go HS.out.rg.rnodup hkR hA hB hl
          rw [← hE, ← hA', ← hB'] at this
          exact this
        have hke : (∀ x ∈ A', x.key ≠ e.key) ∧ (∀ x ∈ B', x.key ≠ e.key) := by
          obtain ⟨hT, hE, hA, hB, hmu, hlt, hnd⟩ := HT.out
          rw [hA', hB']
          refine ⟨fun x hx => ?_, fun x hx => ?_⟩
          · obtain ⟨y, hy, h1, _⟩ := tickE_mem hx; rw [h1]; exact hA y hy
          · obtain ⟨y, hy, h1, _⟩ := tickE_mem hx; rw [h1]; exact hB y hy
        have hnd : (ptFoot bt bm (A' ++ e :: B')).Nodup ∧ ∀ x ∈ A' ++ e :: B', x.be ∈ ptFoot bt bm E ∧ ∀ g, x.v.ownBlock = some g → g ∈ ptFoot bt bm E := by
          rw [hA', hB']; exact ⟨HT.out.2.2.2.2.2.2, HT.out.2.2.2.2.1⟩
        rw [← hA', ← hB'] at K4
        have hroe := K4.out.row e (by simp)
        obtain ⟨ap, cp, hv, hcl, hcm⟩ := hroe.shape
        rw [List.length_map] at hcl hv
        unfold maxLen at hcm
        have hHG := Lib.hid (And.intro hst (And.intro hke hnd))
        have p0 : w'.cell? ⟨e.be, 0, none⟩ = some (.slice ap e.ps.length cp) := by rw [← hv]; exact K4.out.ee.cell 0
        have HV := Lib.hid hv
        clear hst hke hnd hA' hB' hv hroe HT
        have hsm : sizeE (A' ++ e :: B') = sizeE (A' ++ B') + sumP e.ps := by rw [sizeE_append, sizeE_append, sizeE_cons]; omega
        have hs2 : sizeE (A' ++ e :: B') ≤ 1048576 := by rw [← hHG.out.1.1]; exact Nat.le_trans (tickE_size _ _ _) H.out.small
        have HSM := Lib.hid hsm
        clear hsm
        go_wp2_with fail
        go_loopw [40] (fun x wq => ∃ j : Nat, j ≤ e.ps.length ∧ x = .int .i64 j ∧ Hid (Blk wq bt (tbCells ent byt life bm ((sizeE (A' ++ e :: B') : Int) - sumP (e.ps.take j))) 65 ∧ Fr [bt] w' wq)) (fun x _ => e.ps.length - (intOf x).toNat)
        case atStart => exact ⟨0, by omega, rfl, by simpa [sumP] using K4.out.tb, Fr.refl _ _⟩
        case round =>
          obtain ⟨j, hj, rfl, HJ⟩ := hrel
          clear p0
          have hfa := foot_apart hHG.out.2.2.1
          have hrow : Row wr 74 12 (.slice ap e.ps.length cp) (e.ps.map ppCells) := by
            rw [← HV.out]
            exact (K4.out.row e (by simp)).keep HJ.out.2 (fun g hg => by simp; exact ((hfa.2 e (by simp)).2.2 g hg).1)
          have hst := sumP_take_le e.ps j
          have hsm := HSM.out
          obtain ⟨tk, htk⟩ : ∃ tk, tk = (sizeE (A' ++ e :: B') : Int) - sumP (e.ps.take j) := ⟨_, rfl⟩
          have hJ := HJ.out
          rw [← htk] at hJ
          by_cases hjl : j < e.ps.length
          · obtain ⟨gp, rfl, hgp⟩ := hrow.at (by omega)
            obtain ⟨q0, q1, q2, q3, q4, q5, q6, q7, q8, q9, q10, q11⟩ := prow_cells hrow j hjl
            have hpo := H.out.ok e he _ (List.getElem_mem hjl)
            have hsn := sumP_take e.ps j hjl
            have hsn2 := sumP_take_le e.ps (j + 1)
            obtain ⟨p, hp⟩ : ∃ p, p = e.ps[j]'hjl := ⟨_, rfl⟩
            rw [← hp] at q0 q1 q2 q3 q4 q5 q6 q7 q8 q9 q10 q11 hpo hsn
            have k0 : 0 ≤ tk - (p.s.size : Int) := by omega
            have k1 : tk - (p.s.size : Int) ≤ 1048576 := by omega
            have e2 : IntKind.i64.wrap (tk - (p.s.size : Int)) = tk - (p.s.size : Int) := by rw [IntKind.wrap_i64]; omega
            have HEQ := Lib.hid (And.intro htk (And.intro hsn hJ))
            have hlb := hJ.1.lt
            have n1 : ¬ wr.heap.size = bt := by omega
            have n2 : ¬ bt = wr.heap.size := by omega
            clear hp htk hsn hJ hrow hfa hsm HJ
            go_wp2_with fail
            refine Code.world fun Wb hWb => ?_
            have hb1 : Blk Wb bt (tbCells ent byt life bm tk) 65 ∧ Fr [bt] w' Wb := by rw [hWb]; exact ⟨HEQ.out.2.2.1.alloc _, HEQ.out.2.2.2.alloc _⟩
            have hb2 : Blk Wb wr.heap.size (ppCells p) 74 := by rw [hWb]; exact Blk.new wr _ _
            have t4 : Wb.cell? ⟨bt, 4, none⟩ = some (.int .i64 tk) := hb1.1.cell 4
            have t11 : Wb.cell? ⟨wr.heap.size, 11, none⟩ = some (.string p.s) := hb2.cell 11
            have HBB := Lib.hid hb1
            clear hWb hb1 hb2
            go_still_tail 10, (by kernel_rfl)
            change wpList _ _ _ _ _ Wb.drew
            obtain ⟨W5, hW5⟩ : ∃ W5, W5 = Wb.drew := ⟨_, rfl⟩
            rw [← hW5]
            have h5 : Blk W5 bt (tbCells ent byt life bm tk) 65 ∧ Fr [bt] w' W5 := by rw [hW5]; exact ⟨HBB.out.1.drew, HBB.out.2.drew⟩
            have t5 : W5.cell? ⟨bt, 4, none⟩ = some (.int .i64 tk) := h5.1.cell 4
            have z5 := h5.1.free 4
            have H5 := Lib.hid h5
            clear h5 hW5 t4 t11
            go_wp2_with fail
            have e9 : (sizeE (A' ++ e :: B') : Int) - (sumP (e.ps.take (j + 1)) : Int) = tk - (p.s.size : Int) := by have := HEQ.out; omega
            refine ⟨⟨j + 1, by omega, by go_num, ?_⟩, by simp [intOf]; omega⟩
            rw [e9]
            exact ⟨H5.out.1.set_to 4 _ rfl, H5.out.2.setCell _ _ (.inl (by simp))⟩
          · have hje : j = e.ps.length := by omega
            subst hje
            rw [List.take_length] at htk
            have htk2 : tk = (sizeE (A' ++ B') : Int) := by omega
            subst htk2
            obtain ⟨W5, hW5⟩ : ∃ W5, W5 = wr.drew := ⟨_, rfl⟩
            have hF5 : Fr [bt] w' W5 := by rw [hW5]; exact hJ.2.drew
            have hfl := hHG.out.2.2.1
            have hnr : r ∉ [bt] := by simp; have := H.out.tb.lt; have := HR.out; omega
            have hnm : bm ∉ [bt] := by simp; exact fun e2 => hfa.1 e2.symm
            have hrg5 := K4.out.rg.keep hF5 hnm hnr
            have hlf5 := K4.out.rg.left_same hF5 hnm hnr
            obtain ⟨W6, hdel, hrg6, hF6, hlt6⟩ := hrg5.drop e.key e.be (by rw [mapE_append, mapE_cons]; simp) (by rw [HS.out.rg.rnodup.mem_erase_iff]; simp) 0
            rw [mapE_go hHG.out.2.1.1 hHG.out.2.1.2] at hrg6
            have hrel : TK bt bm r ent byt life E (R.erase e.key) w W6 := by
              have hmu := hHG.out.2.2.2
              have hbb : bt ∈ ptFoot bt bm E ∧ bm ∈ ptFoot bt bm E := by simp [ptFoot]
              refine ⟨?_, ?_, fun x hx => ?_, fun x hx => ?_, ?_⟩
              · rw [hHG.out.1.2]
                have : Blk W5 bt (tbCells ent byt life bm (sizeE (A' ++ B'))) 65 := by rw [hW5]; exact hJ.1.drew
                exact hF6.keep this (by simp; exact hfa.1)
              · rw [hHG.out.1.2]; exact hrg6
              · rw [hHG.out.1.2] at hx
                have hx2 : x ∈ A' ++ e :: B' := by rcases List.mem_append.1 hx with h | h <;> simp [h]
                have := hfa.2 x hx2
                exact hF6.keep (hF5.keep (K4.out.en x hx) (by simp; exact this.1)) (by simp; exact this.2.1)
              · rw [hHG.out.1.2] at hx
                have hx2 : x ∈ A' ++ e :: B' := by rcases List.mem_append.1 hx with h | h <;> simp [h]
                have := hfa.2 x hx2
                exact ((K4.out.row x hx2).keep hF5 (fun g hg => by simp; exact (this.2.2 g hg).1)).keep hF6 (fun g hg => by simp; exact (this.2.2 g hg).2.1)
              · exact (K4.out.fr.trans' hF5 (by intro i hi; simp at hi; subst hi; exact .inl hbb.1)).trans' hF6 (by intro i hi; simp at hi; subst hi; exact .inl hbb.2)
            have hlen : (tickE life E R).length = (tickE life E (R.erase e.key)).length + 1 := by rw [hHG.out.1.1, hHG.out.1.2]; simp; omega
            have hbx : Blk W5 nb (keyCells e.key) 68 := by
              exact hF5.keep K4.out.bx (by simp; exact K4.out.nbt)
            have m3 : W5.cell? ⟨bt, 3, none⟩ = some (.map (some bm)) := by rw [hW5]; exact hJ.1.drew.cell 3
            have m3' : wr.cell? ⟨bt, 3, none⟩ = some (.map (some bm)) := hJ.1.cell 3
            have b0 : ∀ k, wr.cell? ⟨nb, k, none⟩ = (keyCells e.key)[k]? := by have := hbx.cell; rw [hW5] at this; exact this
            have b5 := hbx.cell
            have HREL := Lib.hid (And.intro hrel (And.intro hlen (show W6.rangeLeft bm r < _ from Nat.lt_of_le_of_lt hlt6 (by rw [hlf5]; exact K4.out.lft))))
            unfold keyV at hdel
            unfold keyCells at hdel b0 b5
            have htl2 := tickE_length life (R.erase e.key) E
            clear hrel hlen hfa hrow hst hsm htk HJ hJ hF5 hfl hnr hnm hrg5 hlf5 hrg6 hF6 hlt6 hbx hjl
            go_wp2_with fail
            go_still_tail 5, (by kernel_rfl)
            change wpList _ _ _ _ _ (World.drew _)
            rw [← hW5]
            clear hW5
            go_wp2_with fail
            exact ⟨⟨R.erase e.key, by have := HREL.out.2.1; apply int_eq; omega, HREL.out.1⟩, HREL.out.2.2⟩
end Go.Proofs.Ytlgjhacmhkbkdaa
