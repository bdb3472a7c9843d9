/- reasm: Add, the walk. -/
import Derived.Test.YtlgjhacmhkbkdaaRsmPY
import Derived.Test.YtlgjhacmhkbkdaaIp4Get2
import Derived.StillTailTactics
import Derived.Deep.DeepCutAuto
import Derived.Test.YtlgjhacmhkbkdaaRegF
namespace Go.Proofs.Ytlgjhacmhkbkdaa
open Go.RowKit

theorem infoPiece : (Try.prog.info? 74).map (fun i => (i.zero, i.size, i.bytes)) = some (some (.agg #[.int .i64 0, .int .i64 0, .int .i64 0, .int .i64 0, .int .i64 0, .bool false, .bool false, .string ⟨#[]⟩, .string ⟨#[]⟩, .string ⟨#[]⟩, .int .i64 0, .string ⟨#[]⟩]), 12, 120) := by kernel_rfl

set_option maxRecDepth 100000 in
set_option maxHeartbeats 4000000 in
theorem padd_any (bt bm : Nat) (ent byt life : Int) (E : List PEn) (t : ByteArray) (w : World) (h : PT bt bm ent byt life E w) (ht : t.size ≤ 35184372088832) :
    Calls Try.prog 15 #[.pointer (some ⟨bt, 0, none⟩), .string t] w (AddPost bt bm ent byt life E (addP ent byt (E.map absE) t) w) := by
  have HG := Lib.hid (fun W => ip4get_any t W ht)
  have H := Lib.hid h
  have hoff := ip4get_off t
  have hadd : addP ent byt (E.map absE) t = if (ip4get t).2.2 ≠ 0 then (E.map absE, ⟨#[]⟩, (ip4get t).2.2) else if oddP ⟨(ip4get t).1, (ip4get t).2.1⟩ then (E.map absE, ⟨#[]⟩, 4) else addX ent byt (E.map absE) ⟨(ip4get t).1, (ip4get t).2.1⟩ := rfl
  have hok : (ip4get t).2.2 = 0 → Pc.ok ⟨(ip4get t).1, (ip4get t).2.1⟩ ∧ (keyH (ip4get t).1).ok ∧ t.size ≤ 65535 ∧ (ip4get t).2.1.size + 20 ≤ t.size := ip4get_ok
  have HA := Lib.hid (And.intro hadd hok)
  clear h hadd hok
  go_enter Try.func15, Try.ntmps15
  go_wp2_with fail
  refine (HG.out _).mono ?_
  rintro e w1 ⟨rfl, hf1⟩
  obtain ⟨x, hx⟩ : ∃ x : Pc, x = ⟨(ip4get t).1, (ip4get t).2.1⟩ := ⟨_, rfl⟩
  obtain ⟨f, hfe⟩ : ∃ f : Nat, f = (ip4get t).2.2 := ⟨_, rfl⟩
  have hx1 : (ip4get t).1 = x.h := by rw [hx]
  have hx2 : (ip4get t).2.1 = x.s := by rw [hx]
  rw [← hx, ← hfe] at HA
  rw [hx1] at HA hoff
  rw [hx2] at HA
  rw [hx1, hx2, ← hfe]
  clear hx hx1 hx2 hfe HG
  have hm8 : (8 : Int) * x.h.off = ((x.from : Nat) : Int) := by unfold Pc.from; omega
  have e8 : IntKind.i64.wrap (8 * x.h.off) = 8 * x.h.off := by rw [IntKind.wrap_i64]; omega
  unfold hdrV hdrCells
  by_cases hf : f = 0
  · subst hf
    have d1 : (((0 : Nat) : Int) != 0) = false := rfl
    have hxo := (HA.out.2 rfl)
    obtain ⟨hx, hk, htz, hxz⟩ := hxo
    have ha2 : addP ent byt (E.map absE) t = if oddP x then (E.map absE, ⟨#[]⟩, 4) else addX ent byt (E.map absE) x := by rw [HA.out.1]; simp
    have HA2 := Lib.hid (And.intro ha2 (And.intro hx (And.intro hk (And.intro htz hxz))))
    clear HA ha2
    go_wp2_with fail
    refine (podd_any x _ hx).mono ?_
    rintro e w2 ⟨rfl, hf2⟩
    obtain ⟨n1, hn1⟩ : ∃ n1, n1 = w1.heap.size := ⟨_, rfl⟩
    rw [← hn1]
    have hb1 : Blk w2 n1 (hdrCells x.h) 43 := hf2.keep ((Blk.new_at hn1 (hdrCells x.h) 43).alloc _) (by simp)
    have hb2 : Blk w2 (n1 + 1) (ppCells x) 74 := hf2.keep (Blk.new_at (w := w1.alloc (.cells (hdrCells x.h) 43)) (by simp [hn1]) (ppCells x) 74) (by simp)
    have hfr : Fr [] w w2 := (hf1.alloc _ |>.alloc _).trans hf2
    have hn0 : w.heap.size ≤ n1 := by rw [hn1]; exact hf1.size
    have HB := Lib.hid (And.intro hb1 (And.intro hb2 (And.intro hfr hn0)))
    clear hb1 hb2 hfr hn0 hf1 hf2 hn1
    cases hod : oddP x
    · have ha3 : addP ent byt (E.map absE) t = addX ent byt (E.map absE) x := by rw [HA2.out.1, hod]; rfl
      have HA3 := Lib.hid ha3
      have HOD := Lib.hid hod
      clear ha3 hod
      have c1 := HB.out.1.cell
      simp only [hdrCells] at c1
      go_upto_region 8 with (fail)
      obtain ⟨nk, hnk⟩ : ∃ nk, nk = w2.heap.size := ⟨_, rfl⟩
      rw [← hnk]
      refine Code.world fun W3 hW3 => ?_
      have h3 : Blk W3 n1 (hdrCells x.h) 43 ∧ Blk W3 (n1 + 1) (ppCells x) 74 ∧ Blk W3 nk (keyCells (keyH x.h)) 68 ∧ Fr [] w W3 ∧ W3.heap.size = nk + 1 := by
        rw [hW3]; exact ⟨HB.out.1.alloc _, HB.out.2.1.alloc _, Blk.new_at hnk _ _, HB.out.2.2.1.alloc _, by simp [hnk]⟩
      have hn1k : n1 + 1 < nk := by rw [hnk]; exact HB.out.2.1.lt
      obtain ⟨W4, hW4⟩ : ∃ W4, W4 = W3.drew := ⟨_, rfl⟩
      have h4 : Blk W4 n1 (hdrCells x.h) 43 ∧ Blk W4 (n1 + 1) (ppCells x) 74 ∧ Blk W4 nk (keyCells (keyH x.h)) 68 ∧ Fr [] w W4 ∧ W4.heap.size = nk + 1 := by
        rw [hW4]; exact ⟨h3.1.drew, h3.2.1.drew, h3.2.2.1.drew, h3.2.2.2.1.drew, h3.2.2.2.2⟩
      have hpt4 : PT bt bm ent byt life E W4 := H.out.keep' h4.2.2.2.1
      have hlk := hpt4.mp.look (keyH x.h) HA2.out.2.2.1
      have t3 : W4.cell? ⟨bt, 3, none⟩ = some (.map (some bm)) := hpt4.tb.cell 3
      have k4 := h4.2.2.1.cell
      have H4 := Lib.hid (And.intro h4 (And.intro hpt4 (And.intro HB.out.2.2.2 hn1k)))
      have H0 : Hid (W3.drew = W4) := Lib.hid hW4.symm
      clear hW3 h3 hW4 h4 hpt4 hn1k hnk HB c1
      unfold keyV at hlk
      unfold keyCells at hlk k4
      unfold keyH at hlk k4
      dsimp only at hlk k4
      cases hg : mget (mapE E) (keyH x.h)
      case' some b =>
        obtain ⟨e0, he0, hk0, hb0⟩ := mget_mem hg
        have hg' : mget (mapE E) { src := x.h.src, dst := x.h.dst, proto := x.h.proto, id := x.h.id } = some b := hg
        rw [hg'] at hlk
        clear hg'
        have HGG := Lib.hid (And.intro hg (And.intro he0 (And.intro hk0 hb0)))
        clear hg he0 hk0 hb0
      case' none =>
        have hg' : mget (mapE E) { src := x.h.src, dst := x.h.dst, proto := x.h.proto, id := x.h.id } = none := hg
        rw [hg'] at hlk
        clear hg'
        have HGG := Lib.hid hg
        clear hg
      all_goals
        dsimp only at hlk
        refine wp_region_keep (fun w' => Hid (w' = W4)) (by kernel_rfl) (by kernel_rfl) (H0) ?_
        repeat (first | (refine wpI_one (by rfl) (fun w1 hS => by (have q0 := hS.out; have q1 := t3; have q2 := k4; have q3 := hlk; rw [← q0] at q1 q2 q3; clear q0; go_simp; first | exact ⟨rfl, hS⟩ | exact rfl)) (fun K hK => ?_); go_simp; refine hK _ ?_; clear hK K) | (refine wpI_skip (by rfl) (fun K hK => ?_); go_simp; refine hK _ ?_; clear hK K))
        refine wpI_nil ?_; intro w' hS
        have hw4 := hS.out
        subst hw4
        clear hS H0 hlk t3 k4
      case' some b =>
        obtain ⟨hg, he0, hk0, hb0⟩ := HGG.out
        have hfe : (E.map absE).find? (fun e => decide (e.key = keyH x.h)) = some (absE e0) := absE_find H.out.keys he0 hk0
        have hex := addX_is (ent := ent) (byt := byt) (x := x) (ok := true) (.inl ⟨rfl, hfe⟩)
        have has : AS bt bm n1 nk b ent byt life E x true e0.v e0.ps e0.done e0.age w w' := by
          have h4 := H4.out
          refine ⟨h4.1.1, h4.1.2.1, h4.1.2.2.1, h4.2.1, ?_, h4.2.1.row e0 he0, h4.1.2.2.2.1, ⟨h4.2.2.1, h4.2.2.2⟩, .inl ⟨rfl, ?_⟩⟩
          · rw [← hb0]; exact h4.2.1.en e0 he0
          · rw [← hk0, ← hb0]; exact he0
        have hae : absE e0 = ⟨keyH x.h, e0.ps, e0.done, e0.age⟩ := by unfold absE; rw [hk0]
        rw [hae] at hex
        have HAS := Lib.hid has
        have HEX := Lib.hid hex
        clear has hex hae hfe hg he0 hk0 hb0 HGG
        obtain ⟨be, hbe⟩ : ∃ be, be = b := ⟨_, rfl⟩
        rw [← hbe] at HAS ⊢
        generalize e0.v = v at *
        generalize e0.ps = ps at *
        generalize e0.done = done at *
        generalize e0.age = age at *
        clear hbe
        go_upto_region 11 with (fail)
        refine Code.world fun W5 hW5 => ?_
        rw [← hW5] at HAS
        clear hW5
      case' none =>
        have hfe : (E.map absE).find? (fun e => decide (e.key = keyH x.h)) = none := absE_none HGG.out
        have hex := addX_is (ent := ent) (byt := byt) (x := x) (ok := false) (.inr ⟨rfl, hfe, rfl⟩)
        have has : ∀ W5, W5 = w'.alloc (.cells (enCells (.slice none 0 0) false 0) 72) → AS bt bm n1 nk w'.heap.size ent byt life E x false (.slice none 0 0) [] false 0 w W5 := by
          intro W5 hW5
          rw [hW5]
          have h4 := H4.out
          exact ⟨h4.1.1.alloc _, h4.1.2.1.alloc _, h4.1.2.2.1.alloc _, h4.2.1.keep' ((Fr.refl _ _).alloc _), Blk.new _ _ _, Row.nil _ _ _, h4.1.2.2.2.1.alloc _, ⟨h4.2.2.1, h4.2.2.2⟩, .inr ⟨rfl, by rw [h4.1.2.2.2.2]; omega, rfl, rfl, rfl, rfl, HGG.out⟩⟩
        have HAS0 := Lib.hid has
        have HEX := Lib.hid hex
        clear has hex hfe HGG
        go_upto_region 11 with (fail)
        refine Code.world fun W5 hW5 => ?_
        have HAS := Lib.hid (HAS0.out W5 hW5)
        clear hW5 HAS0
        generalize w'.heap.size = be at *
        obtain ⟨v, hv⟩ : ∃ v, v = Value.slice none 0 0 := ⟨_, rfl⟩
        obtain ⟨ps, hps⟩ : ∃ ps : List Pc, ps = [] := ⟨_, rfl⟩
        obtain ⟨done, hdone⟩ : ∃ done : Bool, done = false := ⟨_, rfl⟩
        obtain ⟨age, hage⟩ : ∃ age : Int, age = 0 := ⟨_, rfl⟩
        unfold newE at HEX
        rw [← hv, ← hps, ← hdone, ← hage] at HAS
        rw [← hps, ← hdone, ← hage] at HEX
        clear hv hps hdone hage
      all_goals
        clear H4
        have u1 : W5.cell? ⟨be, 1, none⟩ = some (.bool done) := HAS.out.en.cell 1
        have hwe : whyE ⟨keyH x.h, ps, done, age⟩ x = if done then 12 else if ps.any (likeP x) then 10 else if ps.any (fun o => !fitP x o) then 14 else 0 := rfl
        have HWE := Lib.hid hwe
        clear hwe
        cases hd : done
        case' true =>
          have hfin : addP ent byt (E.map absE) t = (E.map absE, ⟨#[]⟩, 12) := by rw [HA3.out, HEX.out, HWE.out, hd]; rfl
          have HFIN := Lib.hid hfin
          rw [hd] at u1
          clear hfin hd
          go_wp2_with fail
          go_ret2
          rw [HFIN.out]
          exact AddPost.same rfl H.out HAS.out.fr
        rw [hd] at u1
        have HD := Lib.hid hd
        clear hd
        go_wp2_with fail
        have hmf : ∀ (fn : Fn) (first cap : Array Value) (w : World), (Instr.makeFunc fn first cap).run Try.prog w = .ok (.func fn first cap) w := fun _ _ _ _ => rfl
        refine wp_region_keep (fun w' => Hid (AS bt bm n1 nk be ent byt life E x _ v ps done age w w')) (by kernel_rfl) (by kernel_rfl) (Lib.hid (HAS.out.trans (Fr.refl _ _).drew)) ?_
        clear HAS u1
        repeat (first | (refine wpI_one (by rfl) (fun w1 hS => by (have u0 : w1.cell? ⟨be, 0, none⟩ = some v := hS.out.en.cell 0; have q1 := hS.out.bp.cell; unfold ppCells at q1; go_simp; first | exact ⟨rfl, hS⟩ | exact rfl | (refine (pcfunc_any 32 #[ppV x] #[] (likeP x) ps _ _ hS.out.row ⟨plike_enters, fun W hW o ho => plike_any x o W⟩).mono ?_; rintro e w4 ⟨rfl, hf4⟩; exact ⟨rfl, Lib.hid (hS.out.trans hf4)⟩))) (fun K hK => ?_); go_simp; refine hK _ ?_; clear hK K) | (refine wpI_skip (by rfl) (fun K hK => ?_); go_simp; refine hK _ ?_; clear hK K))
        refine wpI_nil ?_; intro w' hS
        have HAS := hS
        clear hS
        cases hc1 : ps.any (likeP x)
        case' true =>
          have hfin : addP ent byt (E.map absE) t = (E.map absE, ⟨#[]⟩, 10) := by rw [HA3.out, HEX.out, HWE.out, HD.out, hc1]; rfl
          have HFIN := Lib.hid hfin
          clear hfin hc1
          go_wp2_with fail
          go_ret2
          rw [HFIN.out]
          exact AddPost.same rfl H.out HAS.out.fr
        have u0 : w'.cell? ⟨be, 0, none⟩ = some v := HAS.out.en.cell 0
        have HC1 := Lib.hid hc1
        clear hc1
        go_wp2_with fail
        refine (pcfunc_any 33 #[] #[.pointer (some ⟨n1 + 1, 0, none⟩)] (fun o => !fitP x o) ps _ _ HAS.out.row ⟨padda_enters, fun W hW o ho => padda_any x o (n1 + 1) W HA2.out.2.1 (HAS.out.oks o ho) (hW.cells HAS.out.bp.cell (by simp) (ppCells_size x))⟩).mono ?_
        rintro e w5 ⟨rfl, hf5⟩
        have HAS2 := Lib.hid (HAS.out.trans hf5)
        clear HAS hf5 u0
        cases hc2 : ps.any (fun o => !fitP x o)
        case' true =>
          have hfin : addP ent byt (E.map absE) t = (E.map absE, ⟨#[]⟩, 14) := by rw [HA3.out, HEX.out, HWE.out, HD.out, HC1.out, hc2]; rfl
          have HFIN := Lib.hid hfin
          clear hfin hc2
          go_wp2_with fail
          go_ret2
          rw [HFIN.out]
          exact AddPost.same rfl H.out HAS2.out.fr
        have hw0 : whyE ⟨keyH x.h, ps, done, age⟩ x = 0 := by rw [HWE.out, HD.out, HC1.out, hc2]; rfl
        rw [hw0] at HEX
        have HEX2 := Lib.hid HEX.out
        have hinv0 : InvP ps := by
          rcases HAS2.out.src with ⟨_, h9⟩ | ⟨_, _, _, h9, _⟩
          · exact H.out.inv _ h9
          · rw [h9]; exact InvP.nil
        have hpl : ps.length ≤ 1048577 := by
          have h8 := hinv0.length
          rcases HAS2.out.src with ⟨_, h9⟩ | ⟨_, _, _, h9, _⟩
          · have h7 := H.out.small
            have h6 : sumP ps ≤ sizeE E := by
              obtain ⟨A, B, hAB, _, _⟩ := split_key E H.out.keys h9
              rw [hAB, sizeE_append, sizeE_cons]; dsimp only; omega
            omega
          · rw [h9]; simp
        have HINV := Lib.hid (And.intro (hinv0.snoc HOD.out HC1.out hc2) hpl)
        clear hinv0 hpl HOD
        simp only [ne_eq, not_true_eq_false, if_false] at HEX2
        clear hw0 hc2 HC1 HWE HEX
        go_wp2_with fail
        have hlm : (E.map absE).length = E.length := List.length_map _
        have hsl : sizeL (E.map absE) = sizeE E := by simp [sizeL, sizeE, absE, Function.comp_def]
        have hsm := H.out.small
        have hxz : x.s.size ≤ 65535 := by have := HA2.out.2.2.2; omega
        have e3 : IntKind.i64.wrap ((sizeE E : Int) + (x.s.size : Int)) = (sizeE E : Int) + (x.s.size : Int) := by rw [IntKind.wrap_i64]; omega
        have HLS := Lib.hid (And.intro hlm hsl)
        clear hlm hsl
        refine wp_region_keep (fun w' => Hid (AS bt bm n1 nk be ent byt life E x _ v ps done age w w')) (by kernel_rfl) (by kernel_rfl) (Lib.hid (HAS2.out.trans (Fr.refl _ _).drew)) ?_
        clear HAS2
        cases hfb : decide (byt < (sizeE E : Int) + (x.s.size : Int))
        all_goals cases hfe : decide (ent ≤ (E.length : Int))
        all_goals
          repeat (first | (refine wpI_one (by rfl) (fun w1 hS => by (have u0 : w1.cell? ⟨bt, 0, none⟩ = some (.int .i64 ent) := hS.out.pt.tb.cell 0; have u1 : w1.cell? ⟨bt, 1, none⟩ = some (.int .i64 byt) := hS.out.pt.tb.cell 1; have u3 : w1.cell? ⟨bt, 3, none⟩ = some (.map (some bm)) := hS.out.pt.tb.cell 3; have u4 : w1.cell? ⟨bt, 4, none⟩ = some (.int .i64 (sizeE E)) := hS.out.pt.tb.cell 4; have ul := fun ty => hS.out.pt.mp.len ty; rw [show (mapE E).length = E.length from List.length_map _] at ul; go_simp; first | exact ⟨rfl, hS⟩ | exact rfl)) (fun K hK => ?_); go_simp; refine hK _ ?_; clear hK K) | (refine wpI_skip (by rfl) (fun K hK => ?_); go_simp; refine hK _ ?_; clear hK K))
          refine wpI_nil ?_; intro w' hS
          have HAS := hS
          clear hS
        all_goals obtain rfl : done = false := HD.out
        all_goals first
          | (have hfin : addP ent byt (E.map absE) t = (E.map absE, ⟨#[]⟩, 11) := by rw [HA3.out, HEX2.out, if_pos (by unfold fullX; rw [HLS.out.1, HLS.out.2, hfb, hfe]; rfl)]
             have HFIN := Lib.hid hfin
             clear hfin hfb hfe
             go_wp2_with fail
             go_ret2
             rw [HFIN.out]
             exact AddPost.same rfl H.out HAS.out.fr)
          | skip
        all_goals
          first
            | have hful : fullX ent byt (E.map absE) x true = false := by unfold fullX; rw [HLS.out.1, HLS.out.2, hfb, hfe]; rfl
              rw [hful] at HEX2
            | have hful : fullX ent byt (E.map absE) x false = false := by unfold fullX; rw [HLS.out.1, HLS.out.2, hfb, hfe]; rfl
              rw [hful] at HEX2
          have hadd := HA3.out.trans (HEX2.out.trans (if_neg Bool.false_ne_true))
          obtain ⟨W9, hW9⟩ : ∃ W9, W9 = w'.drew := ⟨_, rfl⟩
          have has9 := HAS.out.trans (Fr.refl [] w').drew
          rw [← hW9] at has9
          obtain ⟨W8, hrun, A, B, hbx, hbs⟩ := has9.enter H.out HA2.out.2.2.1 HA2.out.2.1 hful
          have HADD := Lib.hid hadd
          have HBX := Lib.hid hbx
          have HBS := Lib.hid hbs
          have k4 := HAS.out.bk.cell
          have t3 : w'.cell? ⟨bt, 3, none⟩ = some (.map (some bm)) := HAS.out.pt.tb.cell 3
          clear hful hadd hbx hbs hfb hfe HEX2 has9 HA3 HLS H HAS
          unfold keyV keyCells keyH at hrun
          unfold keyCells keyH at k4
          dsimp only at hrun k4
          go_wp2_with fail
          go_still_tail 6, (by kernel_rfl)
          change wpList _ _ _ _ _ (World.drew _)
          rw [← hW9]
          clear hW9 k4 t3
          have t8 : W8.cell? ⟨bt, 2 + 2, none⟩ = some (.int .i64 (sizeE E)) := HBS.out.px.tb.cell 4
          have z8 := HBS.out.px.tb.free 4
          go_wp2_with fail
          have h10 : ∀ W10, W10 = W8.setCell ⟨bt, 4, none⟩ (.int .i64 ((sizeE E : Int) + (x.s.size : Int))) → BS bt bm n1 ent byt life ((sizeE E : Int) + (x.s.size : Int)) E x A B ⟨keyH x.h, be, v, ps, false, age⟩ w W10 := by
            rintro _ rfl
            exact HBS.out.bytes ((Fr.refl _ _).setCell _ _ (.inl (by simp))) (HBS.out.px.tb.set_to 4 _ rfl)
          refine Code.world fun W10 hW10 => ?_
          have H10 := Lib.hid (h10 W10 hW10)
          clear hW10 h10 HBS t8 z8 hrun
          obtain ⟨A0, hA0⟩ : ∃ A0, A0 = W10.drew := ⟨_, rfl⟩
          have h11 := H10.out.keep (Fr.refl [] W10).drew
          rw [← hA0] at h11
          obtain ⟨A1, hA1⟩ : ∃ A1, A1 = A0.alloc (.cells (ppCells x) 74) := ⟨_, rfl⟩
          obtain ⟨i0, hi, hz0, hz1, hz2⟩ := info_parts infoPiece
          have hone : ∀ u ∈ (ppCells x).toList, u.oneCell' = true := by intro u hu; simp [ppCells] at hu; rcases hu with rfl | rfl | rfl | rfl | rfl | rfl | rfl | rfl | rfl | rfl | rfl | rfl <;> rfl
          have hpl := HINV.out.2
          have hown := (h11.px.row ⟨keyH x.h, be, v, ps, false, age⟩ (by simp)).2.alloc (.cells (ppCells x) 74)
          have hnews := World.news_of_block (Blk.new A0 (ppCells x) 74)
          rw [← hA1] at hown hnews
          obtain ⟨g, cap, A2, hrun2, hown', hgrow, hat, hlt⟩ := run_append_lies (P := Try.prog) A1 70 70 0 74 i0 _ 12 120 Try.underlying70 hi hz0 hz1 hz2 rfl (by decide) v _ _ hown ⟨A0.heap.size, 0, none⟩ 1 1 (ppCells x).toList rfl hnews hone (by decide) (by simp; unfold maxLen; omega) (by simp; omega) (Nat.zero_le _) (A0.heap.size + 1) (by rw [hA1]; simp)
          obtain ⟨L, hL⟩ : ∃ L, L = ps ++ [x] := ⟨_, rfl⟩
          have hln : (ps.map ppCells).length + 1 = L.length := by rw [hL]; simp
          rw [hln] at hown' hrun2
          rw [hL] at hown'
          rw [hA1] at hgrow
          obtain ⟨hb12, hp12, h13⟩ := h11.app (by simpa using hown') hgrow (by simpa using hat)
          rw [← hL] at h13
          have hpl2 : L.length < 4611686018427387904 := by simp at hln; omega
          obtain ⟨A3, hA3⟩ : ∃ A3, A3 = A2.setCell ⟨be, 0, none⟩ (.slice (some ⟨g, 0, none⟩) L.length cap) := ⟨_, rfl⟩
          rw [← hA3] at h13
          have hen0 := h11.px.en ⟨keyH x.h, be, v, ps, false, age⟩ (by simp)
          have hb0 : ∀ n, n ≤ 2 → ∀ W, W = ([A0, A1, A2, A3] : List World).getD n A0 → Blk W be (enCells v false age) 72 ∧ Blk W (n1 + 1) (ppCells x) 74 := by
            intro n hn W hW
            have : n = 0 ∨ n = 1 ∨ n = 2 := by omega
            rcases this with rfl | rfl | rfl
            · rw [hW]; exact ⟨hen0, h11.bp⟩
            · rw [hW, show ([A0, A1, A2, A3] : List World).getD 1 A0 = A1 from rfl, hA1]; exact ⟨hen0.alloc _, h11.bp.alloc _⟩
            · rw [hW]; exact ⟨hb12, hp12⟩
          have HB0 := Lib.hid hb0
          have H13 := Lib.hid h13
          have HP2 := Lib.hid hpl2
          have HL := Lib.hid hL
          have HIL := Lib.hid (show InvP L by rw [hL]; exact HINV.out.1)
          have HA0 := Lib.hid hA0
          have HA1 := Lib.hid hA1
          have HA3' := Lib.hid hA3
          have HR2 := Lib.hid hrun2
          clear hb0 hen0 h13 hpl2 hA0 hA1 hA3 hL hb12 hp12 hown' hgrow hat hlt hln hnews hown hpl hone hi hz0 hz1 hz2 h11 hrun2 H10 HINV
          refine wp_region_stages [6, 7, 10] (fun n w' => Hid (w' = ([A0, A1, A2, A3] : List World).getD n A0)) (by kernel_rfl) (by kernel_rfl) (by rfl) (Lib.hid HA0.out.symm) ?_
          repeat (refine wpF_still 3 (by rfl) (by rfl) (by rfl) (by rfl) (fun n w1 hn hS => by (go_simp; first | exact ⟨rfl, hS⟩ | exact rfl)) (fun K hK => ?_); go_simp; refine hK _ ?_; clear hK K)
          repeat (refine wpF_still 1 (by rfl) (by rfl) (by rfl) (by rfl) (fun n w1 hn hS => by (obtain ⟨hq1, hq2⟩ := HB0.out n (by omega) w1 hS.out; have q1 : w1.cell? ⟨be, 0, none⟩ = some v := hq1.cell 0; have q2 := hq2.cell; unfold ppCells at q2; clear hq1 hq2; go_simp; first | exact ⟨rfl, hS⟩ | exact rfl)) (fun K hK => ?_); go_simp; refine hK _ ?_; clear hK K)
          repeat (refine wpF_still 0 (by rfl) (by rfl) (by rfl) (by rfl) (fun n w1 hn hS => by (obtain ⟨hq1, hq2⟩ := HB0.out n (by omega) w1 hS.out; have q1 : w1.cell? ⟨be, 0, none⟩ = some v := hq1.cell 0; have q2 := hq2.cell; unfold ppCells at q2; clear hq1 hq2; go_simp; first | exact ⟨rfl, hS⟩ | exact rfl)) (fun K hK => ?_); go_simp; refine hK _ ?_; clear hK K)
          (refine wpF_turn [] [7, 10] rfl (by rfl) (by rfl) (by rfl) (by rfl) (fun w1 hS => by (have hq : w1 = A0 := hS.out; rw [hq]; go_simp; exact ⟨rfl, Lib.hid HA1.out.symm⟩)) (fun K hK => ?_); go_simp; refine hK _ ?_; clear hK K)
          (refine wpF_turn [6] [10] rfl (by rfl) (by rfl) (by rfl) (by rfl) (fun w1 hS => by (have hq : w1 = A1 := hS.out; rw [hq]; exact runs_append (by rfl) (by rfl) (by rfl) HR2.out (Lib.hid rfl))) (fun K hK => ?_); go_simp; refine hK _ ?_; clear hK K)
          repeat (refine wpF_still 3 (by rfl) (by rfl) (by rfl) (by rfl) (fun n w1 hn hS => by (go_simp; first | exact ⟨rfl, hS⟩ | exact rfl)) (fun K hK => ?_); go_simp; refine hK _ ?_; clear hK K)
          (refine wpF_turn [6, 7] [] rfl (by rfl) (by rfl) (by rfl) (by rfl) (fun w1 hS => by (have hq : w1 = A2 := hS.out; rw [hq]; obtain ⟨hq1, hq2⟩ := HB0.out 2 (by omega) A2 rfl; have q1 : A2.cell? ⟨be, 0, none⟩ = some v := hq1.cell 0; have q2 := hq1.free 0; go_simp; exact ⟨rfl, Lib.hid HA3'.out.symm⟩)) (fun K hK => ?_); go_simp; refine hK _ ?_; clear hK K)
          refine wpF_nil ?_; intro w' hS
          obtain ⟨W13, hW13⟩ : ∃ W13, W13 = w' := ⟨_, rfl⟩
          have hq3 : w' = A3 := hS.out
          have h13 := H13.out
          rw [← hq3, ← hW13] at h13
          rw [← hW13]
          clear hS HB0 HR2 HA0 HA1 HA3' hq3 hW13 H13
          have v13 : W13.cell? ⟨be, 0, none⟩ = some (.slice (some ⟨g, 0, none⟩) L.length cap) := (h13.px.en ⟨keyH x.h, be, .slice (some ⟨g, 0, none⟩) L.length cap, L, false, age⟩ (by simp)).cell 0
          have H13 := Lib.hid h13
          clear h13
          go_wp2_with fail
          refine (psort_any g cap L W13 (H13.out.px.row ⟨keyH x.h, be, .slice (some ⟨g, 0, none⟩) L.length cap, L, false, age⟩ (by simp)) HP2.out).mono ?_
          rintro e w14 ⟨rfl, hr14, hf14⟩
          have H14 := Lib.hid (H13.out.sorted hr14 hf14)
          clear hr14 hf14 H13 v13
          have hio : InvP (sortP L) := HIL.out.perm (sortP_perm _)
          have hoo : ∀ p ∈ sortP L, p.ok := by
            intro p hp
            have hp2 := (sortP_perm _).subset hp
            rw [HL.out] at hp2
            rcases List.mem_append.1 hp2 with hp | hp
            · exact HBX.out.ok ⟨keyH x.h, be, v, ps, false, age⟩ (by simp) p hp
            · simp at hp; subst hp; exact HA2.out.2.1
          have HIO := Lib.hid (And.intro hio hoo)
          clear hio hoo
          go_wp2_with fail
          refine (pwhole_any be _ false age (sortP L) w14 (H14.out.px.en ⟨keyH x.h, be, .slice (some ⟨g, 0, none⟩) L.length cap, sortP L, false, age⟩ (by simp)) (H14.out.px.row ⟨keyH x.h, be, .slice (some ⟨g, 0, none⟩) L.length cap, sortP L, false, age⟩ (by simp)) HIO.out.2).mono ?_
          rintro e w15 ⟨rfl, hf15⟩
          have H15 := Lib.hid (H14.out.keep hf15)
          clear hf15 H14
          have hsz := HBX.out.size
          have hrm := HBX.out.room
          have hby := HBX.out.sb
          have hsp : sumP (sortP L) = sumP ps + x.s.size := by rw [sumP_perm (sortP_perm _), HL.out, sumP_append]; simp [sumP]
          rw [sizeE_append, sizeE_cons] at hsz
          dsimp only at hsz
          have HSZ := Lib.hid (And.intro hsz (And.intro hrm (And.intro hby hsp)))
          clear hsz hrm hby hsp
          cases hwh : wholeP (sortP L)
          case' false =>
            have htl : tellE ⟨keyH x.h, ps, false, age⟩ x = (⟨#[]⟩, 10) := by unfold tellE; dsimp only; rw [← HL.out, if_neg (by rw [hwh]; exact Bool.false_ne_true)]
            have hpu : (⟨keyH x.h, sortP L, false, age⟩ : Ent) = putE ⟨keyH x.h, ps, false, age⟩ x := by unfold putE; dsimp only; rw [← HL.out, if_neg (by rw [hwh]; exact Bool.false_ne_true)]
            have HTL := Lib.hid (And.intro htl hpu)
            clear htl hpu hwh
            go_wp2_with fail
            go_ret2
            obtain ⟨h1, h2, h3, h4⟩ := HSZ.out
            have hse : (sizeE (A ++ (⟨keyH x.h, be, .slice (some ⟨g, 0, none⟩) L.length cap, sortP L, false, age⟩ : PEn) :: B) : Int) = (sizeE E : Int) + (x.s.size : Int) := by
              rw [sizeE_append, sizeE_cons]; dsimp only; omega
            exact H15.out.done HBX.out HTL.out.2 rfl HIO.out.2 HIO.out.1 rfl hse.symm (by rw [hse]; exact h2) HADD.out (by show _ = Ending.returned (.tuple #[.string (tellE ⟨keyH x.h, ps, false, age⟩ x).1, .int .i64 (tellE ⟨keyH x.h, ps, false, age⟩ x).2]); rw [HTL.out.1]; rfl)
          have hwt : tellE ⟨keyH x.h, ps, false, age⟩ x = madeP (sortP L) := by unfold tellE; dsimp only; rw [← HL.out, if_pos hwh]
          have hpu : (⟨keyH x.h, [], true, age⟩ : Ent) = putE ⟨keyH x.h, ps, false, age⟩ x := by unfold putE; dsimp only; rw [← HL.out, if_pos hwh]
          have HTL := Lib.hid (And.intro hwt hpu)
          clear hwt hpu hwh
          go_wp2_with fail
          obtain ⟨h1, h2, h3, h4⟩ := HSZ.out
          have hap := H15.out.apart
          refine (pfinish_made bt be bm ent byt life ((sizeE E : Int) + (x.s.size : Int)) _ false age (sortP L) w15 H15.out.px.tb (H15.out.px.en ⟨keyH x.h, be, .slice (some ⟨g, 0, none⟩) L.length cap, sortP L, false, age⟩ (by simp)) (H15.out.px.row ⟨keyH x.h, be, .slice (some ⟨g, 0, none⟩) L.length cap, sortP L, false, age⟩ (by simp)) hap.1.symm hap.2
            (by intro e9; have h9 := (sortP_perm L).length_eq; rw [e9, HL.out] at h9; simp at h9) HIO.out.2 (by omega) (by omega)).mono ?_
          clear h1 h2 h3 h4 hap
          rintro e w16 ⟨rfl, ht16, he16, hf16⟩
          have H16 := Lib.hid (H15.out.finished ht16 he16 hf16)
          clear ht16 he16 hf16 H15
          go_wp2_with fail
          go_ret2
          obtain ⟨h1, h2, h3, h4⟩ := HSZ.out
          have hse : (sizeE (A ++ (⟨keyH x.h, be, .slice none 0 0, [], true, age⟩ : PEn) :: B) : Int) = (sizeE E : Int) + (x.s.size : Int) - (sumP (sortP L) : Int) := by
            rw [sizeE_append, sizeE_cons]; simp only [sumP, List.map_nil, List.sum_nil] at h4 h1 ⊢; omega
          exact H16.out.done HBX.out HTL.out.2 rfl (by simp) InvP.nil rfl hse.symm (by rw [hse]; omega) HADD.out (by show _ = Ending.returned (.tuple #[.string (tellE ⟨keyH x.h, ps, false, age⟩ x).1, .int .i64 (tellE ⟨keyH x.h, ps, false, age⟩ x).2]); rw [HTL.out.1]; rfl)
    · have ha3 : addP ent byt (E.map absE) t = (E.map absE, ⟨#[]⟩, 4) := by rw [HA2.out.1, hod]; rfl
      have HA3 := Lib.hid ha3
      clear ha3
      go_wp2_with fail
      go_ret2
      rw [HA3.out]
      exact AddPost.same rfl H.out HB.out.2.2.1
  · have d1 : ((f : Int) != 0) = true := by simp; omega
    have ha2 : addP ent byt (E.map absE) t = (E.map absE, ⟨#[]⟩, f) := by rw [HA.out.1, if_pos hf]
    have HA2 := Lib.hid ha2
    clear ha2 hf HA
    go_wp2_with fail
    go_ret2
    rw [HA2.out]
    exact AddPost.same rfl H.out ((hf1.alloc _).alloc _)
end Go.Proofs.Ytlgjhacmhkbkdaa
