/- reasm: finish. -/
import Derived.Test.YtlgjhacmhkbkdaaRsm3
import Derived.Test.YtlgjhacmhkbkdaaIp4Put2
import Derived.StillTailTactics
namespace Go.Proofs.Ytlgjhacmhkbkdaa
open Go.RowKit

/-- The table's cells: its store, its map, its bytes. -/
def tbCells (ent byt life : Int) (bm : Nat) (tot : Int) : Array Value := #[.int .i64 ent, .int .i64 byt, .int .i64 life, .map (some bm), .int .i64 tot]

/-- The state in finish. -/
structure Fe (bt be b bm hH : Nat) (ent byt life tot : Int) (age : Int) (h : Hdr) (vb : Value) (bs : List Value) (w : World) (u : Bool) (W : World) : Prop where
  hd : Blk W hH (hdrCells h) 43
  tb : Blk W bt (tbCells ent byt life bm tot) 65
  en : Blk W be (enCells (.slice none 0 0) true age) 72
  fr : Fr [bt, be] w W
  bd : u = false → Bs b vb bs W

structure Fi (bt be b bm : Nat) (ent byt life tot : Int) (v : Value) (done : Bool) (age : Int) (l : List Pc) (vb : Value) (bs : List Value) (w W : World) : Prop where
  tb : Blk W bt (tbCells ent byt life bm tot) 65
  en : Blk W be (enCells v done age) 72
  row : Row W 74 12 v (l.map ppCells)
  bd : Bs b vb bs W
  fr : Fr [bt] w W

/-- All payloads. -/
def allB (l : List Pc) : List UInt8 := l.flatMap fun p => p.s.data.toList

theorem strCells_data (s : ByteArray) : Lib.strCells s = Lib.byteCells s.data.toList := rfl

def sumP (l : List Pc) : Nat := (l.map fun p => p.s.size).sum

theorem sumP_take (l : List Pc) (k : Nat) (h : k < l.length) : sumP (l.take (k + 1)) = sumP (l.take k) + l[k].s.size := by
  unfold sumP
  rw [List.take_succ_eq_append_getElem h]; simp only [List.map_append, List.sum_append, List.map_cons, List.map_nil, List.sum_cons, List.sum_nil, Nat.add_zero]

theorem allB_take (l : List Pc) (k : Nat) (h : k < l.length) : Lib.byteCells (allB (l.take k)) ++ Lib.strCells l[k].s = Lib.byteCells (allB (l.take (k + 1))) := by
  unfold allB
  rw [List.take_succ_eq_append_getElem h, strCells_data]
  simp only [Lib.byteCells, List.flatMap_append, List.map_append, List.flatMap_cons, List.flatMap_nil, List.append_nil]

theorem allB_length (l : List Pc) : (allB l).length = sumP l := by
  unfold allB sumP
  rw [List.length_flatMap]
  congr 1

theorem sumP_take_le (l : List Pc) (k : Nat) : sumP (l.take k) ≤ sumP l := by
  have : ∀ (m : List Nat) (k : Nat), (m.take k).sum ≤ m.sum := by
    intro m
    induction m with
    | nil => simp
    | cons x r ih => intro k; cases k with
      | zero => simp
      | succ k => have := ih k; simp; omega
  unfold sumP; rw [List.map_take]; exact this _ _

set_option maxRecDepth 100000 in
set_option maxHeartbeats 4000000 in
theorem pfinish_any (bt be bm : Nat) (ent byt life tot : Int) (v : Value) (done : Bool) (age : Int) (l : List Pc) (w : World)
    (htb : Blk w bt (tbCells ent byt life bm tot) 65) (hen : Blk w be (enCells v done age) 72) (hrow : Row w 74 12 v (l.map ppCells))
    (hne : bt ≠ be) (hnv : ∀ g, v.ownBlock = some g → g ≠ bt ∧ g ≠ be) (hl : l ≠ []) (hok : ∀ p ∈ l, p.ok) (ht0 : (sumP l : Int) ≤ tot) (ht1 : tot ≤ 1048576) :
    Calls Try.prog 39 #[.pointer (some ⟨bt, 0, none⟩), .pointer (some ⟨be, 0, none⟩)] w fun e w' =>
      e = .returned (.tuple #[.string (ip4put { (l.headD ⟨Hdr.zero, ⟨#[]⟩⟩).h with mf := false } ⟨(allB l).toArray⟩).1, .int .i64 (ip4put { (l.headD ⟨Hdr.zero, ⟨#[]⟩⟩).h with mf := false } ⟨(allB l).toArray⟩).2]) ∧
      Blk w' bt (tbCells ent byt life bm (tot - sumP l)) 65 ∧ Blk w' be (enCells (.slice none 0 0) true age) 72 ∧ Fr [bt, be] w w' := by
  obtain ⟨a, cp, rfl, hcl, hcm⟩ := hrow.shape
  rw [List.length_map] at *
  unfold maxLen at hcm
  have hn : 0 < l.length := List.length_pos_iff.2 hl
  obtain ⟨gb, rfl, hgb⟩ := hrow.at hn
  have hgb1 := hnv gb rfl
  obtain ⟨b, hb⟩ : ∃ b, b = w.heap.size := ⟨_, rfl⟩
  have lt1 := htb.lt
  have lt2 := hen.lt
  have e0 : w.cell? ⟨be, 0, none⟩ = some (.slice (some ⟨gb, 0, none⟩) l.length cp) := hen.cell 0
  have e0' : ∀ o, (w.alloc o).cell? ⟨be, 0, none⟩ = some (.slice (some ⟨gb, 0, none⟩) l.length cp) := fun o => (hen.alloc o).cell 0
  have HNE := Lib.hid hne
  have h0 : ∀ W, W = w.alloc (.cells #[.pointer none, .slice none 0 0] 115) → Fi bt be b bm ent byt life tot (.slice (some ⟨gb, 0, none⟩) l.length cp) done age l (.slice none 0 0) [] w W := by
    intro W hW
    rw [hW, hb]
    exact ⟨htb.alloc _, hen.alloc _, hrow.keep' ((Fr.refl _ _).alloc _), Bs.fresh w, (Fr.refl _ _).alloc _⟩
  have H0 := Lib.hid h0
  have HOK := Lib.hid hok
  have HL := Lib.hid hl
  clear htb hen hrow h0 hok hnv hne hl
  go_enter Try.func39, Try.ntmps39
  go_wp2_with fail
  rw [← hb]
  have HB := Lib.hid hb
  clear hb
  go_loopw [15] (fun x wr => ∃ k : Nat, k ≤ l.length ∧ x = .int .i64 k ∧ Hid (∃ vb, Fi bt be b bm ent byt life (tot - sumP (l.take k)) (.slice (some ⟨gb, 0, none⟩) l.length cp) done age l vb (Lib.byteCells (allB (l.take k))) w wr)) (fun x _ => l.length - (intOf x).toNat)
  case atStart =>
    refine ⟨0, by omega, rfl, .slice none 0 0, ?_⟩
    have := H0.out _ rfl
    simpa [sumP, allB, Lib.byteCells] using this
  case round =>
    clear H0 e0 e0'
    obtain ⟨k, hk, rfl, HS⟩ := hrel
    obtain ⟨vb, hs⟩ := HS.out
    have hst := sumP_take_le l k
    have hal := allB_length (l.take k)
    obtain ⟨tk, htk⟩ : ∃ tk, tk = tot - (sumP (l.take k) : Int) := ⟨_, rfl⟩
    rw [← htk] at hs
    have hk0 : 0 ≤ tk := by omega
    have hk1 : tk ≤ 1048576 := by omega
    have HS1 := Lib.hid hs
    clear HS
    by_cases hlt : k < l.length
    · obtain ⟨q0, q1, q2, q3, q4, q5, q6, q7, q8, q9, q10, q11⟩ := prow_cells hs.row k hlt
      have hpo := HOK.out l[k] (List.getElem_mem hlt)
      have hsn := sumP_take l k hlt
      have hsn2 := sumP_take_le l (k + 1)
      have hat := allB_take l k hlt
      obtain ⟨p, hp⟩ : ∃ p, p = l[k]'hlt := ⟨_, rfl⟩
      rw [← hp] at q0 q1 q2 q3 q4 q5 q6 q7 q8 q9 q10 q11 hpo hsn hat
      have hbs := hs.bd
      have hbf := hbs.foot_lt
      have hps := hpo.sz
      have hk2 : (p.s.size : Int) ≤ tk := by omega
      have HEQ := Lib.hid (And.intro htk (And.intro hsn hat))
      clear hp hs htk hsn hat
      go_wp2_with fail
      refine (bwstr_any b vb _ p.s _ (hbs.keep ((Fr.refl [] _).alloc _) (by simp)) ?_).mono ?_
      · rw [Lib.byteCells_length, hal]; omega
      rintro e w4 ⟨rfl, hb4, hf4⟩
      have hbx : Blk w4 wr.heap.size (ppCells p) 74 := hf4.keep (Blk.new wr (ppCells p) 74) (fun hm => by have := hbf _ hm; omega)
      have htb4 : Blk w4 bt (tbCells ent byt life bm tk) 65 := hf4.keep (HS1.out.tb.alloc _) (fun hm => by have := hbf _ hm; have := HB.out; omega)
      have hen4 : Blk w4 be (enCells (.slice (some ⟨gb, 0, none⟩) l.length cp) done age) 72 := hf4.keep (HS1.out.en.alloc _) (fun hm => by have := hbf _ hm; have := HB.out; omega)
      have hrow4 : Row w4 74 12 (.slice (some ⟨gb, 0, none⟩) l.length cp) (l.map ppCells) := (HS1.out.row.keep' ((Fr.refl _ _).alloc _)).keep hf4 (fun g hg hm => by have e : gb = g := (by simpa [Value.ownBlock] using hg); have := hbf _ hm; have := HB.out; omega)
      have hfr4 : Fr [bt] w w4 := (HS1.out.fr.alloc _).trans' hf4 (fun i hi => by have := hbf _ hi; have := HB.out; right; omega)
      have c11 : w4.cell? ⟨wr.heap.size, 11, none⟩ = some (.string p.s) := hbx.cell 11
      have t4 : w4.cell? ⟨bt, 4, none⟩ = some (.int .i64 tk) := htb4.cell 4
      have z4 := htb4.free 4
      have e1 : IntKind.i64.wrap (tk - (p.s.size : Int)) = tk - (p.s.size : Int) := by rw [IntKind.wrap_i64]; omega
      rw [HEQ.out.2.2] at hb4
      have H4 := Lib.hid (And.intro hb4 (And.intro htb4 (And.intro hen4 (And.intro hrow4 hfr4))))
      clear hbx htb4 hen4 hrow4 hfr4 hf4 hb4 hbs
      go_wp2_with fail
      go_still_tail 10, (by kernel_rfl)
      change wpList _ _ _ _ _ w4.drew
      have H5 := Lib.hid (And.intro (H4.out.1.imp fun v' h => h.keep (Fr.refl [] w4).drew (by simp)) (And.intro H4.out.2.1.drew (And.intro H4.out.2.2.1.drew (And.intro (H4.out.2.2.2.1.keep' (Fr.refl [] w4).drew) H4.out.2.2.2.2.drew))))
      clear H4
      generalize w4.drew = W1 at H5 ⊢
      have t5 : W1.cell? ⟨bt, 4, none⟩ = some (.int .i64 tk) := H5.out.2.1.cell 4
      have z5 := H5.out.2.1.free 4
      go_wp2_with fail
      refine ⟨⟨k + 1, by omega, by go_num, ?_⟩, by simp [intOf]; omega⟩
      obtain ⟨⟨v', g1⟩, g2, g3, g4, g5⟩ := H5.out
      have e9 : tot - (sumP (l.take (k + 1)) : Int) = tk - (p.s.size : Int) := by have := HEQ.out; omega
      rw [e9]
      have hF : Fr [bt] W1 (W1.setCell ⟨bt, 4, none⟩ (.int .i64 (tk - (p.s.size : Int)))) := (Fr.refl _ _).setCell _ _ (.inl (by simp))
      have hbt : bt < b := by have := HB.out; omega
      refine ⟨v', g2.set_to 4 _ rfl, hF.keep g3 (by simp; exact fun e => HNE.out e.symm), g4.keep hF (fun g hg => ?_), g1.keep hF (fun g hg => ?_), g5.trans hF⟩
      · have e : gb = g := (by simpa [Value.ownBlock] using hg)
        subst e; simp; exact hgb1.1
      · have := g1.foot_lt g hg; simp; omega
    · have hke : k = l.length := by omega
      subst hke
      rw [List.take_length] at *
      have hx : ∃ x, l.headD ⟨Hdr.zero, ⟨#[]⟩⟩ = x ∧ l[0]'hn = x := ⟨l[0]'hn, by cases l with | nil => simp at hn | cons a r => rfl, rfl⟩
      obtain ⟨x, hx1, hx2⟩ := hx
      have hxo : x.ok := by rw [← hx2]; exact HOK.out _ (List.getElem_mem hn)
      obtain ⟨q0, q1, q2, q3, q4, q5, q6, q7, q8, q9, q10, q11⟩ := prow_cells HS1.out.row 0 hn
      rw [hx2] at q0 q1 q2 q3 q4 q5 q6 q7 q8 q9 q10 q11
      simp only [Nat.zero_mul, Nat.zero_add] at q0 q1 q2 q3 q4 q5 q6 q7 q8 q9 q10 q11
      have k0 : wr.cell? ⟨be, 0, none⟩ = some (.slice (some ⟨gb, 0, none⟩) l.length cp) := HS1.out.en.cell 0
      have k0' : ∀ o, (wr.alloc o).cell? ⟨be, 0, none⟩ = some (.slice (some ⟨gb, 0, none⟩) l.length cp) := fun o => (HS1.out.en.alloc o).cell 0
      have k1 : ∀ o, (wr.alloc o).cell? ⟨be, 1, none⟩ = some (.bool done) := fun o => (HS1.out.en.alloc o).cell 1
      have z0 := fun o => (HS1.out.en.alloc o).free
      have HX := Lib.hid hx1
      have HTK := Lib.hid htk
      have lt3 := HS1.out.bd.lt
      have lt4 := HS1.out.fr.size
      have lt5 : b = w.heap.size := HB.out
      have n1 : ¬ be = wr.heap.size := by omega
      have n2 : ¬ wr.heap.size = be := by omega
      have n3 : (0 : Int) < (l.length : Int) := by omega
      have HLT := Lib.hid lt5
      clear hx1 hx2 htk lt5
      go_upto_region 11 with (fail)
      refine Code.world fun W0 hW => ?_
      have hfe : Fe bt be b bm wr.heap.size ent byt life (tot - (sumP l : Int)) age { x.h with mf := false } vb (Lib.byteCells (allB l)) w false W0 := by
        have hA : Fr [bt, be] wr (wr.alloc (.cells (hdrCells { x.h with mf := false }) 43)) := (Fr.refl _ _).alloc _
        have hB : Fr [be] (wr.alloc (.cells (hdrCells { x.h with mf := false }) 43)) W0 := by rw [hW]; exact ((Fr.refl _ _).setCell _ _ (.inl (by simp))).setCell _ _ (.inl (by simp))
        have lb : b = w.heap.size := HLT.out
        refine ⟨hB.keep (Blk.new wr _ _) (by simp; omega), ?_, ?_, ?_, fun _ => ?_⟩
        · rw [← HTK.out]; exact hB.keep (HS1.out.tb.alloc _) (by simp; exact HNE.out)
        · rw [hW]; exact (((HS1.out.en.alloc _).set_to 0 _ rfl).set_to 1 _ rfl)
        · exact ((HS1.out.fr.mono (by intro i hi; simp at hi; simp [hi])).trans hA).trans (hB.mono (by intro i hi; simp at hi; simp [hi]))
        · exact (HS1.out.bd.keep ((Fr.refl [] wr).alloc _) (by simp)).keep hB (fun g hg => by have := HS1.out.bd.foot_lt g hg; simp; omega)
      have hsz : (allB l).length ≤ 1048576 := by omega
      have HSZ := Lib.hid (And.intro hsz hxo)
      have HFE := Lib.hid hfe
      have HFT0 := Lib.hid (HS1.out.bd.foot_lt)
      clear hW hfe hsz hxo HS1 hs q0 q1 q2 q3 q4 q5 q6 q7 q8 q9 q10 q11 k0 k0' k1 z0 n1 n2 hst hal
      have hft := HFT0.out
      generalize wr.heap.size = hH at *
      have HFT := Lib.hid hft
      clear hft
      refine wp_region_inv (fun u w' => Hid (Fe bt be b bm hH ent byt life (tot - (sumP l : Int)) age { x.h with mf := false } vb (Lib.byteCells (allB l)) w u w')) 1 (by kernel_rfl) (by kernel_rfl) ?_ ?_
      · obtain ⟨g1, g2, g3, g4, g5⟩ := HFE.out
        exact ⟨g1.drew, g2.drew, g3.drew, g4.drew, fun h => (g5 h).keep (Fr.refl [] _).drew (by simp)⟩
      clear HFE
      repeat (first | (refine wpI_same (by rfl) (by rfl) (fun b w1 hS => by (have q := hS.out.hd.cell; simp only [hdrCells] at q; go_simp; first | exact ⟨rfl, hS⟩ | exact rfl)) (fun K hK => ?_); go_simp; refine hK _ ?_; clear hK K) | (refine wpI_pass (by rfl) (by rfl) (fun K hK => ?_); go_simp; refine hK _ ?_; clear hK K))
      (refine wpI_turn (by rfl) (by rfl) (fun w1 hS => by ((go_simp; refine (bbstr_any b vb (allB l) w1 (hS.out.bd rfl)).mono ?_; rintro e w4 ⟨rfl, hf4⟩; refine ⟨rfl, Lib.hid ?_⟩; obtain ⟨g1, g2, g3, g4, g5⟩ := hS.out; have lb : b = w.heap.size := HLT.out; exact ⟨hf4.keep g1 (fun hm => by have := HFT.out _ hm; omega), hf4.keep g2 (fun hm => by have := HFT.out _ hm; omega), hf4.keep g3 (fun hm => by have := HFT.out _ hm; omega), g4.trans' hf4 (fun i hi => by have := HFT.out _ hi; right; omega), fun h => by cases h⟩))) (fun K hK => ?_); go_simp; refine hK _ ?_; clear hK K)
      repeat (first | (refine wpI_same (by rfl) (by rfl) (fun b w1 hS => by (go_simp; first | exact ⟨rfl, hS⟩ | exact rfl | (refine (ip4put_any { x.h with mf := false } ⟨(allB l).toArray⟩ _ (by have := HSZ.out.2.ss; show x.h.src.size ≤ _; omega) (by have := HSZ.out.2.sd; show x.h.dst.size ≤ _; omega) (by have := HSZ.out.2.so; show x.h.opts.size ≤ _; omega) (by show (allB l).toArray.size ≤ _; rw [List.size_toArray]; have := HSZ.out.1; omega)).mono ?_; rintro e w4 ⟨rfl, hf4⟩; refine ⟨rfl, Lib.hid ?_⟩; obtain ⟨g1, g2, g3, g4, g5⟩ := hS.out; exact ⟨hf4.keep g1 (by simp), hf4.keep g2 (by simp), hf4.keep g3 (by simp), g4.trans hf4.nil, fun h => (g5 h).keep hf4 (by simp)⟩))) (fun K hK => ?_); go_simp; refine hK _ ?_; clear hK K) | (refine wpI_pass (by rfl) (by rfl) (fun K hK => ?_); go_simp; refine hK _ ?_; clear hK K))
      refine wpI_nil ?_
      intro w' hS'
      simp only [List.length_cons, List.length_nil] at hS'
      go_wp2_with fail
      go_ret2
      obtain ⟨g1, g2, g3, g4, g5⟩ := hS'.out
      exact ⟨by rw [HX.out]; rfl, g2, g3, g4⟩
end Go.Proofs.Ytlgjhacmhkbkdaa
