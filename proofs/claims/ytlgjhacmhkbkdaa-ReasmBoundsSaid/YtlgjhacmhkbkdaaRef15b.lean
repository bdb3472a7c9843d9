/- ref15: Cut, the walk. -/
import Derived.Test.YtlgjhacmhkbkdaaRef15a
import Derived.Test.YtlgjhacmhkbkdaaRsm8
import Derived.Test.YtlgjhacmhkbkdaaRefPut
import Derived.Deep.AppendLies
namespace Go.Proofs.Ytlgjhacmhkbkdaa
open Go.RowKit

theorem infoString : (Try.prog.info? 9).map (fun i => (i.zero, i.size, i.bytes)) = some (some (.string ⟨#[]⟩), 1, 16) := by kernel_rfl

/-- What Cut leaves. -/
def CutPost (c : List ByteArray × Nat) (w : World) (e : Ending) (w' : World) : Prop :=
  ∃ v, e = .returned (.tuple #[v, .int .i64 c.2]) ∧ Row w' 9 1 v (c.1.map strC) ∧ (∀ g, v.ownBlock = some g → w.heap.size ≤ g) ∧ Fr [] w w'

theorem CutPost.err {c : List ByteArray × Nat} {n : Nat} {w W : World} (hc : c = ([], n)) (hf : Fr [] w W) : CutPost c w (.returned (.tuple #[.slice none 0 0, .int .i64 n])) W := by
  subst hc
  exact ⟨_, rfl, Row.nil _ _ _, fun g hg => (by cases hg), hf⟩

/-- A row of one text. -/
theorem Row.one (w : World) (p : ByteArray) : Row (w.alloc (.cells #[.string p] 9)) 9 1 (.slice (some ⟨w.heap.size, 0, none⟩) 1 1) ([p].map strC) :=
  ⟨by simp [strC], World.ownsRow_lit (base := 0) (e := 9) (size := 1) w #[.string p] 1 (Nat.zero_le _) (by unfold maxLen; omega) rfl⟩

def hdrO (h : Hdr) (ox : Int) (b : Bool) : Hdr := { h with off := ox, mf := b }

/-- While it is cut. -/
structure CS (h : Hdr) (s : ByteArray) (n k N X : Nat) (ox : Int) (b : Bool) (v : Value) (w W : World) : Prop where
  bh : Blk W N (hdrCells h) 43
  bx : Blk W X (hdrCells (hdrO h ox b)) 43
  row : Row W 9 1 v (((List.range k).map (pieceR h s n)).map strC)
  own : ∀ g, v.ownBlock = some g → X < g
  fr : Fr [] w W
  lt : w.heap.size ≤ N ∧ N < X

theorem CS.trans {h : Hdr} {s : ByteArray} {n k N X : Nat} {ox : Int} {b : Bool} {v : Value} {w W W' : World} (c : CS h s n k N X ox b v w W) (hf : Fr [] W W') : CS h s n k N X ox b v w W' :=
  ⟨hf.keep c.bh (by simp), hf.keep c.bx (by simp), c.row.keep' hf, c.own, c.fr.trans hf, c.lt⟩

theorem CS.store {h : Hdr} {s : ByteArray} {n k N X : Nat} {ox ox' : Int} {b b' : Bool} {v u : Value} {j : Nat} {w W : World} (c : CS h s n k N X ox b v w W) (e : (hdrCells (hdrO h ox b)).setIfInBounds j u = hdrCells (hdrO h ox' b')) :
    CS h s n k N X ox' b' v w (W.setCell ⟨X, j, none⟩ u) := by
  have hf : Fr [X] W (W.setCell ⟨X, j, none⟩ u) := (Fr.refl _ _).setCell _ _ (.inl (by simp))
  have := c.lt
  exact ⟨hf.keep c.bh (by simp; omega), c.bx.set_to j u e, c.row.keep hf (fun g hg => by have := c.own g hg; simp; omega), c.own, c.fr.setCell _ _ (.inr (show w.heap.size ≤ X by omega)), c.lt⟩

theorem CS.app {h : Hdr} {s q : ByteArray} {n k N X g cap : Nat} {ox : Int} {b : Bool} {v : Value} {w W W' : World} {o : Obj} (c : CS h s n k N X ox b v w W) (hq : q = pieceR h s n k)
    (hown : W'.ownsRow 0 9 1 (.slice (some ⟨g, 0, none⟩) (k + 1) cap) (k + 1) ((((List.range k).map (pieceR h s n)).map strC).flatMap Array.toList ++ [.string q])) (hgrow : (W.alloc o).grownBy W' v.ownBlock) (hat : v.ownBlock = some g ∨ g = (W.alloc o).heap.size) :
    CS h s n (k + 1) N X ox b (.slice (some ⟨g, 0, none⟩) (k + 1) cap) w W' := by
  have hf : Fr v.ownBlock.toList W W' := ((Fr.refl _ W).alloc o).trans (Fr.grown hgrow fun g hg => by simp [hg])
  have hl := c.lt
  have hx := c.bx.lt
  have hs := c.fr.size
  have hno : ∀ i, i ≤ X → i ∉ v.ownBlock.toList := fun i hi hm => by have := c.own i (by simpa using hm); omega
  refine ⟨hf.keep c.bh (hno _ (by omega)), hf.keep c.bx (hno _ (by omega)), ?_, fun g' hg => ?_, c.fr.trans' hf (fun i hi => ?_), c.lt⟩
  · have e : ((List.range (k + 1)).map (pieceR h s n)).map strC = ((List.range k).map (pieceR h s n)).map strC ++ [strC q] := by rw [List.range_succ, List.map_append, List.map_append, hq]; rfl
    rw [e]
    exact Row.snoc c.row.1 rfl (by simpa [strC] using hown)
  · cases hg
    rcases hat with h1 | h1
    · exact c.own g h1
    · show X < g; simp at h1; omega
  · have := c.own i (by simpa using hi); right; omega

theorem extract_tail (s : ByteArray) (a n : Nat) : (s.extract a s.size).extract n (s.size - a) = s.extract (a + n) s.size := by
  rw [ByteArray.extract_extract]; congr 1; omega
theorem extract_head (s : ByteArray) (a n : Nat) (h : a + n ≤ s.size) : (s.extract a s.size).extract 0 n = s.extract a (a + n) := by
  rw [ByteArray.extract_extract]; congr 1; omega

set_option maxRecDepth 100000 in
set_option maxHeartbeats 4000000 in
theorem rcut_any (p : ByteArray) (mtu : Int) (w : World) (hp : p.size ≤ 35184372088832) : Calls Try.prog 27 #[.string p, .int .i64 mtu] w (CutPost (cutR p mtu) w) := by
  have HG := Lib.hid (fun W => rget5_any p W hp)
  have hok : (ip4get p).2.2 = 0 → Pc.ok ⟨(ip4get p).1, (ip4get p).2.1⟩ ∧ (keyH (ip4get p).1).ok ∧ p.size ≤ 65535 ∧ (ip4get p).2.1.size + 20 ≤ p.size := ip4get_ok
  have hop : (ip4get p).1.opts.size ≤ 100 := by
    by_cases h0 : (ip4get p).2.2 = 0
    · exact (hok h0).1.so
    · have : ip4get p = (Hdr.zero, ⟨#[]⟩, ip4err p) := by
        unfold ip4get at h0 ⊢
        by_cases h1 : ip4err p = 0
        · rw [if_pos h1] at h0; exact absurd rfl h0
        · rw [if_neg h1]
      rw [this]; show (0 : Nat) ≤ 100; omega
  have hcr : cutR p mtu = cutR p mtu := rfl
  conv at hcr => rhs; unfold cutR
  obtain ⟨h, hh⟩ : ∃ h, h = (ip4get p).1 := ⟨_, rfl⟩
  obtain ⟨s, hs⟩ : ∃ s, s = (ip4get p).2.1 := ⟨_, rfl⟩
  obtain ⟨f, hf⟩ : ∃ f, f = (ip4get p).2.2 := ⟨_, rfl⟩
  rw [← hh, ← hs, ← hf] at hcr HG
  rw [← hh, ← hs, ← hf] at hok
  rw [← hh] at hop
  have HC := Lib.hid hcr
  have HOK := Lib.hid (And.intro hok hop)
  clear hcr hok hop hh hs hf
  obtain ⟨N, hN⟩ : ∃ N, N = w.heap.size := ⟨_, rfl⟩
  go_enter Try.func27, Try.ntmps27
  go_wp2_with fail
  refine (HG.out _).mono ?_
  rintro e w1 ⟨rfl, hf1⟩
  clear HG
  unfold hdrV hdrCells
  obtain ⟨M, hM⟩ : ∃ M, M = w1.heap.size := ⟨_, rfl⟩
  go_upto_region 2 with (fail)
  rw [← hM]
  refine Code.world fun W2 hW2 => ?_
  have hb2 : Blk W2 M (hdrCells h) 43 ∧ Fr [] w W2 ∧ w.heap.size ≤ M := by rw [hW2]; exact ⟨Blk.new_at hM _ _, hf1.alloc _, by rw [hM]; exact hf1.size⟩
  have HB := Lib.hid hb2
  clear hb2 hW2 hM hf1
  by_cases hf : f = 0
  · subst hf
    obtain ⟨hpo, hko, hpz, hsz⟩ := HOK.out.1 rfl
    have ho0 := hpo.o0
    have ho1 := hpo.o1
    have hop := HOK.out.2
    dsimp only at ho0 ho1
    clear hpo hko HOK
    have hcr : cutR p mtu = if mtu < 28 ∨ 65535 < mtu then ([], 1)
      else if (p.size : Int) ≤ mtu then ([p], 0)
      else if h.df then ([], 8)
      else if partR (20 + h.opts.size) mtu = 0 then ([], 1)
      else if 8191 < (hdrX h (partR (20 + h.opts.size) mtu) (cutN s.size (partR (20 + h.opts.size) mtu)) true).off then ([], 4)
      else (cutL h s (partR (20 + h.opts.size) mtu), 0) := by rw [HC.out]; simp
    clear HC
    by_cases m1 : mtu < 28
    · have d1 : decide (mtu < 28) = true := by simpa using m1
      rw [if_pos (.inl m1)] at hcr
      have HC := Lib.hid hcr
      clear hcr
      go_wp2_with fail
      go_ret2
      exact .err HC.out HB.out.2.1
    · have d1 : decide (mtu < 28) = false := by simpa using m1
      by_cases m2 : 65535 < mtu
      · have d2 : decide (65535 < mtu) = true := by simpa using m2
        rw [if_pos (.inr m2)] at hcr
        have HC := Lib.hid hcr
        clear hcr
        go_wp2_with fail
        go_ret2
        exact .err HC.out HB.out.2.1
      · have d2 : decide (65535 < mtu) = false := by simpa using m2
        rw [if_neg (by omega)] at hcr
        by_cases m3 : (p.size : Int) ≤ mtu
        · have d3 : decide ((p.size : Int) ≤ mtu) = true := by simpa using m3
          rw [if_pos m3] at hcr
          have HC := Lib.hid hcr
          clear hcr
          go_wp2_with fail
          go_ret2
          rw [HC.out]
          exact ⟨_, rfl, Row.one _ _, fun g hg => (by cases hg; exact HB.out.2.1.size), HB.out.2.1.alloc _⟩
        · have d3 : decide ((p.size : Int) ≤ mtu) = false := by simpa using m3
          rw [if_neg m3] at hcr
          have c1 := HB.out.1.cell
          unfold hdrCells at c1
          obtain ⟨tos, id, off, ttl, proto, df, mf, src, dst, opts⟩ := h
          dsimp only at hcr ho0 ho1 hop c1
          cases df
          · rw [if_neg Bool.false_ne_true] at hcr
            have e1 : IntKind.i64.wrap (20 + (opts.size : Int)) = 20 + (opts.size : Int) := by rw [IntKind.wrap_i64]; omega
            have HC := Lib.hid hcr
            clear hcr
            go_wp2_with fail
            refine (rpart_any (20 + (opts.size : Int)) mtu W2 (by omega) (by omega) (by omega) (by omega)).mono ?_
            rintro e w3 ⟨rfl, hw3⟩
            rw [hw3]
            clear hw3 e1 w3
            obtain ⟨h, hh⟩ : ∃ h : Hdr, h = ⟨tos, id, off, ttl, proto, false, mf, src, dst, opts⟩ := ⟨_, rfl⟩
            have HH := Lib.hid hh
            have hn8 : partR (20 + (opts.size : Int)) mtu ≤ 65535 ∧ partR (20 + (opts.size : Int)) mtu % 8 = 0 := by unfold partR; split <;> omega
            have hcr := HC.out
            clear HC
            generalize partR (20 + (opts.size : Int)) mtu = n at *
            rw [← hh] at hcr HB
            have HC := Lib.hid hcr
            clear hcr hh
            by_cases hn0 : n = 0
            · subst hn0
              have HC2 : Hid (cutR p mtu = ([], 1)) := Lib.hid (by rw [HC.out, if_pos rfl])
              go_wp2_with fail
              go_ret2
              exact .err HC2.out HB.out.2.1
            · have d4 : ((n : Int) == 0) = false := by simp; omega
              have HC2 : Hid (cutR p mtu = if 8191 < (hdrX h n (cutN s.size n) true).off then ([], 4) else (cutL h s n, 0)) := Lib.hid (by rw [HC.out, if_neg hn0])
              clear HC
              go_wp2_with fail
              obtain ⟨X, hX⟩ : ∃ X, X = W2.heap.size := ⟨_, rfl⟩
              rw [← hX]
              refine Code.world fun W4 hW4 => ?_
              have h4 : CS h s n 0 M X off mf (.slice none 0 0) w W4 := by
                rw [hW4, HH.out]
                have hb := HB.out.1
                rw [HH.out] at hb
                exact ⟨hb.alloc _, Blk.new_at hX _ _, Row.nil _ _ _, fun g hg => (by cases hg), HB.out.2.1.alloc _, HB.out.2.2, by rw [hX]; exact hb.lt⟩
              have H4 := Lib.hid h4
              have HX := Lib.hid hX
              clear h4 hW4 hX HB c1
              go_loopw [10, 11] (fun o r wr => ∃ (k : Nat) (y : ByteArray) (ox : Int) (b : Bool), r = .string y ∧ y.size ≤ 65535 ∧ 0 ≤ ox ∧ ox ≤ 8191 ∧ Hid (y.size = s.size - k * n ∧ k ≤ cutN s.size n ∧ y = s.extract (k * n) s.size ∧ ox = off + ((k * (n / 8) : Nat) : Int)) ∧ Hid (CS h s n k M X ox b o w wr)) (fun _ r _ => strLen r)
              case atStart => exact ⟨0, s, off, mf, rfl, by omega, ho0, ho1, ⟨by simp, Nat.zero_le _, by rw [Nat.zero_mul, ByteArray.extract_zero_size], by simp⟩, H4⟩
              case round =>
                clear H4
                obtain ⟨k, y, ox, b, rfl, hys, hx0, hx1, HK, HS⟩ := hrel
                have hop2 : h.opts.size ≤ 100 := by rw [HH.out]; exact hop
                by_cases hgt : n < y.size
                · have g1 : decide ((n : Int) < (y.size : Int)) = true := by simpa using hgt
                  have x6 : wr.cell? ⟨X, 6, none⟩ = some (.bool b) := HS.out.bx.cell 6
                  have z6 := HS.out.bx.free 6
                  have h5 : ∀ W5, W5 = wr.setCell ⟨X, 6, none⟩ (.bool true) → CS h s n k M X ox true u10 w W5 := by
                    rintro _ rfl; exact HS.out.store rfl
                  have H5 := Lib.hid h5
                  clear h5
                  go_upto_region 18 with (fail)
                  refine Code.world fun W5 hW5 => ?_
                  have h6 := H5.out W5 hW5
                  have H6 := Lib.hid h6
                  clear h6 H5 hW5 x6 z6 HS
                  have g2 : n ≤ y.size := by omega
                  have g3 : (n : Int) ≤ (y.size : Int) := by omega
                  have g4 : decide (n ≤ y.size) = true := by simpa using g2
                  refine wp_region_keep (fun w' => Hid (CS h s n k M X ox true u10 w w')) (by kernel_rfl) (by kernel_rfl) (Lib.hid (H6.out.trans (Fr.refl _ _).drew)) ?_
                  repeat (first | (refine wpI_one (by rfl) (fun w1 hS => by (have q1 : ∀ k, w1.cell? ⟨X, k, none⟩ = (#[.int .i64 h.tos, .int .i64 h.id, .int .i64 ox, .int .i64 h.ttl, .int .i64 h.proto, .bool h.df, .bool true, .string h.src, .string h.dst, .string h.opts] : Array Value)[k]? := hS.out.bx.cell; go_simp; first | exact ⟨rfl, hS⟩ | exact rfl | (refine (rput5_any (hdrO h ox true) (y.extract 0 n) _ (by show h.opts.size ≤ _; omega) (by rw [ByteArray.size_extract]; omega)).mono ?_; rintro e w4 ⟨rfl, hf4⟩; exact ⟨rfl, Lib.hid (hS.out.trans hf4)⟩))) (fun K hK => ?_); go_simp; refine hK _ ?_; clear hK K) | (refine wpI_skip (by rfl) (fun K hK => ?_); go_simp; refine hK _ ?_; clear hK K))
                  refine wpI_nil ?_; intro w' hS
                  have hq : (ip4put (hdrO h ox true) (y.extract 0 n)).1 = pieceR h s n k := by
                    obtain ⟨hk1, hk2, hk3, hk4⟩ := HK.out
                    unfold pieceR
                    have e1 : hdrX h n k true = hdrO h ox true := by rw [hk4, HH.out]; rfl
                    rw [e1, hk3, extract_head s (k * n) n (by omega)]
                  have hr := hS.out.row
                  obtain ⟨q, hqq⟩ : ∃ q, q = (ip4put (hdrO h ox true) (y.extract 0 n)).1 := ⟨_, rfl⟩
                  rw [← hqq] at hq ⊢
                  obtain ⟨i0, hi, hz0, hz1, hz2⟩ := info_parts infoString
                  have hown := hr.2
                  have hkl : (((List.range k).map (pieceR h s n)).map strC).length = k := by simp
                  rw [hkl] at hown
                  have hk65 : k ≤ 65535 := by
                    have h1 := cutN_le (by omega : 0 < n) HK.out.2.1
                    have h2 : k * 1 ≤ k * n := Nat.mul_le_mul_left k (by omega)
                    omega
                  have HQ := Lib.hid hq
                  clear hr hkl hqq hq
                  go_wp2_with (at_builtin; refine wpList_append_lies _ rfl _ _ 24 rfl 0 9 i0 (.string ⟨#[]⟩) 1 16 Try.underlying24 hi hz0 hz1 hz2 rfl (by decide) u10 k _ rfl (hown.alloc _) ⟨w'.heap.size, 0, none⟩ 1 1 [.string q] rfl rfl ?c1 ?c2 (by decide) ?c3 ?c4 (Nat.zero_le _) _ rfl ?_)
                  case c1 => exact World.news_of_block (Blk.new w' #[.string q] _)
                  case c2 => intro u hu; simp at hu; subst hu; rfl
                  case c3 => unfold maxLen; omega
                  case c4 => omega
                  intro g cap W7 hown' hgrow hat hlt
                  have H7 := Lib.hid (hS.out.app (cap := cap) HQ.out (by simpa using hown') hgrow (by simpa using hat))
                  clear hown hown' hgrow hat hlt hi hz0 hz1 hz2 hS H6 HQ i0
                  have x2 : W7.cell? ⟨X, 2, none⟩ = some (.int .i64 ox) := H7.out.bx.cell 2
                  have z2 := H7.out.bx.free 2
                  have e2 : ((n : Nat) : Int).tdiv 8 = (n : Int) / 8 := Int.tdiv_eq_ediv_of_nonneg (by omega)
                  have e3 : IntKind.i64.wrap ((n : Int) / 8) = (n : Int) / 8 := by rw [IntKind.wrap_i64]; omega
                  have e4 : IntKind.i64.wrap (ox + (n : Int) / 8) = ox + (n : Int) / 8 := by rw [IntKind.wrap_i64]; omega
                  have hmul : (((k + 1) * (n / 8) : Nat) : Int) = ((k * (n / 8) : Nat) : Int) + (n : Int) / 8 := by rw [Nat.succ_mul]; omega
                  by_cases hbig : 8191 < ox + (n : Int) / 8
                  · have g5 : decide (8191 < ox + (n : Int) / 8) = true := by simpa using hbig
                    have hfin : cutR p mtu = ([], 4) := by
                      obtain ⟨hk1, hk2, hk3, hk4⟩ := HK.out
                      rw [HC2.out, if_pos]
                      have h1 : (k + 1) * (n / 8) ≤ cutN s.size n * (n / 8) := Nat.mul_le_mul_right _ (cutN_more (by omega) hk2 (by omega))
                      have h2 : (hdrX h n (cutN s.size n) true).off = off + ((cutN s.size n * (n / 8) : Nat) : Int) := by rw [HH.out]; rfl
                      rw [h2]
                      omega
                    have HF := Lib.hid hfin
                    clear hfin hmul
                    go_wp2_with fail
                    go_ret2
                    exact .err HF.out ((H7.out.store (ox' := ox + (n : Int) / 8) (b' := true) rfl).fr)
                  · have g5 : decide (8191 < ox + (n : Int) / 8) = false := by simpa using hbig
                    have HM := Lib.hid hmul
                    clear hmul
                    go_wp2_with fail
                    obtain ⟨hk1, hk2, hk3, hk4⟩ := HK.out
                    have hm := HM.out
                    refine ⟨⟨k + 1, y.extract n y.size, ox + (n : Int) / 8, true, rfl, by rw [ByteArray.size_extract]; omega, by omega, by omega, ⟨?_, cutN_more (by omega) hk2 (by omega), ?_, by omega⟩, H7.out.store rfl⟩, ?_⟩
                    · rw [ByteArray.size_extract, Nat.succ_mul]; omega
                    · rw [hk1, hk3, extract_tail, Nat.succ_mul]
                    · show (y.extract n y.size).size < y.size
                      rw [ByteArray.size_extract]; omega
                · have g1 : decide ((n : Int) < (y.size : Int)) = false := by simpa using hgt
                  have x6 : wr.cell? ⟨X, 6, none⟩ = some (.bool b) := HS.out.bx.cell 6
                  have z6 := HS.out.bx.free 6
                  have m6 : wr.cell? ⟨M, 6, none⟩ = some (.bool h.mf) := HS.out.bh.cell 6
                  have h5 : ∀ W5, W5 = wr.setCell ⟨X, 6, none⟩ (.bool h.mf) → CS h s n k M X ox h.mf u10 w W5 := by
                    rintro _ rfl; exact HS.out.store rfl
                  have H5 := Lib.hid h5
                  clear h5
                  go_upto_region 25 with (fail)
                  refine Code.world fun W5 hW5 => ?_
                  have h6 := H5.out W5 hW5
                  have q1 : ∀ k, W5.cell? ⟨X, k, none⟩ = (#[.int .i64 h.tos, .int .i64 h.id, .int .i64 ox, .int .i64 h.ttl, .int .i64 h.proto, .bool h.df, .bool h.mf, .string h.src, .string h.dst, .string h.opts] : Array Value)[k]? := h6.bx.cell
                  have H6 := Lib.hid h6
                  clear h6 H5 hW5 x6 z6 m6 HS
                  go_wp2_with fail
                  refine (rput5_any (hdrO h ox h.mf) y W5 (by show h.opts.size ≤ _; omega) (by omega)).mono ?_
                  rintro e w8 ⟨rfl, hf8⟩
                  have H8 := Lib.hid (H6.out.trans hf8)
                  have hkc : k = cutN s.size n := by
                    obtain ⟨hk1, hk2, hk3, hk4⟩ := HK.out
                    exact cutN_end (by omega) hk2 (by omega)
                  have hq : (ip4put (hdrO h ox h.mf) y).1 = lastR h s n (cutN s.size n) := by
                    obtain ⟨hk1, hk2, hk3, hk4⟩ := HK.out
                    unfold lastR
                    rw [← hkc]
                    have e1 : hdrX h n k h.mf = hdrO h ox h.mf := by rw [hk4, HH.out]; rfl
                    rw [e1, ← hk3]
                  have hfin : cutR p mtu = (cutL h s n, 0) := by
                    obtain ⟨hk1, hk2, hk3, hk4⟩ := HK.out
                    rw [HC2.out, if_neg]
                    have h2 : (hdrX h n (cutN s.size n) true).off = off + ((cutN s.size n * (n / 8) : Nat) : Int) := by rw [HH.out]; rfl
                    rw [h2, ← hkc]
                    omega
                  obtain ⟨q, hqq⟩ : ∃ q, q = (ip4put (hdrO h ox h.mf) y).1 := ⟨_, rfl⟩
                  rw [← hqq] at hq ⊢
                  obtain ⟨i0, hi, hz0, hz1, hz2⟩ := info_parts infoString
                  have hr := H8.out.row
                  have hown := hr.2
                  have hkl : (((List.range k).map (pieceR h s n)).map strC).length = k := by simp
                  rw [hkl] at hown
                  have hk65 : k ≤ 65535 := by
                    have h1 := cutN_le (by omega : 0 < n) HK.out.2.1
                    have h2 : k * 1 ≤ k * n := Nat.mul_le_mul_left k (by omega)
                    omega
                  have HF := Lib.hid (And.intro hfin (And.intro hq hkc))
                  clear hr hkl hqq hq hfin hkc H6 hf8 q1
                  go_wp2_with (at_builtin; refine wpList_append_lies _ rfl _ _ 24 rfl 0 9 i0 (.string ⟨#[]⟩) 1 16 Try.underlying24 hi hz0 hz1 hz2 rfl (by decide) u10 k _ rfl (hown.alloc _) ⟨w8.heap.size, 0, none⟩ 1 1 [.string q] rfl rfl ?c1 ?c2 (by decide) ?c3 ?c4 (Nat.zero_le _) _ rfl ?_)
                  case c1 => exact World.news_of_block (Blk.new w8 #[.string q] _)
                  case c2 => intro u hu; simp at hu; subst hu; rfl
                  case c3 => unfold maxLen; omega
                  case c4 => omega
                  intro g cap W9 hown' hgrow hat hlt
                  obtain ⟨hf1, hf2, hf3⟩ := HF.out
                  have hR : Row W9 9 1 (.slice (some ⟨g, 0, none⟩) (k + 1) cap) ((cutL h s n).map strC) := by
                    have e : (cutL h s n).map strC = ((List.range k).map (pieceR h s n)).map strC ++ [strC q] := by unfold cutL; rw [← hf2, ← hf3, List.map_append]; rfl
                    rw [e]
                    exact Row.snoc H8.out.row.1 rfl (by simpa [strC] using hown')
                  have hl := H8.out.lt
                  have hxl := H8.out.bx.lt
                  have hfr : Fr [] w W9 := H8.out.fr.trans' (((Fr.refl _ w8).alloc _).trans (Fr.grown (S := u10.ownBlock.toList) hgrow fun g hg => by simp [hg])) (fun i hi => by have := H8.out.own i (by simpa using hi); right; omega)
                  have hgl : w.heap.size ≤ g := by
                    rcases hat with h1 | h1
                    · have := H8.out.own g h1; omega
                    · have := H8.out.fr.size; omega
                  have HR := Lib.hid (And.intro hR (And.intro hfr hgl))
                  clear hR hfr hgl hl hxl hown' hgrow hat hlt hf1 hf2 hf3 H8 hown hi hz0 hz1 hz2
                  go_wp2_with fail
                  go_ret2
                  rw [HF.out.1]
                  exact ⟨_, rfl, HR.out.1, fun g' hg => (by cases hg; exact HR.out.2.2), HR.out.2.1⟩
          · rw [if_pos rfl] at hcr
            have HC := Lib.hid hcr
            clear hcr
            go_wp2_with fail
            go_ret2
            exact .err HC.out HB.out.2.1
  · have d1 : ((f : Int) != 0) = true := by simp; omega
    have hcr : cutR p mtu = ([], f) := by rw [HC.out, if_pos hf]
    have HC2 := Lib.hid hcr
    clear hcr HC
    go_wp2_with fail
    go_ret2
    exact .err HC2.out HB.out.2.1
end Go.Proofs.Ytlgjhacmhkbkdaa
