/- reasm: the table: New, Len, Bytes. -/
import Derived.Test.YtlgjhacmhkbkdaaRsmInv
import Derived.Test.YtlgjhacmhkbkdaaRmap
namespace Go.Proofs.Ytlgjhacmhkbkdaa
open Go.RowKit

/-- A store as a value. -/
def stoV (e b l : Int) : Value := .agg #[.int .i64 e, .int .i64 b, .int .i64 l]

/-- May a number be? -/
def inS (x m : Int) : Bool := !(decide (x < 1)) && !(decide (m < x))
/-- May a store be? -/
def stoOk (e b l : Int) : Bool := inS e 64 && inS b 1048576 && inS l 64

/-- What New leaves. -/
def NewPost (e b l : Int) (w : World) (r : Ending) (w' : World) : Prop :=
  Fr [] w w' ∧ (stoOk e b l = false ∧ r = .returned (.tuple #[.pointer none, .int .i64 1]) ∨
    stoOk e b l = true ∧ ∃ bt bm, r = .returned (.tuple #[.pointer (some ⟨bt, 0, none⟩), .int .i64 0]) ∧ Blk w' bt (tbCells e b l bm 0) 65 ∧ Mp bm [] w' ∧ w.heap.size ≤ bt ∧ w.heap.size ≤ bm ∧ bt ≠ bm)

set_option maxRecDepth 100000 in
set_option maxHeartbeats 2000000 in
theorem pnew_any (e b l : Int) (w : World) : Calls Try.prog 11 #[stoV e b l] w (NewPost e b l w) := by
  unfold stoV
  go_enter Try.func11, Try.ntmps11
  go_wp2_with fail
  obtain ⟨N, hN⟩ : ∃ N, N = w.heap.size := ⟨_, rfl⟩
  rw [← hN]
  refine Code.world fun W0 hW => ?_
  have h0 : Blk W0 N #[.int .i64 e, .int .i64 b, .int .i64 l] 23 ∧ Fr [] w W0 := by rw [hW]; exact ⟨Blk.new_at hN _ _, (Fr.refl _ _).alloc _⟩
  have H0 := Lib.hid h0
  have HN := Lib.hid hN
  clear h0 hW hN
  have hso : stoOk e b l = (inS e 64 && inS b 1048576 && inS l 64) := rfl
  have HSO := Lib.hid hso
  clear hso
  have ix : ∀ w, (Instr.index 62 (.agg #[.int .i64 e, .int .i64 64, .int .i64 b, .int .i64 1048576, .int .i64 l, .int .i64 64]) (.int .i64 0)).run Try.prog w = .ok (.agg #[.int .i64 e, .int .i64 64]) w ∧
      (Instr.index 62 (.agg #[.int .i64 e, .int .i64 64, .int .i64 b, .int .i64 1048576, .int .i64 l, .int .i64 64]) (.int .i64 1)).run Try.prog w = .ok (.agg #[.int .i64 b, .int .i64 1048576]) w ∧
      (Instr.index 62 (.agg #[.int .i64 e, .int .i64 64, .int .i64 b, .int .i64 1048576, .int .i64 l, .int .i64 64]) (.int .i64 2)).run Try.prog w = .ok (.agg #[.int .i64 l, .int .i64 64]) w :=
    fun _ => ⟨by kernel_rfl, by kernel_rfl, by kernel_rfl⟩
  have i0 := fun w => (ix w).1
  have i1 := fun w => (ix w).2.1
  have i2 := fun w => (ix w).2.2
  clear ix
  go_loopw [16] (fun x wr => ∃ i : Nat, i ≤ 3 ∧ x = .int .i64 i ∧ Hid ((0 < i → inS e 64 = true) ∧ (1 < i → inS b 1048576 = true) ∧ (2 < i → inS l 64 = true)) ∧ Hid (Blk wr N #[.int .i64 e, .int .i64 b, .int .i64 l] 23 ∧ Fr [] w wr)) (fun x _ => 3 - (intOf x).toNat)
  case atStart => exact ⟨0, by omega, rfl, ⟨by omega, by omega, by omega⟩, H0⟩
  case round =>
    clear H0
    obtain ⟨i, hi, rfl, HB, HS⟩ := hrel
    have hcs : i = 0 ∨ i = 1 ∨ i = 2 ∨ i = 3 := by omega
    rcases hcs with rfl | rfl | rfl | rfl
    · have hin : inS e 64 = (!(decide (e < 1)) && !(decide (64 < e))) := rfl
      cases c1 : decide (e < 1)
      case' false => cases c2 : decide (64 < e)
      case' false.false =>
        rw [c1, c2] at hin
        have HIN := Lib.hid hin
        clear hin
        go_wp2_with fail
        exact ⟨⟨1, by omega, rfl, ⟨fun _ => HIN.out, by omega, by omega⟩, HS.out.1.alloc _, HS.out.2.alloc _⟩, by simp [intOf]⟩
      all_goals
        rw [c1] at hin
        try rw [c2] at hin
        have hb : stoOk e b l = false := by
          have HIN := Lib.hid hin
          rw [HSO.out, HIN.out]; rfl
        have HBAD := Lib.hid hb
        clear hin hb
        go_wp2_with fail
        go_ret2
        exact ⟨HS.out.2.alloc _, .inl ⟨HBAD.out, rfl⟩⟩
    · have hin : inS b 1048576 = (!(decide (b < 1)) && !(decide (1048576 < b))) := rfl
      cases c1 : decide (b < 1)
      case' false => cases c2 : decide (1048576 < b)
      case' false.false =>
        rw [c1, c2] at hin
        have HIN := Lib.hid hin
        clear hin
        go_wp2_with fail
        exact ⟨⟨2, by omega, rfl, ⟨fun _ => HB.out.1 (by omega), fun _ => HIN.out, by omega⟩, HS.out.1.alloc _, HS.out.2.alloc _⟩, by simp [intOf]⟩
      all_goals
        rw [c1] at hin
        try rw [c2] at hin
        have hb : stoOk e b l = false := by
          have HIN := Lib.hid hin
          rw [HSO.out, HIN.out]; simp
        have HBAD := Lib.hid hb
        clear hin hb
        go_wp2_with fail
        go_ret2
        exact ⟨HS.out.2.alloc _, .inl ⟨HBAD.out, rfl⟩⟩
    · have hin : inS l 64 = (!(decide (l < 1)) && !(decide (64 < l))) := rfl
      cases c1 : decide (l < 1)
      case' false => cases c2 : decide (64 < l)
      case' false.false =>
        rw [c1, c2] at hin
        have HIN := Lib.hid hin
        clear hin
        go_wp2_with fail
        exact ⟨⟨3, by omega, rfl, ⟨fun _ => HB.out.1 (by omega), fun _ => HB.out.2.1 (by omega), fun _ => HIN.out⟩, HS.out.1.alloc _, HS.out.2.alloc _⟩, by simp [intOf]⟩
      all_goals
        rw [c1] at hin
        try rw [c2] at hin
        have hb : stoOk e b l = false := by
          have HIN := Lib.hid hin
          rw [HSO.out, HIN.out]; simp
        have HBAD := Lib.hid hb
        clear hin hb
        go_wp2_with fail
        go_ret2
        exact ⟨HS.out.2.alloc _, .inl ⟨HBAD.out, rfl⟩⟩
    · have hok : stoOk e b l = true := by rw [HSO.out, HB.out.1 (by omega), HB.out.2.1 (by omega), HB.out.2.2 (by omega)]; rfl
      have HOK := Lib.hid hok
      clear hok
      have q := HS.out.1.cell
      have hmm := @run_makeMap Try.prog
      go_wp2_with fail
      go_ret2
      refine ⟨(HS.out.2.alloc _).alloc _, .inr ⟨HOK.out, wr.heap.size + 1, wr.heap.size, rfl, Blk.new_at (by simp) _ _, (Mp.made wr).keep ((Fr.refl [] _).alloc _) (by simp), ?_, HS.out.2.size, by omega⟩⟩
      have := HS.out.2.size
      omega

/-- An entry of the program's table. -/
structure PEn where
  key : Key
  be : Nat
  v : Value
  ps : List Pc
  done : Bool
  age : Int

def PEn.foot (e : PEn) : List Nat := e.be :: e.v.ownBlock.toList
/-- A table's blocks. -/
def ptFoot (bt bm : Nat) (E : List PEn) : List Nat := bt :: bm :: E.flatMap PEn.foot
def sizeE (E : List PEn) : Nat := (E.map fun e => sumP e.ps).sum
def mapE (E : List PEn) : List (Key × Nat) := E.map fun e => (e.key, e.be)
def openE (E : List PEn) : Nat := (E.filter fun e => !e.done).length

/-- The program's table. -/
structure PT (bt bm : Nat) (ent byt life : Int) (E : List PEn) (W : World) : Prop where
  tb : Blk W bt (tbCells ent byt life bm (sizeE E)) 65
  mp : Mp bm (mapE E) W
  en : ∀ e ∈ E, Blk W e.be (enCells e.v e.done e.age) 72
  row : ∀ e ∈ E, Row W 74 12 e.v (e.ps.map ppCells)
  nd : (ptFoot bt bm E).Nodup
  ok : ∀ e ∈ E, ∀ p ∈ e.ps, p.ok
  few : E.length ≤ 64
  small : sizeE E ≤ 1048576
  age : ∀ e ∈ E, 0 ≤ e.age ∧ e.age ≤ 1000
  lf : life ≤ 64
  se : ent ≤ 64
  sb : byt ≤ 1048576
  inv : ∀ e ∈ E, InvP e.ps

theorem PT.keep {bt bm : Nat} {ent byt life : Int} {E : List PEn} {W W' : World} {S : List Nat} (h : PT bt bm ent byt life E W) (hf : Fr S W W') (hS : ∀ g ∈ ptFoot bt bm E, g ∉ S) : PT bt bm ent byt life E W' := by
  refine ⟨hf.keep h.tb (hS _ (by simp [ptFoot])), h.mp.keep hf (hS _ (by simp [ptFoot])), fun e he => hf.keep (h.en e he) (hS _ ?_), fun e he => (h.row e he).keep hf (fun g hg => hS _ ?_), h.nd, h.ok, h.few, h.small, h.age, h.lf, h.se, h.sb, h.inv⟩
  · simp only [ptFoot, List.mem_cons, List.mem_flatMap]
    exact .inr (.inr ⟨e, he, by simp [PEn.foot]⟩)
  · simp only [ptFoot, List.mem_cons, List.mem_flatMap]
    exact .inr (.inr ⟨e, he, by simp [PEn.foot, hg]⟩)

theorem PT.keep' {bt bm : Nat} {ent byt life : Int} {E : List PEn} {W W' : World} (h : PT bt bm ent byt life E W) (hf : Fr [] W W') : PT bt bm ent byt life E W' := h.keep hf (by simp)

theorem PT.foot_lt {bt bm : Nat} {ent byt life : Int} {E : List PEn} {W : World} (h : PT bt bm ent byt life E W) : ∀ g ∈ ptFoot bt bm E, g < W.heap.size := by
  intro g hg
  simp only [ptFoot, List.mem_cons, List.mem_flatMap] at hg
  rcases hg with rfl | rfl | ⟨e, he, hg⟩
  · exact h.tb.lt
  · exact h.mp.lt
  · simp only [PEn.foot, List.mem_cons, Option.mem_toList] at hg
    rcases hg with rfl | hg
    · exact (h.en e he).lt
    · exact (h.row e he).lt hg

set_option maxHeartbeats 400000 in
theorem ptlen_any (bt bm : Nat) (ent byt life : Int) (E : List PEn) (w : World) (h : PT bt bm ent byt life E w) :
    Calls Try.prog 17 #[.pointer (some ⟨bt, 0, none⟩)] w fun e w' => e = .returned (.int .i64 E.length) ∧ w' = w := by
  have t3 : w.cell? ⟨bt, 3, none⟩ = some (.map (some bm)) := h.tb.cell 3
  have hl := h.mp.len
  have hm : (mapE E).length = E.length := by simp [mapE]
  rw [hm] at hl
  clear h hm
  go_enter Try.func17, Try.ntmps17
  go_wp2_with fail
  go_ret
  exact ⟨rfl, rfl⟩

set_option maxHeartbeats 400000 in
theorem ptbytes_any (bt bm : Nat) (ent byt life : Int) (E : List PEn) (w : World) (h : PT bt bm ent byt life E w) :
    Calls Try.prog 18 #[.pointer (some ⟨bt, 0, none⟩)] w fun e w' => e = .returned (.int .i64 (sizeE E)) ∧ w' = w := by
  have t4 : w.cell? ⟨bt, 4, none⟩ = some (.int .i64 (sizeE E)) := h.tb.cell 4
  clear h
  go_enter Try.func18, Try.ntmps18
  go_wp2_with fail
  go_ret
  exact ⟨rfl, rfl⟩

/-- Those open entries whose keys are not still to come. -/
def openNot (E : List PEn) (R : List Key) : Nat := (E.filter fun e => !e.done && !decide (e.key ∈ R)).length

theorem openNot_erase {e : PEn} {R : List Key} (hR : e.key ∈ R) (hn : R.Nodup) : ∀ (E : List PEn), (E.map PEn.key).Nodup → e ∈ E → openNot E (R.erase e.key) = openNot E R + if e.done then 0 else 1
  | [], _, h => by cases h
  | x :: r, hnd, h => by
    simp only [List.map_cons, List.nodup_cons] at hnd
    have hme : ∀ k, k ∈ R.erase e.key ↔ k ≠ e.key ∧ k ∈ R := fun k => hn.mem_erase_iff
    by_cases hx : x.key = e.key
    · have hxe : x = e := by
        rcases List.mem_cons.1 h with h | h
        · exact h.symm
        · exact absurd (List.mem_map.2 ⟨e, h, hx.symm⟩ : x.key ∈ r.map PEn.key) hnd.1
      subst hxe
      have hrest : r.filter (fun e => !e.done && !decide (e.key ∈ R.erase x.key)) = r.filter (fun e => !e.done && !decide (e.key ∈ R)) := by
        apply List.filter_congr
        intro y hy
        have : y.key ≠ x.key := fun e2 => hnd.1 (List.mem_map.2 ⟨y, hy, e2⟩)
        simp [hme, this]
      unfold openNot
      rw [List.filter_cons, List.filter_cons, hrest]
      cases hd : x.done <;> simp [hme, hR]
    · have hr : e ∈ r := by
        rcases List.mem_cons.1 h with h | h
        · exact absurd (by rw [h]) hx
        · exact h
      have ih := openNot_erase hR hn r hnd.2 hr
      unfold openNot at ih ⊢
      rw [List.filter_cons, List.filter_cons]
      have : decide (x.key ∈ R.erase e.key) = decide (x.key ∈ R) := by simp [hme, hx]
      rw [this]
      split <;> simp [ih] <;> omega

theorem PT.keys {bt bm : Nat} {ent byt life : Int} {E : List PEn} {W : World} (h : PT bt bm ent byt life E W) : (E.map PEn.key).Nodup := by
  have := h.mp.nodup
  simpa [mapE, List.map_map, Function.comp_def] using this

set_option maxRecDepth 100000 in
set_option maxHeartbeats 1000000 in
theorem ptopen_any (bt bm : Nat) (ent byt life : Int) (E : List PEn) (w : World) (h : PT bt bm ent byt life E w) :
    Calls Try.prog 20 #[.pointer (some ⟨bt, 0, none⟩)] w fun e w' => e = .returned (.int .i64 (openE E)) ∧ Fr [] w w' := by
  have t3 : w.cell? ⟨bt, 3, none⟩ = some (.map (some bm)) := h.tb.cell 3
  obtain ⟨w0, hrun, hrg, hf0⟩ := h.mp.range
  obtain ⟨r, hr⟩ : ∃ r, r = w.heap.size := ⟨_, rfl⟩
  rw [← hr] at hrun hrg
  have h0 : openNot E ((mapE E).map Prod.fst) = 0 := by
    unfold openNot
    rw [List.length_eq_zero_iff, List.filter_eq_nil_iff]
    intro e he
    have : e.key ∈ (mapE E).map Prod.fst := by simp only [mapE, List.map_map, List.mem_map]; exact ⟨e, he, rfl⟩
    simp [this]
  have H := Lib.hid h
  have H0 := Lib.hid (And.intro hrg (And.intro hf0 h0))
  have HR := Lib.hid hr
  clear h hrg hf0 h0 hr
  go_enter Try.func20, Try.ntmps20
  go_wp2_with fail
  go_loopw [3] (fun x wr => ∃ R : List Key, x = .int .i64 (openNot E R) ∧ Hid (Rg bm r (mapE E) R wr ∧ Fr [] w wr)) (fun _ wr => wr.rangeLeft bm r)
  case atStart => exact ⟨_, by rw [H0.out.2.2]; rfl, H0.out.1, H0.out.2.1⟩
  case round =>
    obtain ⟨R, rfl, HS⟩ := hrel
    have hfr := HS.out.2
    rcases HS.out.1.next 0 with ⟨hR, hrun2⟩ | ⟨k, b, w1, hkR, hkM, hrun2, hent, hrg1, hf1, hlt⟩
    · subst hR
      have ho : openNot E [] = openE E := by unfold openNot openE; congr 2; funext e; simp
      have HO := Lib.hid ho
      clear ho
      go_wp2_with fail
      go_ret
      exact ⟨by rw [← HO.out]; rfl, hfr⟩
    · obtain ⟨e, he, hek⟩ := List.mem_map.1 hkM
      have hke : e.key = k := congrArg Prod.fst hek
      have hbe : e.be = b := congrArg Prod.snd hek
      subst hke hbe
      have hFr : Fr [] w w1 := hfr.trans' hf1 (by intro i hi; simp at hi; subst hi; right; rw [HR.out]; exact Nat.le_refl _)
      have q1 : w1.cell? ⟨e.be, 1, none⟩ = some (.bool e.done) := (hFr.keep (H.out.en e he) (by simp)).cell 1
      have hone : openNot E (R.erase e.key) = openNot E R + if e.done then 0 else 1 := openNot_erase hkR HS.out.1.rnodup E H.out.keys he
      have HS1 := Lib.hid (And.intro hrg1 (And.intro hFr (And.intro hone hlt)))
      have hle : openNot E R ≤ E.length := List.length_filter_le _ _
      have hfew := H.out.few
      clear hrg1 hFr hf1 hone hlt hfr hek
      cases hd : e.done
      all_goals
        rw [hd] at q1 HS1
        have HD := Lib.hid hd
        clear hd
        go_wp2_with fail
        refine ⟨⟨R.erase e.key, by rw [HS1.out.2.2.1]; go_num, HS1.out.1, HS1.out.2.1⟩, HS1.out.2.2.2⟩
end Go.Proofs.Ytlgjhacmhkbkdaa
