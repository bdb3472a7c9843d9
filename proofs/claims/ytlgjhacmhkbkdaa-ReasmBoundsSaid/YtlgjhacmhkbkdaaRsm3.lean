/- reasm: whole, finish. -/
import Derived.Test.YtlgjhacmhkbkdaaRsm2
import Derived.Test.YtlgjhacmhkbkdaaBld2
namespace Go.Proofs.Ytlgjhacmhkbkdaa
open Go.RowKit

/-- Pieces of all bytes from n on, one behind the other. -/
def contig : Nat → List Pc → Bool
  | _, [] => true
  | n, p :: r => p.from == n && contig p.end r

/-- The last of a list is the last piece. -/
def endsP (l : List Pc) : Bool := match l.getLast? with
  | some p => lastP p
  | none => false

def wholeP (l : List Pc) : Bool := contig 0 l && endsP l

theorem contig_drop {l : List Pc} {k n : Nat} (hk : k < l.length) : contig n (l.drop k) = (l[k].from == n && contig l[k].end (l.drop (k + 1))) := by
  rw [List.drop_eq_getElem_cons hk]; rfl

/-- An entry's cells. -/
def enCells (v : Value) (done : Bool) (age : Int) : Array Value := #[v, .bool done, .int .i64 age]

structure WS (be : Nat) (v : Value) (done : Bool) (age : Int) (l : List Pc) (w W : World) : Prop where
  en : Blk W be (enCells v done age) 72
  row : Row W 74 12 v (l.map ppCells)
  fr : Fr [] w W

theorem WS.trans {be : Nat} {v : Value} {done : Bool} {age : Int} {l : List Pc} {w W W' : World} (h : WS be v done age l w W) (hf : Fr [] W W') : WS be v done age l w W' :=
  ⟨hf.keep h.en (by simp), h.row.keep' hf, h.fr.trans hf⟩

set_option maxRecDepth 100000 in
set_option maxHeartbeats 2000000 in
theorem pwhole_any (be : Nat) (v : Value) (done : Bool) (age : Int) (l : List Pc) (w : World) (hen : Blk w be (enCells v done age) 72) (hrow : Row w 74 12 v (l.map ppCells)) (hok : ∀ p ∈ l, p.ok) :
    Calls Try.prog 38 #[.pointer (some ⟨be, 0, none⟩)] w fun e w' => e = .returned (.bool (wholeP l)) ∧ Fr [] w w' := by
  obtain ⟨a, cp, rfl, hcl, hcm⟩ := hrow.shape
  rw [List.length_map] at *
  unfold maxLen at hcm
  have h0 : WS be (.slice a l.length cp) done age l w w := ⟨hen, hrow, Fr.refl _ _⟩
  have H0 := Lib.hid h0
  have e0 : w.cell? ⟨be, 0, none⟩ = some (.slice a l.length cp) := hen.cell 0
  have HOK := Lib.hid hok
  clear hen hrow h0 hok
  go_enter Try.func38, Try.ntmps38
  go_wp2_with fail
  go_loopw [3, 11] (fun m v wr => ∃ k n : Nat, k ≤ l.length ∧ v = .int .i64 k ∧ m = .int .i64 n ∧ Hid (contig 0 l = contig n (l.drop k)) ∧ Hid (WS be (.slice a l.length cp) done age l w wr)) (fun _ v _ => l.length - (intOf v).toNat)
  case atStart => exact ⟨0, 0, by omega, rfl, rfl, rfl, H0⟩
  case round =>
    obtain ⟨k, n, hk, rfl, rfl, HC, HS⟩ := hrel
    clear e0 H0
    by_cases hlt : k < l.length
    · obtain ⟨gb, rfl, hgb⟩ := HS.out.row.at (by omega)
      obtain ⟨q0, q1, q2, q3, q4, q5, q6, q7, q8, q9, q10, q11⟩ := prow_cells HS.out.row k hlt
      have hcd := contig_drop (n := n) hlt
      have hpo := HOK.out l[k] (List.getElem_mem hlt)
      obtain ⟨p, hp⟩ : ∃ p, p = l[k]'hlt := ⟨_, rfl⟩
      rw [← hp] at q0 q1 q2 q3 q4 q5 q6 q7 q8 q9 q10 q11 hcd hpo
      have HP := Lib.hid hp
      clear hp
      cases hx : (p.from == n)
      · have hx' := (int_beq p.from n)
        rw [hx] at hx'
        have hx2 : (p.from != n) = true := by simpa using hx
        have hx3 : ((p.from : Int) != (n : Int)) = true := by rw [bne, hx']; rfl
        have hfin : wholeP l = false := by unfold wholeP; rw [HC.out, hcd, hx]; rfl
        have HFIN := Lib.hid hfin
        clear hfin hcd hx
        go_wp2_with fail
        go_ret
        exact ⟨by rw [HFIN.out]; try rfl, HS.out.fr.alloc _⟩
      · have hx' := (int_beq p.from n)
        rw [hx] at hx'
        have hx2 : (p.from != n) = false := by simpa using hx
        have hx3 : ((p.from : Int) != (n : Int)) = false := by rw [bne, hx']; rfl
        rw [hx] at hcd
        have HCD := Lib.hid hcd
        clear hcd hx
        go_wp2_with fail
        refine (pend_any p _ hpo).mono ?_
        rintro e w4 ⟨rfl, hf4⟩
        go_wp2_with fail
        exact ⟨⟨k + 1, p.end, by omega, by go_num, rfl, Lib.hid (by rw [HC.out, HCD.out, Bool.true_and]), HS.out.trans (((Fr.refl _ _).alloc _).trans hf4)⟩, by simp [intOf]; omega⟩
    · have hke : k = l.length := by omega
      subst hke
      have hfin : wholeP l = endsP l := by unfold wholeP; rw [HC.out, List.drop_length]; rfl
      have HFIN := Lib.hid hfin
      clear hfin hlt HC
      go_wp2_with fail
      by_cases h0 : l = []
      · subst h0
        have d1 : decide (0 < (([] : List Pc).length)) = false := rfl
        refine wp_region_keep (fun w' => Hid (WS be (.slice a 0 cp) done age [] w w')) (by kernel_rfl) (by kernel_rfl) (Lib.hid (HS.out.trans (Fr.refl _ _).drew)) ?_
        clear HS
        repeat (first | (refine wpI_one (by rfl) (fun w1 hS => by (have q0 : w1.cell? ⟨be, 0, none⟩ = some (.slice a 0 cp) := hS.out.en.cell 0; go_simp; first | exact ⟨rfl, hS⟩ | exact rfl)) (fun K hK => ?_); go_simp; refine hK _ ?_; clear hK K) | (refine wpI_skip (by rfl) (fun K hK => ?_); go_simp; refine hK _ ?_; clear hK K))
        refine wpI_nil ?_; intro w' hS
        go_wp2_with fail
        go_ret
        exact ⟨by rw [HFIN.out]; rfl, hS.out.fr⟩
      · have hn : 0 < l.length := List.length_pos_iff.2 h0
        obtain ⟨gb, rfl, hgb⟩ := HS.out.row.at hn
        have d1 : decide (0 < l.length) = true := by simpa using hn
        have d2 : decide ((0 : Int) < (l.length : Int)) = true := by simp; omega
        have e1 : IntKind.i64.wrap ((l.length : Int) - 1) = (l.length : Int) - 1 := by rw [IntKind.wrap_i64]; omega
        have e2 : (0 : Int) ≤ (l.length : Int) - 1 := by omega
        have e3 : (l.length : Int) - 1 < (l.length : Int) := by omega
        have e5 : (1 : Int) ≤ (l.length : Int) := by omega
        have e6 : 1 ≤ l.length := by omega
        have e4 : ((l.length : Int) - 1).toNat = l.length - 1 := by omega
        have hlt : l.length - 1 < l.length := by omega
        have hla : endsP l = lastP (l[l.length - 1]'hlt) := by unfold endsP; rw [List.getLast?_eq_getElem?, List.getElem?_eq_getElem hlt]
        obtain ⟨p, hp⟩ : ∃ p, p = l[l.length - 1]'hlt := ⟨_, rfl⟩
        rw [← hp] at hla
        have HLA := Lib.hid hla
        have HP := Lib.hid hp
        clear hla hp h0
        refine wp_region_keep (fun w' => Hid (WS be (.slice (some ⟨gb, 0, none⟩) l.length cp) done age l w w')) (by kernel_rfl) (by kernel_rfl) (Lib.hid (HS.out.trans (Fr.refl _ _).drew)) ?_
        clear HS
        repeat (first | (refine wpI_one (by rfl) (fun w1 hS => by (have k0 : w1.cell? ⟨be, 0, none⟩ = some (.slice (some ⟨gb, 0, none⟩) l.length cp) := hS.out.en.cell 0; obtain ⟨q0, q1, q2, q3, q4, q5, q6, q7, q8, q9, q10, q11⟩ := prow_cells hS.out.row (l.length - 1) hlt; rw [← HP.out] at q0 q1 q2 q3 q4 q5 q6 q7 q8 q9 q10 q11; go_simp; first | exact ⟨rfl, hS⟩ | exact rfl | (refine (plast_any _ _).mono ?_; rintro e w4 ⟨rfl, hf4⟩; exact ⟨rfl, Lib.hid (hS.out.trans hf4)⟩))) (fun K hK => ?_); go_simp; refine hK _ ?_; clear hK K) | (refine wpI_skip (by rfl) (fun K hK => ?_); go_simp; refine hK _ ?_; clear hK K))
        refine wpI_nil ?_; intro w' hS
        go_wp2_with fail
        go_ret
        exact ⟨by rw [HFIN.out, HLA.out]; rfl, hS.out.fr⟩
end Go.Proofs.Ytlgjhacmhkbkdaa
