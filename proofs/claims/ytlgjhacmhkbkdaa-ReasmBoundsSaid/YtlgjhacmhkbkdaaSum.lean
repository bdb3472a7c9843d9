/- The program's checksum: fold, Sum, Right. -/
import Derived.Test.YtlgjhacmhkbkdaaProg
import Derived.Test.YtlgjhacmhkbkdaaBase
import Derived.Test.YtlgjhacmhkbkdaaPlain
namespace Go.Proofs.Ytlgjhacmhkbkdaa
open Go.RowKit

theorem fold_bits (m : Nat) (h : m < 9223372036854775808) : IntKind.u64.wrap (bits BinOp.and IntKind.u64 (m : Int) 65535 + (m : Int) / 65536) = ((m % 65536 + m / 65536 : Nat) : Int) := by
  have e : bits BinOp.and IntKind.u64 (m : Int) 65535 = ((m % 65536 : Nat) : Int) := by
    have := u64_and_nat m 65535 (by omega) (by omega)
    rw [nat_mask16] at this
    exact this
  rw [e, IntKind.wrap_u64]
  omega

set_option maxHeartbeats 400000 in
theorem fold_any (n : Nat) (w : World) (hn : n < 9223372036854775808) :
    Calls Try.prog 99 #[.int .u64 n] w fun e w' => e = .returned (.int .i64 (foldn n)) ∧ w = w' := by
  have HN := Lib.hid hn
  clear hn
  go_enter Try.func99, Try.ntmps99
  go_wp2
  go_loop [0] (fun x => ∃ m : Nat, m ≤ n ∧ Hid (foldn m = foldn n) ∧ x = .int .u64 m) (fun x => (intOf x).toNat)
  case atStart => exact ⟨n, Nat.le_refl _, rfl, rfl⟩
  case round =>
    obtain ⟨m, hm, hf, rfl⟩ := hrel
    by_cases h : 65535 < m
    · go_wp2
      have hn := HN.out
      rw [fold_bits m (by omega)]
      exact ⟨⟨_, by omega, (foldn_step h).trans hf.out, rfl⟩, by simp [intOf]; omega⟩
    · go_wp2
      go_ret
      exact ⟨ret_eq (int_eq (by rw [← hf.out, foldn_small (by omega)])), rfl⟩

def tot (l : List UInt8) : Array Value := #[.int .u64 (osum false l)]
def par (l : List UInt8) : Array Value := #[.bool (opar false l)]

theorem osum_snoc (l : List UInt8) (x : UInt8) : osum false (l ++ [x]) = osum false l + (if opar false l then x.toNat else x.toNat * 256) := by
  rw [osum_append]
  cases h : opar false l <;> simp [osum]

theorem opar_snoc (l : List UInt8) (x : UInt8) : opar false (l ++ [x]) = !opar false l := by
  rw [opar_append]; simp [opar]

set_option maxHeartbeats 400000 in
theorem add_any (l : List UInt8) (x : UInt8) (bo bt : Nat) (w : World) (hl : l.length < 70368744177664) (ht : Blk w bt (tot l) 122) (ho : Blk w bo (par l) 4) (hne : bt ≠ bo) :
    Calls Try.prog 98 #[.int .u8 x.toNat, .pointer (some ⟨bo, 0, none⟩), .pointer (some ⟨bt, 0, none⟩)] w fun e w' =>
      e = .returned (.tuple #[]) ∧ Blk w' bt (tot (l ++ [x])) 122 ∧ Blk w' bo (par (l ++ [x])) 4 ∧ Fr [bt, bo] w w' := by
  have hb := osum_le l false
  have hx := x.toNat_lt
  have hne' : ¬ bo = bt := fun h => hne h.symm
  have c0 := ht.cell 0
  have f0 := ht.free 0
  have c1 := ho.cell 0
  have f1 := ho.free 0
  have ht' := Lib.hid ht
  have ho' := Lib.hid ho
  have hs := osum_snoc l x
  have hp := opar_snoc l x
  simp only [tot, par] at c0 c1
  generalize osum false l = S at *
  have hx' : (x.toNat : Int) ≤ 255 := by omega
  generalize hxx : x.toNat = y at *
  clear ht ho
  have hno : ∀ (a : Bool) (w : World), (Op.unary .not (.bool a)).run Try.prog w = .ok (.bool (!a)) w := fun _ _ => rfl
  cases hop : opar false l
  all_goals
    rw [hop] at c1 hs hp
    have HX := Lib.hid (And.intro hxx (And.intro hs (And.intro hp hop)))
    clear hxx hs hp hop
    go_enter Try.func98, Try.ntmps98
    go_wp2
    go_end0
    refine ⟨rfl, ((ht'.out.set_to 0 _ ?_).set_other _ _ hne), ((ho'.out.set_other _ _ hne').set_to 0 _ ?_), ((Fr.refl _ _).setCell _ _ (.inl (by simp))).setCell _ _ (.inl (by simp))⟩
    · simp [tot, HX.out.2.1]
    · simp [par, HX.out.2.2.1]

/-- Texts in a new row. -/
theorem texts_new {w : World} {cs : Array Value} {t : TypeId} (ps : List ByteArray) (e : cs = (ps.map Value.string).toArray) : ∀ i (h : i < ps.length), (w.alloc (.cells cs t (0, 0))).cell? ⟨w.heap.size, i, none⟩ = some (.string ps[i]) := by
  intro i h
  rw [(Blk.new w cs t).cell i, e]
  simp [h]

/-- All bytes of texts. -/
def cat (ps : List ByteArray) : List UInt8 := (ps.map (·.data.toList)).flatten

theorem cat_take (ps : List ByteArray) (i : Nat) (h : i < ps.length) : cat (ps.take (i + 1)) = cat (ps.take i) ++ ps[i].data.toList := by
  rw [List.take_succ_eq_append_getElem h, cat, cat, List.map_append, List.flatten_append]
  simp

theorem cat_take_le (ps : List ByteArray) (i : Nat) : (cat (ps.take i)).length ≤ (cat ps).length := by
  have h : cat ps = cat (ps.take i) ++ cat (ps.drop i) := by
    rw [cat, cat, cat, ← List.flatten_append, ← List.map_append, List.take_append_drop]
  rw [h, List.length_append]
  omega

theorem cat_part_le (ps : List ByteArray) (i : Nat) (h : i < ps.length) : (cat (ps.take i)).length + ps[i].size ≤ (cat ps).length := by
  have h1 := cat_take_le ps (i + 1)
  rw [cat_take ps i h] at h1
  simp at h1
  exact h1

set_option maxHeartbeats 1000000 in
theorem sum_any (ps : List ByteArray) (b cap : Nat) (w : World) (hb : b < w.heap.size) (hc : ∀ i (h : i < ps.length), w.cell? ⟨b, i, none⟩ = some (.string ps[i])) (hn : ps.length < 70368744177664)
    (hlen : (cat ps).length < 70368744177664) :
    Calls Try.prog 75 #[.slice (some ⟨b, 0, none⟩) ps.length cap] w fun e w' => e = .returned (.int .i64 (csum (cat ps))) ∧ Fr [] w w' := by
  have hmf : ∀ (fn : Fn) (first cap : Array Value) (w : World), (Instr.makeFunc fn first cap).run Try.prog w = .ok (.func fn first cap) w := fun _ _ _ _ => rfl
  go_enter Try.func75, Try.ntmps75
  go_wp2_with fail
  go_loopw [12] (fun i wr => ∃ k : Nat, k ≤ ps.length ∧ i = .int .i64 k ∧ Hid (Blk wr w.heap.size (tot (cat (ps.take k))) 122 ∧ Blk wr (w.heap.size + 1) (par (cat (ps.take k))) 4 ∧ Fr [] w wr)) (fun i _ => ps.length - (intOf i).toNat)
  case atStart => exact ⟨0, Nat.zero_le _, rfl, (Blk.new _ _ _).alloc _, Blk.new_at (by simp) _ _, ((Fr.refl _ _).alloc _).alloc _⟩
  case round =>
    obtain ⟨k, hk, rfl, HI⟩ := hrel
    by_cases hlt : k < ps.length
    · have hcell : wr.cell? ⟨b, k, none⟩ = some (.string ps[k]) := by
        rw [← hc k hlt]
        exact HI.out.2.2.below.cell (p := ⟨b, k, none⟩) hb
      have hpl := cat_part_le ps k hlt
      have hL := cat_take ps k hlt
      generalize hp : ps[k] = p at *
      generalize hLk : cat (ps.take k) = L at *
      have HL := Lib.hid (And.intro hL (And.intro hp hLk))
      clear hL hp hLk hc
      obtain ⟨wo, rfl⟩ : ∃ wo : World, wo = wr := ⟨_, rfl⟩
      go_wp2_with fail
      go_loopw [18] (fun j wr => ∃ m : Nat, m ≤ p.size ∧ j = .int .i64 m ∧ Hid (Blk wr w.heap.size (tot (L ++ p.data.toList.take m)) 122 ∧ Blk wr (w.heap.size + 1) (par (L ++ p.data.toList.take m)) 4 ∧ Fr [] w wr)) (fun j _ => p.size - (intOf j).toNat)
      case atStart => exact ⟨0, Nat.zero_le _, rfl, by rw [List.take_zero, List.append_nil]; exact HI⟩
      case round =>
        obtain ⟨m, hm, rfl, HJ⟩ := hrel
        clear HI hcell
        by_cases hlm : m < p.size
        · have hpm : m < p.data.toList.length := by rw [Array.length_toList]; exact hlm
          have hadd := add_any (L ++ p.data.toList.take m) p.data.toList[m] (w.heap.size + 1) w.heap.size wr (by simp; omega) HJ.out.1 HJ.out.2.1 (by omega)
          rw [List.append_assoc, ← List.take_succ_eq_append_getElem hpm] at hadd
          have HA := Lib.hid hadd
          clear hadd
          have hidx : p.data[m]?.getD 0 = p.data.toList[m] := by simp [hlm]
          go_wp2_with fail
          refine HA.out.mono ?_
          rintro e w' ⟨rfl, h1, h2, h3⟩
          have HN : Hid (Blk w' w.heap.size (tot (L ++ p.data.toList.take (m + 1))) 122 ∧ Blk w' (w.heap.size + 1) (par (L ++ p.data.toList.take (m + 1))) 4 ∧ Fr [] w w') :=
            ⟨h1, h2, HJ.out.2.2.trans' h3 (by intro i hi; simp at hi; rcases hi with rfl | rfl <;> exact .inr (by omega))⟩
          clear h1 h2 h3 HA HJ
          go_wp2_with fail
          exact ⟨⟨m + 1, by omega, by go_num, HN⟩, by simp [intOf]; omega⟩
        · obtain rfl : m = p.size := by omega
          have HK : Hid (Blk wr w.heap.size (tot (cat (ps.take (k + 1)))) 122 ∧ Blk wr (w.heap.size + 1) (par (cat (ps.take (k + 1)))) 4 ∧ Fr [] w wr) := by
            have h := HJ.out
            rw [List.take_of_length_le (by simp)] at h
            rw [HL.out.1]; exact h
          go_wp2_with fail
          exact ⟨⟨k + 1, by omega, by go_num, HK⟩, by simp [intOf]; omega⟩
    · obtain rfl : k = ps.length := by omega
      rw [List.take_length] at HI
      have hc0 := HI.out.1.cell 0
      simp only [tot] at hc0
      have hb := osum_le (cat ps) false
      have hC : csum (cat ps) = 65535 - foldn (osum false (cat ps)) := rfl
      generalize osum false (cat ps) = T at *
      have HC := Lib.hid hC
      clear hC hlt hk hc
      go_wp2_with fail
      refine (fold_any T _ (by omega)).mono ?_
      rintro e w' ⟨rfl, rfl⟩
      have hf := foldn_le T
      generalize hF : foldn T = F at *
      have HF := Lib.hid hF
      clear hF
      go_wp2_with fail
      go_ret
      refine ⟨ret_eq (int_eq ?_), HI.out.2.2⟩
      have hx := i64_xor_nat F 65535 (by omega) (by omega)
      rw [xor_mask F hf] at hx
      rw [HC.out]
      exact hx

set_option maxHeartbeats 400000 in
theorem right_any (ps : List ByteArray) (b cap : Nat) (w : World) (hb : b < w.heap.size) (hc : ∀ i (h : i < ps.length), w.cell? ⟨b, i, none⟩ = some (.string ps[i])) (hn : ps.length < 70368744177664)
    (hlen : (cat ps).length < 70368744177664) :
    Calls Try.prog 58 #[.slice (some ⟨b, 0, none⟩) ps.length cap] w fun e w' => e = .returned (.bool (csum (cat ps) == 0)) ∧ Fr [] w w' := by
  have h := sum_any ps b cap w hb hc hn hlen
  have H := Lib.hid h
  clear h hc
  generalize csum (cat ps) = x at *
  go_enter Try.func58, Try.ntmps58
  go_wp2_with fail
  refine H.out.mono ?_
  rintro e w' ⟨rfl, hF⟩
  go_wp2_with fail
  go_ret
  exact ⟨ret_eq (congrArg Value.bool (by rw [Bool.eq_iff_iff]; simp)), hF⟩
end Go.Proofs.Ytlgjhacmhkbkdaa
