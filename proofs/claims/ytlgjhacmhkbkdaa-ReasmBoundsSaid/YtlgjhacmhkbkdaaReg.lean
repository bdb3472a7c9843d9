/- A region whose order is open, walked once in the order of the text: every operation leaves one value, in every world that keeps one property. One operation (number k) may turn that property. -/
import Derived.Test.YtlgjhacmhkbkdaaBase2
import Derived.StillTail
import Derived.Tactics
namespace Go.Proofs.Ytlgjhacmhkbkdaa
open Go.RowKit
section
variable {P : Program} {ops : Array Oper} {md : Region.Mode} {S : Bool → World → Prop} {k : Nat}

/-- What an operation's run comes to: the value v, in a world that meets T. -/
def RunsUpon (P : Program) (v : Value) (T : World → Prop) : Result Next → Prop
  | .ok (.value x) w' => x = v ∧ T w'
  | .ok .skip w' => undef = v ∧ T w'
  | .ok (.enter f args) w' => Calls P f args w' (fun e w'' => e = .returned v ∧ T w'')
  | _ => False

def RunsTo (P : Program) (m : Sem Next) (w : World) (v : Value) (T : World → Prop) : Prop := RunsUpon P v T (m.run P w)

theorem runsUpon_value (v x : Value) (T : World → Prop) (w : World) : RunsUpon P v T (.ok (.value x) w) = (x = v ∧ T w) := rfl
theorem runsUpon_skip (v : Value) (T : World → Prop) (w : World) : RunsUpon P v T (.ok .skip w) = (undef = v ∧ T w) := rfl
theorem runsUpon_enter (v : Value) (T : World → Prop) (w : World) (f : FuncId) (args : Array Value) : RunsUpon P v T (.ok (.enter f args) w) = Calls P f args w (fun e w'' => e = .returned v ∧ T w'') := rfl

/-- Operation number i leaves v. -/
def StepsTo (P : Program) (ops : Array Oper) (S : Bool → World → Prop) (k i : Nat) (o : Oper) (v : Value) (a : Act) : Prop :=
  (Region.wanted o (yielded ops a.tmps) = true ∧ ∀ b w, (i = k → b = false) → S b w → RunsTo P (execOp a.eval o) w v (S (b || i == k))) ∨
  (Region.wanted o (yielded ops a.tmps) = false ∧ v = undef ∧ ∀ b w, (i = k → b = false) → S b w → S (b || i == k) w)

theorem StepsTo.of_same {i : Nat} {o : Oper} {v : Value} {a a' : Act} (hy : StepsTo P ops S k i o v a) (he : execOp a'.eval o = execOp a.eval o)
    (hw : Region.wanted o (yielded ops a'.tmps) = Region.wanted o (yielded ops a.tmps)) : StepsTo P ops S k i o v a' := by
  unfold StepsTo at *
  rw [he, hw]
  exact hy

theorem StepsTo.wpOp {i : Nat} {o : Oper} {v : Value} {a : Act} (hi : ops[i]? = some o) (hy : StepsTo P ops S k i o v a) {Q : Exit → Act → World → Prop} {K : Act → World → Prop} {b : Bool} {w : World}
    (hb : i = k → b = false) (hS : S b w) (h : ∀ w', S (b || i == k) w' → K (a.put o.dst v) w') : wpOp P ops Q i K a w := by
  unfold Go.wpOp
  simp only [hi]
  rcases hy with ⟨hw, hv⟩ | ⟨hw, rfl, hs⟩
  · simp only [hw, if_true]
    refine .inl ?_
    have h1 := hv b w hb hS
    unfold RunsTo at h1
    unfold Oper.wp
    generalize (execOp a.eval o).run P w = r at *
    cases r with
    | halt x w' => exact h1.elim
    | ok n w' =>
      cases n with
      | value x => obtain ⟨rfl, h2⟩ := h1; exact h w' h2
      | skip => obtain ⟨rfl, h2⟩ := h1; exact h w' h2
      | enter f args => exact Calls.mono h1 fun e w'' ⟨he, h2⟩ => by subst he; exact h w'' h2
      | _ => exact h1.elim
  · simp only [hw, Bool.false_eq_true, if_false]
    exact h w (hs b w hb hS)

/-- Operation i as a step. -/
def stI (P : Program) (ops : Array Oper) (S : Bool → World → Prop) (k i : Nat) (K : Act → Prop) (a : Act) : Prop :=
  match ops[i]? with
  | none => False
  | some o => ∃ v, StepsTo P ops S k i o v a ∧ K (a.put o.dst v)

theorem stI_mono {i : Nat} {a : Act} {K K' : Act → Prop} (h : ∀ a, K a → K' a) (hh : stI P ops S k i K a) : stI P ops S k i K' a := by
  unfold stI at *
  split
  · rename_i ho; simp only [ho] at hh
  · rename_i o ho
    simp only [ho] at hh
    obtain ⟨v, h1, h2⟩ := hh
    exact ⟨v, h1, h _ h2⟩

theorem stI_put {i j : Nat} {oi oj : Oper} {v : Value} (hj : ops[j]? = some oj) (hap : oi.apart ops oj = true)
    (hsi : ∀ cs b, oi.op ≠ .select cs b) (hsj : ∀ cs b, oj.op ≠ .select cs b) {K : Act → Prop} {a : Act}
    (hy : StepsTo P ops S k i oi v a) (h : stI P ops S k j K (a.put oi.dst v)) :
    stI P ops S k j (fun a' => StepsTo P ops S k i oi v a' ∧ K (a'.put oi.dst v)) a := by
  obtain ⟨h1, h2, h3⟩ := Oper.apart_spec hap
  unfold stI at *
  simp only [hj] at *
  obtain ⟨u, hu, hK⟩ := h
  refine ⟨u, hu.of_same (execOp_put oj hsj a oi.dst v h1).symm (wanted_put oj a oi.dst v h1).symm, hy.of_same (execOp_put oi hsi a oj.dst u h3) (wanted_put oi a oj.dst u h3), ?_⟩
  rw [← Act.put_comm a v u h2]
  exact hK

/-- Whatever order is picked. -/
def wpAnyI (P : Program) (md : Region.Mode) (ops : Array Oper) (S : Bool → World → Prop) (k : Nat) (L : Array Bool → Act → Prop) : Nat → Array Bool → Act → Prop
  | 0, listed, a => L listed a
  | fuel + 1, listed, a => Region.ready md ops listed ≠ [] ∧ ∀ i ∈ Region.ready md ops listed, stI P ops S k i (wpAnyI P md ops S k L fuel (listed.setIfInBounds i true)) a

theorem wpAny_of_I {n : Nat} {L : Array Bool → Act → Prop} {Q : Exit → Act → World → Prop} (hL : ∀ listed a w, L listed a → S (listed.getD k false) w → wpAny P md ops Q n listed a w) :
    ∀ (fuel : Nat) (listed : Array Bool) (a : Act) (w : World), listed.size = ops.size → S (listed.getD k false) w → wpAnyI P md ops S k L fuel listed a → wpAny P md ops Q (fuel + n) listed a w
  | 0, listed, a, w, _, hS, h => by rw [Nat.zero_add]; exact hL _ _ _ h hS
  | fuel + 1, listed, a, w, hz, hS, h => by
    rw [show fuel + 1 + n = (fuel + n) + 1 by omega]
    refine ⟨fun h0 => absurd h0 h.1, fun i hi => ?_⟩
    have hst := h.2 i hi
    obtain ⟨hun, oi, hoi, _⟩ := mem_ready.1 hi
    have hlt : i < listed.size := by rw [hz]; exact (Array.getElem?_eq_some_iff.1 hoi).1
    unfold stI at hst
    simp only [hoi] at hst
    obtain ⟨v, hy, hK⟩ := hst
    refine hy.wpOp hoi (fun e => ?_) hS (fun w' hS' => wpAny_of_I hL fuel _ _ w' (by simp [hz]) ?_ hK)
    · subst e; exact getD_both hun
    · by_cases e : i = k
      · subst e
        have : (listed.setIfInBounds i true).getD i false = true := by simp [hlt]
        rw [this]
        simpa using hS'
      · rw [getD_set_ne false e]
        have : (i == k) = false := by simpa using e
        simpa [this] using hS'

theorem wpAnyI_first {i : Nat} {oi : Oper} {v : Value} {L : Array Bool → Act → Prop} (hi : ops[i]? = some oi) (hsel : ∀ (j : Nat) (o : Oper) cs b, ops[j]? = some o → o.op ≠ .select cs b)
    (hdone : ∀ listed a, L listed a → Region.ready md ops listed = []) :
    ∀ (fuel : Nat) (listed : Array Bool) (a : Act),
      (∀ j oj, ops[j]? = some oj → j ≠ i → listed.getD j true = false → (∀ e ∈ oj.after, Region.binds md e = true → e.on ≠ i) → oi.apart ops oj = true) →
      i ∈ Region.ready md ops listed → StepsTo P ops S k i oi v a →
      wpAnyI P md ops S k L fuel (listed.setIfInBounds i true) (a.put oi.dst v) → wpAnyI P md ops S k L (fuel + 1) listed a := by
  intro fuel
  induction fuel with
  | zero =>
    intro listed a _ hr hy H
    refine ⟨fun h => (by rw [h] at hr; cases hr), fun j hj => ?_⟩
    by_cases hji : j = i
    · subst hji; unfold stI; simp only [hi]; exact ⟨v, hy, H⟩
    · have := ready_mono hj hji
      rw [hdone _ _ H] at this
      cases this
  | succ fuel ih =>
    intro listed a hfree hr hy H
    refine ⟨fun h => (by rw [h] at hr; cases hr), fun j hj => ?_⟩
    by_cases hji : j = i
    · subst hji; unfold stI; simp only [hi]; exact ⟨v, hy, H⟩
    · have h1 := H.2 j (ready_mono hj hji)
      obtain ⟨hjun, oj, hoj, hall⟩ := mem_ready.1 hj
      have hnot : ∀ e ∈ oj.after, Region.binds md e = true → e.on ≠ i := fun e he hb heq => by
        have h1 := hall e he hb
        have h0 := (mem_ready.1 hr).1
        rw [heq, getD_both h0] at h1
        cases h1
      have h2 := stI_put hoj (hfree j oj hoj hji hjun hnot) (fun cs b => hsel i oi cs b hi) (fun cs b => hsel j oj cs b hoj) hy h1
      have hfree' : ∀ q oq, ops[q]? = some oq → q ≠ i → (listed.setIfInBounds j true).getD q true = false →
          (∀ e ∈ oq.after, Region.binds md e = true → e.on ≠ i) → oi.apart ops oq = true := fun q oq hq hqi hun hno => by
        refine hfree q oq hq hqi ?_ hno
        by_cases hjq : j = q
        · subst hjq; exact hjun
        · rw [getD_set_ne true hjq] at hun; exact hun
      refine stI_mono (fun a' h3 => ih (listed.setIfInBounds j true) a' hfree' (ready_mono hr (Ne.symm hji)) h3.1 ?_) h2
      rw [Array.setIfInBounds_comm _ _ hji]
      exact h3.2

/-- In the order of the text. -/
def wpI (P : Program) (ops : Array Oper) (S : Bool → World → Prop) (k : Nat) (Q : Act → Prop) : List Oper → Nat → Act → Prop
  | [], _, a => Q a
  | o :: rest, i, a => ∃ v, StepsTo P ops S k i o v a ∧ wpI P ops S k Q rest (i + 1) (a.put o.dst v)

theorem wpAnyI_lex {L : Act → Prop} (hs : Region.noSelect ops = true) : ∀ (l : List Oper) (j : Nat) (listed : Array Bool) (a : Act), (∀ m, l[m]? = ops[j + m]?) → listed.size = ops.size →
    (∀ m, m < ops.size → listed.getD m false = decide (m < j)) → j + l.length = ops.size →
    Region.lexFrom md ops l.length j listed = true → wpI P ops S k L l j a → wpAnyI P md ops S k (fun listed' a' => Region.ready md ops listed' = [] ∧ (∀ m, m < ops.size → listed'.getD m false = true) ∧ listed'.size = ops.size ∧ L a') l.length listed a
  | [], j, listed, a, _, hz, hl, hj, hB, h => by
    simp only [List.length_nil, Nat.add_zero] at hj
    exact ⟨by simpa [Region.lexFrom] using hB, fun m hm => by rw [hl m hm]; simp; omega, hz, h⟩
  | o :: l, j, listed, a, hl, hz, hls, hj, hB, h => by
    have h0 : ops[j]? = some o := by simpa using (hl 0).symm
    simp only [List.length_cons, Region.lexFrom, Bool.and_eq_true] at hB
    obtain ⟨⟨hr, hf⟩, hB'⟩ := hB
    obtain ⟨v, hy, hK⟩ := h
    refine wpAnyI_first h0 (Region.noSelect_spec hs) (fun _ _ h => h.1) l.length listed a (Region.free_spec h0 hf) (by simpa using hr) hy
      (wpAnyI_lex hs l (j + 1) _ _ (fun m => by have := hl (m + 1); simpa [Nat.add_assoc, Nat.add_comm 1 m] using this) (by simp [hz]) (fun m hm => ?_) (by simp only [List.length_cons] at hj; omega) hB' hK)
    by_cases e : j = m
    · subst e
      have hlt : j < listed.size := by rw [hz]; exact hm
      simp [hlt]
    · rw [getD_set_ne false e, hls m hm]
      have : (decide (m < j) : Bool) = decide (m < j + 1) := by
        rw [Bool.eq_iff_iff]; simp; omega
      exact this

/-- THE REGION. S false: at its head; S true: behind operation k (S false to its end, if there is none). -/
theorem wp_region_inv {id : Nat} {Q : Exit → Act → World → Prop} {a : Act} {w : World} {l : List Oper} (S : Bool → World → Prop) (k : Nat) (hm : P.follows .mixedOrders = true) (hB : Region.lexB .any l.toArray = true)
    (h0 : S false w.drew) (h : wpI P l.toArray S k (fun a' => ∀ w', S (decide (k < l.length)) w' → Q .normal a' w') l 0 a) : (Code.region id l.toArray true).wp P Q a w := by
  simp only [Region.lexB, Bool.and_eq_true] at hB
  refine wp_region_any hm ?_
  have hz : (Array.replicate l.toArray.size false).size = l.toArray.size := by simp
  have H := wpAnyI_lex (P := P) (md := .any) (S := S) (k := k) hB.1 l 0 (Array.replicate l.toArray.size false) a (by simp) hz (fun m hm => by rw [getD_replicate_false]; simp) (by simp) (by simpa using hB.2) h
  have hS0 : S ((Array.replicate l.toArray.size false).getD k false) w.drew := by rw [getD_replicate_false]; exact h0
  have := wpAny_of_I (P := P) (md := .any) (S := S) (k := k) (n := 0) (Q := Q) (fun listed a' w' hL hS => ?_) l.length _ a w.drew hz hS0 H
  · simpa using this
  · refine ⟨hL.1, hL.2.2.2 w' ?_⟩
    by_cases hk : k < l.length
    · rw [hL.2.1 k (by simpa using hk)] at hS
      simpa [hk] using hS
    · have h1 : listed.getD k false = false := by
        have h2 : listed.size ≤ k := by rw [hL.2.2.1]; simp; omega
        simp [Array.getElem?_eq_none h2]
      rw [h1] at hS
      simpa [hk] using hS

/-- One operation that is carried out. -/
theorem wpI_op {o : Oper} {rest : List Oper} {i : Nat} {a : Act} {Q : Act → Prop} {v : Value} (hw : Region.wanted o (yielded ops a.tmps) = true)
    (h : ∀ b w, (i = k → b = false) → S b w → RunsTo P (execOp a.eval o) w v (S (b || i == k))) (hr : ∀ K : Act → Prop, (∀ a', wpI P ops S k Q rest (i + 1) a' → K a') → K (a.put o.dst v)) : wpI P ops S k Q (o :: rest) i a :=
  ⟨v, .inl ⟨hw, h⟩, hr _ (fun _ h => h)⟩

/-- One operation that is not number k. -/
theorem wpI_same {o : Oper} {rest : List Oper} {i : Nat} {a : Act} {Q : Act → Prop} {v : Value} (hi : (i == k) = false) (hw : Region.wanted o (yielded ops a.tmps) = true)
    (h : ∀ b w, S b w → RunsTo P (execOp a.eval o) w v (S b)) (hr : ∀ K : Act → Prop, (∀ a', wpI P ops S k Q rest (i + 1) a' → K a') → K (a.put o.dst v)) : wpI P ops S k Q (o :: rest) i a :=
  wpI_op hw (fun b w _ hS => by rw [hi, Bool.or_false]; exact h b w hS) hr

/-- Number k. -/
theorem wpI_turn {o : Oper} {rest : List Oper} {i : Nat} {a : Act} {Q : Act → Prop} {v : Value} (hi : (i == k) = true) (hw : Region.wanted o (yielded ops a.tmps) = true)
    (h : ∀ w, S false w → RunsTo P (execOp a.eval o) w v (S true)) (hr : ∀ K : Act → Prop, (∀ a', wpI P ops S k Q rest (i + 1) a' → K a') → K (a.put o.dst v)) : wpI P ops S k Q (o :: rest) i a :=
  wpI_op hw (fun b w hb hS => by rw [hi, Bool.or_true]; rw [hb (by simpa using hi)] at hS; exact h w hS) hr

theorem wpI_pass {o : Oper} {rest : List Oper} {i : Nat} {a : Act} {Q : Act → Prop} (hi : (i == k) = false) (hw : Region.wanted o (yielded ops a.tmps) = false)
    (hr : ∀ K : Act → Prop, (∀ a', wpI P ops S k Q rest (i + 1) a' → K a') → K (a.put o.dst undef)) : wpI P ops S k Q (o :: rest) i a :=
  ⟨undef, .inr ⟨hw, rfl, fun b w _ hS => by rw [hi, Bool.or_false]; exact hS⟩, hr _ (fun _ h => h)⟩

/-- One operation that does not turn the property. -/
theorem wpI_one {T : World → Prop} {o : Oper} {rest : List Oper} {i : Nat} {a : Act} {Q : Act → Prop} {v : Value} (hw : Region.wanted o (yielded ops a.tmps) = true)
    (h : ∀ w, T w → RunsTo P (execOp a.eval o) w v T) (hr : ∀ K : Act → Prop, (∀ a', wpI P ops (fun _ => T) k Q rest (i + 1) a' → K a') → K (a.put o.dst v)) : wpI P ops (fun _ => T) k Q (o :: rest) i a :=
  ⟨v, .inl ⟨hw, fun _ w _ hT => h w hT⟩, hr _ (fun _ h => h)⟩

/-- One that is not. -/
theorem wpI_skip {T : World → Prop} {o : Oper} {rest : List Oper} {i : Nat} {a : Act} {Q : Act → Prop} (hw : Region.wanted o (yielded ops a.tmps) = false)
    (hr : ∀ K : Act → Prop, (∀ a', wpI P ops (fun _ => T) k Q rest (i + 1) a' → K a') → K (a.put o.dst undef)) : wpI P ops (fun _ => T) k Q (o :: rest) i a :=
  ⟨undef, .inr ⟨hw, rfl, fun _ _ _ h => h⟩, hr _ (fun _ h => h)⟩

theorem wpI_nil {i : Nat} {a : Act} {Q : Act → Prop} (h : Q a) : wpI P ops S k Q [] i a := h

/-- THE REGION, with one property of the world. -/
theorem wp_region_keep {id : Nat} {Q : Exit → Act → World → Prop} {a : Act} {w : World} {l : List Oper} (T : World → Prop) (hm : P.follows .mixedOrders = true) (hB : Region.lexB .any l.toArray = true)
    (h0 : T w.drew) (h : wpI P l.toArray (fun _ => T) 0 (fun a' => ∀ w', T w' → Q .normal a' w') l 0 a) : (Code.region id l.toArray true).wp P Q a w :=
  wp_region_inv (fun _ => T) 0 hm hB h0 h

/-- The same for operations in the order of the text. -/
theorem wpList_keep {Q : Exit → Act → World → Prop} (T : World → Prop) : ∀ (l : List Oper) (i : Nat) (a : Act) (w : World), T w →
    wpI P ops (fun _ => T) k (fun a' => ∀ w', T w' → Q .normal a' w') l i a → wpList P ops Q l a w
  | [], _, _, w, h0, h => h w h0
  | o :: l, i, a, w, h0, h => by
    obtain ⟨v, hy, hK⟩ := h
    unfold wpList
    rcases hy with ⟨hw, hv⟩ | ⟨hw, rfl, hs⟩
    · simp only [hw, if_true]
      refine .inl ?_
      by_cases hik : i = k
      · have h1 := hv false w (fun _ => rfl) h0
        unfold RunsTo at h1
        unfold Oper.wp
        generalize (execOp a.eval o).run P w = r at *
        cases r with
        | halt x w' => exact h1.elim
        | ok n w' =>
          cases n with
          | value x => obtain ⟨rfl, h2⟩ := h1; exact wpList_keep T l (i + 1) _ w' h2 hK
          | skip => obtain ⟨rfl, h2⟩ := h1; exact wpList_keep T l (i + 1) _ w' h2 hK
          | enter f args => exact Calls.mono h1 fun e w'' ⟨he, h2⟩ => by subst he; exact wpList_keep T l (i + 1) _ w'' h2 hK
          | _ => exact h1.elim
      · have h1 := hv false w (fun e => absurd e hik) h0
        unfold RunsTo at h1
        unfold Oper.wp
        generalize (execOp a.eval o).run P w = r at *
        cases r with
        | halt x w' => exact h1.elim
        | ok n w' =>
          cases n with
          | value x => obtain ⟨rfl, h2⟩ := h1; exact wpList_keep T l (i + 1) _ w' h2 hK
          | skip => obtain ⟨rfl, h2⟩ := h1; exact wpList_keep T l (i + 1) _ w' h2 hK
          | enter f args => exact Calls.mono h1 fun e w'' ⟨he, h2⟩ => by subst he; exact wpList_keep T l (i + 1) _ w'' h2 hK
          | _ => exact h1.elim
    · simp only [hw, Bool.false_eq_true, if_false]
      exact wpList_keep T l (i + 1) _ w h0 hK

/-- A region in the order of the text, with one property of the world. -/
theorem wp_plain_keep {id : Nat} {Q : Exit → Act → World → Prop} {a : Act} {w : World} {l : List Oper} (T : World → Prop) (h0 : T w)
    (h : wpI P l.toArray (fun _ => T) 0 (fun a' => ∀ w', T w' → Q .normal a' w') l 0 a) : (Code.region id l.toArray false).wp P Q a w :=
  wp_region_lit (wpList_keep T l 0 a w h0 h)

/-- The world by a name. -/
theorem Code.world {c : Code} {Q : Exit → Act → World → Prop} {a : Act} {W : World} (h : ∀ W0, W0 = W → c.wp P Q a W0) : c.wp P Q a W := h W rfl

attribute [go_sem] RunsTo runsUpon_value runsUpon_skip runsUpon_enter
end
end Go.Proofs.Ytlgjhacmhkbkdaa
