/- A region whose order is open, in which some operations turn the world, one behind the other. -/
import Derived.Test.YtlgjhacmhkbkdaaReg
namespace Go.Proofs.Ytlgjhacmhkbkdaa
open Go.RowKit
def upd (f : Nat → Bool) (i : Nat) : Nat → Bool := fun m => m == i || f m
section
variable {P : Program} {ops : Array Oper} {S : (Nat → Bool) → World → Prop}

/-- Operation number i leaves v. -/
def StepsF (P : Program) (ops : Array Oper) (S : (Nat → Bool) → World → Prop) (i : Nat) (o : Oper) (v : Value) (a : Act) : Prop :=
  (Region.wanted o (yielded ops a.tmps) = true ∧ ∀ f w, f i = false → (∀ e ∈ o.after, Region.binds .any e = true → f e.on = true) → S f w → RunsTo P (execOp a.eval o) w v (S (upd f i))) ∨
  (Region.wanted o (yielded ops a.tmps) = false ∧ v = undef ∧ ∀ f w, f i = false → (∀ e ∈ o.after, Region.binds .any e = true → f e.on = true) → S f w → S (upd f i) w)

theorem StepsF.of_same {i : Nat} {o : Oper} {v : Value} {a a' : Act} (hy : StepsF P ops S i o v a) (he : execOp a'.eval o = execOp a.eval o)
    (hw : Region.wanted o (yielded ops a'.tmps) = Region.wanted o (yielded ops a.tmps)) : StepsF P ops S i o v a' := by
  unfold StepsF at *
  rw [he, hw]
  exact hy

theorem StepsF.wpOp {i : Nat} {o : Oper} {v : Value} {a : Act} (hi : ops[i]? = some o) (hy : StepsF P ops S i o v a) {Q : Exit → Act → World → Prop} {K : Act → World → Prop} {f : Nat → Bool} {w : World}
    (hb : f i = false) (hd : ∀ e ∈ o.after, Region.binds .any e = true → f e.on = true) (hS : S f w) (h : ∀ w', S (upd f i) w' → K (a.put o.dst v) w') : wpOp P ops Q i K a w := by
  unfold Go.wpOp
  simp only [hi]
  rcases hy with ⟨hw, hv⟩ | ⟨hw, rfl, hs⟩
  · simp only [hw, if_true]
    refine .inl ?_
    have h1 := hv f w hb hd hS
    unfold RunsTo at h1
    unfold Oper.wp
    generalize (execOp a.eval o).run P w = r at *
    cases r with
    | halt x w' => exact h1.elim
    | ok n w' =>
      cases n with
      | value x => obtain ⟨rfl, h2⟩ := h1; exact h w' h2
      | skip => obtain ⟨rfl, h2⟩ := h1; exact h w' h2
      | enter f args => exact Calls.mono h1 fun e w'' ⟨he, h2⟩ => by subst he; exact h w'' h2
      | _ => exact h1.elim
  · simp only [hw, Bool.false_eq_true, if_false]
    exact h w (hs f w hb hd hS)

/-- Operation i as a step. -/
def stF (P : Program) (ops : Array Oper) (S : (Nat → Bool) → World → Prop) (i : Nat) (K : Act → Prop) (a : Act) : Prop :=
  match ops[i]? with
  | none => False
  | some o => ∃ v, StepsF P ops S i o v a ∧ K (a.put o.dst v)

theorem stF_mono {i : Nat} {a : Act} {K K' : Act → Prop} (h : ∀ a, K a → K' a) (hh : stF P ops S i K a) : stF P ops S i K' a := by
  unfold stF at *
  split
  · rename_i ho; simp only [ho] at hh
  · rename_i o ho
    simp only [ho] at hh
    obtain ⟨v, h1, h2⟩ := hh
    exact ⟨v, h1, h _ h2⟩

theorem stF_put {i j : Nat} {oi oj : Oper} {v : Value} (hj : ops[j]? = some oj) (hap : oi.apart ops oj = true)
    (hsi : ∀ cs b, oi.op ≠ .select cs b) (hsj : ∀ cs b, oj.op ≠ .select cs b) {K : Act → Prop} {a : Act}
    (hy : StepsF P ops S i oi v a) (h : stF P ops S j K (a.put oi.dst v)) :
    stF P ops S j (fun a' => StepsF P ops S i oi v a' ∧ K (a'.put oi.dst v)) a := by
  obtain ⟨h1, h2, h3⟩ := Oper.apart_spec hap
  unfold stF at *
  simp only [hj] at *
  obtain ⟨u, hu, hK⟩ := h
  refine ⟨u, hu.of_same (execOp_put oj hsj a oi.dst v h1).symm (wanted_put oj a oi.dst v h1).symm, hy.of_same (execOp_put oi hsi a oj.dst u h3) (wanted_put oi a oj.dst u h3), ?_⟩
  rw [← Act.put_comm a v u h2]
  exact hK

/-- Whatever order is picked. -/
def wpAnyF (P : Program) (ops : Array Oper) (S : (Nat → Bool) → World → Prop) (L : Array Bool → Act → Prop) : Nat → Array Bool → Act → Prop
  | 0, listed, a => L listed a
  | fuel + 1, listed, a => Region.ready .any ops listed ≠ [] ∧ ∀ i ∈ Region.ready .any ops listed, stF P ops S i (wpAnyF P ops S L fuel (listed.setIfInBounds i true)) a

theorem wpAny_of_F {n : Nat} {L : Array Bool → Act → Prop} {Q : Exit → Act → World → Prop} (hL : ∀ listed a w, L listed a → S (fun m => listed.getD m false) w → wpAny P .any ops Q n listed a w) :
    ∀ (fuel : Nat) (listed : Array Bool) (a : Act) (w : World), listed.size = ops.size → S (fun m => listed.getD m false) w → wpAnyF P ops S L fuel listed a → wpAny P .any ops Q (fuel + n) listed a w
  | 0, listed, a, w, _, hS, h => by rw [Nat.zero_add]; exact hL _ _ _ h hS
  | fuel + 1, listed, a, w, hz, hS, h => by
    rw [show fuel + 1 + n = (fuel + n) + 1 by omega]
    refine ⟨fun h0 => absurd h0 h.1, fun i hi => ?_⟩
    have hst := h.2 i hi
    obtain ⟨hun, oi, hoi, _⟩ := mem_ready.1 hi
    have hlt : i < listed.size := by rw [hz]; exact (Array.getElem?_eq_some_iff.1 hoi).1
    unfold stF at hst
    simp only [hoi] at hst
    obtain ⟨v, hy, hK⟩ := hst
    have hz' : (listed.setIfInBounds i true).size = ops.size := by simp [hz]
    have he : (fun m => (listed.setIfInBounds i true).getD m false) = upd (fun m => listed.getD m false) i := by
      funext m
      by_cases e : i = m
      · subst e; simp [upd, hlt]
      · rw [getD_set_ne false e]
        have : (m == i) = false := by simpa using fun h => e h.symm
        simp [upd, this]
    refine hy.wpOp hoi (getD_both hun) (fun e he hb => ?_) hS (fun w' hS' => wpAny_of_F hL fuel _ _ w' hz' (by rw [he]; exact hS') hK)
    obtain ⟨_, oi', hoi', hall⟩ := mem_ready.1 hi
    have : oi' = oi := Option.some.inj (hoi'.symm.trans hoi)
    subst this
    exact hall e he hb

theorem wpAnyF_first {i : Nat} {oi : Oper} {v : Value} {L : Array Bool → Act → Prop} (hi : ops[i]? = some oi) (hsel : ∀ (j : Nat) (o : Oper) cs b, ops[j]? = some o → o.op ≠ .select cs b)
    (hdone : ∀ listed a, L listed a → Region.ready .any ops listed = []) :
    ∀ (fuel : Nat) (listed : Array Bool) (a : Act),
      (∀ j oj, ops[j]? = some oj → j ≠ i → listed.getD j true = false → (∀ e ∈ oj.after, Region.binds .any e = true → e.on ≠ i) → oi.apart ops oj = true) →
      i ∈ Region.ready .any ops listed → StepsF P ops S i oi v a →
      wpAnyF P ops S L fuel (listed.setIfInBounds i true) (a.put oi.dst v) → wpAnyF P ops S L (fuel + 1) listed a := by
  intro fuel
  induction fuel with
  | zero =>
    intro listed a _ hr hy H
    refine ⟨fun h => (by rw [h] at hr; cases hr), fun j hj => ?_⟩
    by_cases hji : j = i
    · subst hji; unfold stF; simp only [hi]; exact ⟨v, hy, H⟩
    · have := ready_mono hj hji
      rw [hdone _ _ H] at this
      cases this
  | succ fuel ih =>
    intro listed a hfree hr hy H
    refine ⟨fun h => (by rw [h] at hr; cases hr), fun j hj => ?_⟩
    by_cases hji : j = i
    · subst hji; unfold stF; simp only [hi]; exact ⟨v, hy, H⟩
    · have h1 := H.2 j (ready_mono hj hji)
      obtain ⟨hjun, oj, hoj, hall⟩ := mem_ready.1 hj
      have hnot : ∀ e ∈ oj.after, Region.binds .any e = true → e.on ≠ i := fun e he hb heq => by
        have h1 := hall e he hb
        have h0 := (mem_ready.1 hr).1
        rw [heq, getD_both h0] at h1
        cases h1
      have h2 := stF_put hoj (hfree j oj hoj hji hjun hnot) (fun cs b => hsel i oi cs b hi) (fun cs b => hsel j oj cs b hoj) hy h1
      have hfree' : ∀ q oq, ops[q]? = some oq → q ≠ i → (listed.setIfInBounds j true).getD q true = false →
          (∀ e ∈ oq.after, Region.binds .any e = true → e.on ≠ i) → oi.apart ops oq = true := fun q oq hq hqi hun hno => by
        refine hfree q oq hq hqi ?_ hno
        by_cases hjq : j = q
        · subst hjq; exact hjun
        · rw [getD_set_ne true hjq] at hun; exact hun
      refine stF_mono (fun a' h3 => ih (listed.setIfInBounds j true) a' hfree' (ready_mono hr (Ne.symm hji)) h3.1 ?_) h2
      rw [Array.setIfInBounds_comm _ _ hji]
      exact h3.2

/-- In the order of the text. -/
def wpF (P : Program) (ops : Array Oper) (S : (Nat → Bool) → World → Prop) (Q : Act → Prop) : List Oper → Nat → Act → Prop
  | [], _, a => Q a
  | o :: rest, i, a => ∃ v, StepsF P ops S i o v a ∧ wpF P ops S Q rest (i + 1) (a.put o.dst v)

theorem wpAnyF_lex {L : Act → Prop} (hs : Region.noSelect ops = true) : ∀ (l : List Oper) (j : Nat) (listed : Array Bool) (a : Act), (∀ m, l[m]? = ops[j + m]?) → listed.size = ops.size →
    (∀ m, m < ops.size → listed.getD m false = decide (m < j)) → j + l.length = ops.size →
    Region.lexFrom .any ops l.length j listed = true → wpF P ops S L l j a → wpAnyF P ops S (fun listed' a' => Region.ready .any ops listed' = [] ∧ (∀ m, m < ops.size → listed'.getD m false = true) ∧ listed'.size = ops.size ∧ L a') l.length listed a
  | [], j, listed, a, _, hz, hl, hj, hB, h => by
    simp only [List.length_nil, Nat.add_zero] at hj
    exact ⟨by simpa [Region.lexFrom] using hB, fun m hm => by rw [hl m hm]; simp; omega, hz, h⟩
  | o :: l, j, listed, a, hl, hz, hls, hj, hB, h => by
    have h0 : ops[j]? = some o := by simpa using (hl 0).symm
    simp only [List.length_cons, Region.lexFrom, Bool.and_eq_true] at hB
    obtain ⟨⟨hr, hf⟩, hB'⟩ := hB
    obtain ⟨v, hy, hK⟩ := h
    refine wpAnyF_first h0 (Region.noSelect_spec hs) (fun _ _ h => h.1) l.length listed a (Region.free_spec h0 hf) (by simpa using hr) hy
      (wpAnyF_lex hs l (j + 1) _ _ (fun m => by have := hl (m + 1); simpa [Nat.add_assoc, Nat.add_comm 1 m] using this) (by simp [hz]) (fun m hm => ?_) (by simp only [List.length_cons] at hj; omega) hB' hK)
    by_cases e : j = m
    · subst e
      have hlt : j < listed.size := by rw [hz]; exact hm
      simp [hlt]
    · rw [getD_set_ne false e, hls m hm]
      have : (decide (m < j) : Bool) = decide (m < j + 1) := by
        rw [Bool.eq_iff_iff]; simp; omega
      exact this

/-- THE REGION. -/
theorem wp_region_f {id : Nat} {Q : Exit → Act → World → Prop} {a : Act} {w : World} {l : List Oper} (S : (Nat → Bool) → World → Prop) (hm : P.follows .mixedOrders = true) (hB : Region.lexB .any l.toArray = true)
    (h0 : S (fun _ => false) w.drew) (h : wpF P l.toArray S (fun a' => ∀ f w', (∀ m, m < l.length → f m = true) → S f w' → Q .normal a' w') l 0 a) : (Code.region id l.toArray true).wp P Q a w := by
  simp only [Region.lexB, Bool.and_eq_true] at hB
  refine wp_region_any hm ?_
  have hz : (Array.replicate l.toArray.size false).size = l.toArray.size := by simp
  have H := wpAnyF_lex (P := P) (S := S) hB.1 l 0 (Array.replicate l.toArray.size false) a (by simp) hz (fun m hm => by rw [getD_replicate_false]; simp) (by simp) (by simpa using hB.2) h
  have hS0 : S (fun m => (Array.replicate l.toArray.size false).getD m false) w.drew := by
    have : (fun m => (Array.replicate l.toArray.size false).getD m false) = fun _ => false := by funext m; rw [getD_replicate_false]
    rw [this]; exact h0
  have := wpAny_of_F (P := P) (S := S) (n := 0) (Q := Q) (fun listed a' w' hL hS => ?_) l.length _ a w.drew hz hS0 H
  · simpa using this
  · exact ⟨hL.1, hL.2.2.2 _ w' (fun m hm => hL.2.1 m (by simpa using hm)) hS⟩

/-! ### Some operations turn the world, one behind the other -/
/-- How many have been carried out. -/
def stg (f : Nat → Bool) : List Nat → Nat
  | [] => 0
  | k :: r => if f k then stg f r + 1 else 0
def closedF (f : Nat → Bool) : List Nat → Prop
  | [] => True
  | k :: r => (f k = false → ∀ m ∈ r, f m = false) ∧ closedF f r

theorem stg_same {f g : Nat → Bool} : ∀ (ks : List Nat), (∀ m ∈ ks, f m = g m) → stg f ks = stg g ks
  | [], _ => rfl
  | k :: r, h => by unfold stg; rw [h k (by simp), stg_same r fun m hm => h m (by simp [hm])]
theorem closed_same {f g : Nat → Bool} : ∀ (ks : List Nat), (∀ m ∈ ks, f m = g m) → closedF f ks → closedF g ks
  | [], _, _ => trivial
  | k :: r, h, ⟨h1, h2⟩ => ⟨fun hk m hm => by rw [← h m (by simp [hm])]; exact h1 (by rw [h k (by simp)]; exact hk) m hm, closed_same r (fun m hm => h m (by simp [hm])) h2⟩

theorem stg_all {f : Nat → Bool} : ∀ (ks : List Nat), (∀ m ∈ ks, f m = true) → stg f ks = ks.length
  | [], _ => rfl
  | k :: r, h => by unfold stg; rw [if_pos (h k (by simp)), stg_all r fun m hm => h m (by simp [hm])]; rfl
theorem stg_none {f : Nat → Bool} : ∀ (ks : List Nat), (∀ m ∈ ks, f m = false) → stg f ks = 0
  | [], _ => rfl
  | k :: r, h => by unfold stg; rw [if_neg (by rw [h k (by simp)]; simp)]
theorem closed_none {f : Nat → Bool} : ∀ (ks : List Nat), (∀ m ∈ ks, f m = false) → closedF f ks
  | [], _ => trivial
  | k :: r, h => ⟨fun _ m hm => h m (by simp [hm]), closed_none r fun m hm => h m (by simp [hm])⟩

/-- All of pre are done, i not, and so none of post: then i is. -/
theorem stg_turn {f : Nat → Bool} {i : Nat} {post : List Nat} (hi : f i = false) (hpost : i ∉ post) : ∀ (pre : List Nat), i ∉ pre → (∀ q, pre.getLast? = some q → f q = true) → closedF f (pre ++ i :: post) →
    stg f (pre ++ i :: post) = pre.length ∧ stg (upd f i) (pre ++ i :: post) = pre.length + 1 ∧ closedF (upd f i) (pre ++ i :: post)
  | [], _, _, hc => by
    have hp := hc.1 hi
    have hu : ∀ m ∈ post, upd f i m = false := fun m hm => by
      unfold upd
      have : (m == i) = false := by simpa using fun e => hpost (by rw [← e]; exact hm)
      rw [this, hp m hm]; rfl
    have hui : upd f i i = true := by simp [upd]
    refine ⟨by simp [stg, hi], by simp [stg, hui, stg_none post hu], fun h => ?_, closed_none post hu⟩
    rw [hui] at h; cases h
  | k :: r, hn, hl, hc => by
    simp only [List.mem_cons, not_or] at hn
    have hk : f k = true := by
      cases hr : r with
      | nil => exact hl k (by simp [hr])
      | cons y z =>
        cases hf : f k with
        | true => rfl
        | false =>
          have h1 := hc.1 hf
          obtain ⟨q, hq⟩ : ∃ q, r.getLast? = some q := ⟨_, by rw [hr]; exact List.getLast?_eq_some_getLast (by simp)⟩
          have h2 := hl q (by rw [List.getLast?_cons, hq]; rfl)
          have h3 := h1 q (by simp [List.mem_of_getLast? hq])
          rw [h3] at h2; cases h2
    have hl' : ∀ q, r.getLast? = some q → f q = true := fun q hq => hl q (by rw [List.getLast?_cons, hq]; rfl)
    obtain ⟨h1, h2, h3⟩ := stg_turn hi hpost r hn.2 hl' hc.2
    have huk : upd f i k = true := by simp [upd, hk]
    refine ⟨by simp only [List.cons_append, stg, hk, if_true, h1, List.length_cons], by simp only [List.cons_append, stg, huk, if_true, h2, List.length_cons], fun h => ?_, h3⟩
    rw [huk] at h; cases h

/-- What an operation waits for is done once it is. -/
def depsF (ops : Array Oper) (f : Nat → Bool) : Prop := ∀ i o, ops[i]? = some o → f i = true → ∀ e ∈ o.after, Region.binds .any e = true → f e.on = true

theorem depsF_upd {f : Nat → Bool} {i : Nat} {o : Oper} (ho : ops[i]? = some o) (h : depsF ops f) (hd : ∀ e ∈ o.after, Region.binds .any e = true → f e.on = true) : depsF ops (upd f i) := by
  intro j oj hj hfj e he hb
  unfold upd at hfj ⊢
  by_cases hji : j = i
  · subst hji
    obtain rfl : o = oj := Option.some.inj (ho.symm.trans hj)
    rw [hd e he hb]; simp
  · have : (j == i) = false := by simpa using hji
    rw [this] at hfj
    rw [h j oj hj hfj e he hb]; simp

/-- The property while the operations ks come. -/
def StF (ops : Array Oper) (ks : List Nat) (S : Nat → World → Prop) (f : Nat → Bool) (w : World) : Prop := closedF f ks ∧ depsF ops f ∧ S (stg f ks) w

/-- Does an operation wait for the last of those? -/
def waitsB (o : Oper) (pre : List Nat) : Bool := match pre.getLast? with
  | none => true
  | some q => o.after.toList.any fun e => Region.binds .any e && e.on == q

/-- Does the operation ks[j] wait for i? -/
def belowB (ops : Array Oper) (ks : List Nat) (i j : Nat) : Bool := match ks[j]? with
  | none => true
  | some q => match ops[q]? with
    | none => false
    | some o => o.after.toList.any fun e => Region.binds .any e && e.on == i

theorem stg_len (f : Nat → Bool) : ∀ (ks : List Nat), stg f ks ≤ ks.length
  | [] => Nat.le_refl _
  | k :: r => by unfold stg; split <;> simp [stg_len f r]

theorem stg_le {f : Nat → Bool} {q : Nat} : ∀ (ks : List Nat) (j : Nat), ks[j]? = some q → f q = false → stg f ks ≤ j
  | [], _, h, _ => by simp at h
  | k :: r, 0, h, hq => by simp at h; subst h; unfold stg; simp [hq]
  | k :: r, j + 1, h, hq => by
    unfold stg
    split
    · have := stg_le r j (by simpa using h) hq; omega
    · omega

theorem stg_below {ks : List Nat} {f : Nat → Bool} {i j : Nat} (hb : belowB ops ks i j = true) (hd : depsF ops f) (hf : f i = false) : stg f ks ≤ j := by
  unfold belowB at hb
  cases hk : ks[j]? with
  | none => have := stg_len f ks; rw [List.getElem?_eq_none_iff] at hk; omega
  | some q =>
    rw [hk] at hb
    simp only at hb
    cases ho : ops[q]? with
    | none => rw [ho] at hb; cases hb
    | some o =>
      rw [ho] at hb
      simp only [List.any_eq_true, Bool.and_eq_true, beq_iff_eq] at hb
      obtain ⟨m, hm, h1, h2⟩ := hb
      refine stg_le ks j hk ?_
      cases hq : f q with
      | false => rfl
      | true =>
        have := hd q o ho hq _ (by simpa using hm) h1
        rw [h2, hf] at this; cases this

variable {ks : List Nat} {T : Nat → World → Prop}

/-- An operation that turns nothing, ahead of ks[j]. -/
theorem wpF_still {o : Oper} {rest : List Oper} {i : Nat} {a : Act} {Q : Act → Prop} {v : Value} (j : Nat) (hi : ks.contains i = false) (hb : belowB ops ks i j = true) (ho : ops[i]? = some o) (hw : Region.wanted o (yielded ops a.tmps) = true)
    (h : ∀ n w, n ≤ j → T n w → RunsTo P (execOp a.eval o) w v (T n)) (hr : ∀ K : Act → Prop, (∀ a', wpF P ops (StF ops ks T) Q rest (i + 1) a' → K a') → K (a.put o.dst v)) : wpF P ops (StF ops ks T) Q (o :: rest) i a := by
  refine ⟨v, .inl ⟨hw, fun f w hf hdep hS => ?_⟩, hr _ (fun _ h => h)⟩
  have hne : ∀ m ∈ ks, f m = upd f i m := fun m hm => by
    have : (m == i) = false := by simp at hi; simpa using fun e => hi (by rw [← e]; exact hm)
    simp [upd, this]
  have h1 := h _ w (stg_below hb hS.2.1 hf) hS.2.2
  have he : StF ops ks T (upd f i) = T (stg f ks) := by
    funext w'
    unfold StF
    rw [← stg_same ks hne]
    exact propext ⟨fun h => h.2.2, fun h => ⟨closed_same ks hne hS.1, depsF_upd ho hS.2.1 hdep, h⟩⟩
  rw [he]; exact h1

/-- Number i turns the world. -/
theorem wpF_turn {o : Oper} {rest : List Oper} {i : Nat} {a : Act} {Q : Act → Prop} {v : Value} (pre post : List Nat) (hks : ks = pre ++ i :: post) (hp : (pre.contains i || post.contains i) = false) (hd : waitsB o pre = true) (ho : ops[i]? = some o) (hw : Region.wanted o (yielded ops a.tmps) = true)
    (h : ∀ w, T pre.length w → RunsTo P (execOp a.eval o) w v (T (pre.length + 1))) (hr : ∀ K : Act → Prop, (∀ a', wpF P ops (StF ops ks T) Q rest (i + 1) a' → K a') → K (a.put o.dst v)) : wpF P ops (StF ops ks T) Q (o :: rest) i a := by
  refine ⟨v, .inl ⟨hw, fun f w hf hdep hS => ?_⟩, hr _ (fun _ h => h)⟩
  subst hks
  simp only [Bool.or_eq_false_iff, List.contains_eq_mem, decide_eq_false_iff_not] at hp
  obtain ⟨h1, h2, h3⟩ := stg_turn hf hp.2 pre hp.1 (fun q hq => by
    unfold waitsB at hd
    rw [hq] at hd
    simp only [List.any_eq_true, Bool.and_eq_true, beq_iff_eq] at hd
    obtain ⟨j, hj, hb, he⟩ := hd
    rw [← he]; exact hdep _ (by simpa using hj) hb) hS.1
  have hT := hS.2.2
  rw [h1] at hT
  have he : StF ops (pre ++ i :: post) T (upd f i) = T (pre.length + 1) := by
    funext w'
    unfold StF
    rw [h2]
    exact propext ⟨fun h => h.2.2, fun h => ⟨h3, depsF_upd ho hS.2.1 hdep, h⟩⟩
  rw [he]; exact h w hT

theorem wpF_nil {i : Nat} {a : Act} {Q : Act → Prop} {S : (Nat → Bool) → World → Prop} (h : Q a) : wpF P ops S Q [] i a := h

/-- append as an operation. -/
theorem runs_append {o : Oper} {a : Act} {s x : Operand} {t : TypeId} (ho : o.op = .call { callee := .builtin .append, args := #[s, x], argTypes := #[t, t] }) {V1 V2 v : Value} {w w' : World} {T : World → Prop} (hs : a.eval s = V1) (hx : a.eval x = V2)
    (hr : (Builtin.append_ #[t, t] o.type #[V1, V2]).run P w = .ok v w') (hT : T w') : RunsTo P (execOp a.eval o) w v T := by
  unfold RunsTo execOp
  simp only [ho, resolve, invoke, builtin, Sem.run_bind, Sem.run_pure, Result.andThen_ok, List.map_toArray, List.map_cons, List.map_nil, hs, hx, hr]
  exact ⟨rfl, hT⟩

theorem wp_region_stages {id : Nat} {Q : Exit → Act → World → Prop} {a : Act} {w : World} {l : List Oper} (ks : List Nat) (T : Nat → World → Prop) (hm : P.follows .mixedOrders = true) (hB : Region.lexB .any l.toArray = true) (hks : ks.all (fun k => decide (k < l.length)) = true)
    (h0 : T 0 w.drew) (h : wpF P l.toArray (StF l.toArray ks T) (fun a' => ∀ w', T ks.length w' → Q .normal a' w') l 0 a) : (Code.region id l.toArray true).wp P Q a w := by
  refine wp_region_f (StF l.toArray ks T) hm hB ⟨closed_none ks (fun _ _ => rfl), (fun _ _ _ h => by cases h), by rw [stg_none ks (fun _ _ => rfl)]; exact h0⟩ ?_
  have hmono : ∀ (l' : List Oper) (i : Nat) (a : Act) {K K' : Act → Prop}, (∀ a, K a → K' a) → wpF P l.toArray (StF l.toArray ks T) K l' i a → wpF P l.toArray (StF l.toArray ks T) K' l' i a := by
    intro l'
    induction l' with
    | nil => intro i a K K' hK h; exact hK _ h
    | cons o r ih => intro i a K K' hK ⟨v, h1, h2⟩; exact ⟨v, h1, ih _ _ hK h2⟩
  refine hmono l 0 a (fun a' h f w' hf hS => h w' ?_) h
  have := hS.2.2
  rw [stg_all ks (fun m hm => hf m (by have := List.all_eq_true.1 hks m hm; simpa using this))] at this
  exact this
end
end Go.Proofs.Ytlgjhacmhkbkdaa
