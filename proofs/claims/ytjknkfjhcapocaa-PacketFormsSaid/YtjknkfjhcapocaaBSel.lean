/- Effects laid one over the other in an open order; the operations that have to come before. -/
import Derived.Test.YtjknkfjhcapocaaBOk
namespace Go.Proofs.Ytjknkfjhcapocaa.AX
set_option linter.unusedVariables false

section
variable {α : Type}
def hasKey (e : List (Nat × α)) (t : Nat) : Bool := e.any fun p => Nat.beq p.1 t
theorem hasKey_cons (k : Nat) (v : α) (e : List (Nat × α)) (t : Nat) : hasKey ((k, v) :: e) t = (Nat.beq k t || hasKey e t) := rfl
theorem beq_comm' (a b : Nat) : Nat.beq a b = Nat.beq b a := by
  cases h : Nat.beq a b with
  | true => have := Nat.eq_of_beq_eq_true h; subst this; exact h.symm
  | false =>
    cases h2 : Nat.beq b a with
    | false => rfl
    | true => have := Nat.eq_of_beq_eq_true h2; subst this; rw [h] at h2; exact h2
theorem look_append (d : α) : ∀ (e b : List (Nat × α)) (t : Nat), look d (e ++ b) t = bif hasKey e t then look d e t else look d b t := by
  intro e
  induction e with
  | nil => intro b t; rfl
  | cons p e ih =>
    intro b t
    obtain ⟨k, v⟩ := p
    rw [hasKey_cons, List.cons_append, look, look, ih, beq_comm' k t]
    cases Nat.beq t k <;> simp

/-- The effects that S chooses, laid over b in their order. -/
def sel (S : Nat → Bool) : List (List (Nat × α)) → Nat → List (Nat × α) → List (Nat × α)
  | [], _, b => b
  | e :: es, k, b => sel S es (k + 1) (bif S k then e ++ b else b)

theorem sel_congr (d : α) (t : Nat) (S S' : Nat → Bool) : ∀ (es : List (List (Nat × α))) (k : Nat) (b b' : List (Nat × α)), look d b t = look d b' t →
    (∀ j e, es[j]? = some e → hasKey e t = true → S (k + j) = S' (k + j)) → look d (sel S es k b) t = look d (sel S' es k b') t := by
  intro es
  induction es with
  | nil => intro k b b' h _; exact h
  | cons e es ih =>
    intro k b b' h hs
    rw [sel, sel]
    refine ih _ _ _ ?_ fun j e' he hk => ?_
    · cases hk : hasKey e t with
      | true =>
        have h0 := hs 0 e rfl hk
        rw [Nat.add_zero] at h0
        rw [← h0]
        cases S k with
        | true => rw [cond_true, cond_true, look_append, look_append, hk]; rfl
        | false => exact h
      | false =>
        have : ∀ (c : Bool) (x : List (Nat × α)), look d (bif c then e ++ x else x) t = look d x t := fun c x => by
          cases c with
          | true => rw [cond_true, look_append, hk]; rfl
          | false => rfl
        rw [this, this, h]
    · have := hs (j + 1) e' (by simpa using he) hk
      rw [show k + 1 + j = k + (j + 1) by omega]
      exact this

theorem sel_over (d : α) (S : Nat → Bool) (E : List (Nat × α)) : ∀ (es : List (List (Nat × α))) (k : Nat) (b : List (Nat × α)) (t : Nat),
    (∀ j e, es[j]? = some e → S (k + j) = true → ∀ t, hasKey E t = true → hasKey e t = false) → look d (sel S es k (E ++ b)) t = look d (E ++ sel S es k b) t := by
  intro es k b t h
  cases hE : hasKey E t with
  | true =>
    rw [look_append, hE, cond_true]
    have h1 : look d (sel S es k (E ++ b)) t = look d (sel (fun _ => false) es k (E ++ b)) t := sel_congr d t _ _ es k _ _ rfl fun j e he hk => by
      cases hS : S (k + j) with
      | false => rfl
      | true => rw [h j e he hS t hE] at hk; cases hk
    rw [h1]
    have h2 : ∀ (es : List (List (Nat × α))) (k : Nat) (x : List (Nat × α)), sel (fun _ => false) es k x = x := by
      intro es
      induction es with
      | nil => intro k x; rfl
      | cons e es ih => intro k x; rw [sel]; exact ih _ _
    rw [h2, look_append, hE]; rfl
  | false =>
    rw [look_append, hE, cond_false]
    exact sel_congr d t _ _ es k _ _ (by rw [look_append, hE]; rfl) fun _ _ _ _ => rfl

/-- One more effect is chosen. -/
theorem sel_more (d : α) (S : Nat → Bool) : ∀ (es : List (List (Nat × α))) (k : Nat) (b : List (Nat × α)) (m : Nat) (E : List (Nat × α)) (t : Nat), es[m]? = some E → S (k + m) = false →
    (∀ j e, m < j → es[j]? = some e → S (k + j) = true → ∀ t, hasKey E t = true → hasKey e t = false) →
    look d (sel (fun x => x == k + m || S x) es k b) t = look d (E ++ sel S es k b) t := by
  intro es
  induction es with
  | nil => intro k b m E t h; cases m <;> cases h
  | cons e es ih =>
    intro k b m E t he hS hj
    cases m with
    | zero =>
      simp only [List.getElem?_cons_zero, Option.some.injEq] at he
      subst he
      simp only [Nat.add_zero] at hS
      rw [sel, sel]
      simp only [Nat.add_zero, beq_self_eq_true, Bool.true_or, cond_true, hS, cond_false]
      have h1 : look d (sel (fun x => x == k || S x) es (k + 1) (e ++ b)) t = look d (sel S es (k + 1) (e ++ b)) t := sel_congr d t _ _ es _ _ _ rfl fun j _ _ _ => by
        have : (k + 1 + j == k) = false := by simp; omega
        simp [this]
      rw [h1]
      exact sel_over d S e es (k + 1) b t fun j e' he' hS' t ht => hj (j + 1) e' (by omega) (by simpa using he') (by rw [show k + (j + 1) = k + 1 + j by omega]; exact hS') t ht
    | succ m =>
      have he' : es[m]? = some E := by simpa using he
      have hk : (k == k + (m + 1)) = false := by simp
      rw [sel, sel]
      simp only [hk, Bool.false_or]
      have := ih (k + 1) (bif S k then e ++ b else b) m E t he' (by rw [show k + 1 + m = k + (m + 1) by omega]; exact hS) (fun j e' hmj hej hSj => hj (j + 1) e' (by omega) (by simpa using hej) (by rw [show k + (j + 1) = k + 1 + j by omega]; exact hSj))
      rw [show k + 1 + m = k + (m + 1) by omega] at this
      exact this

/-- The effects of the first m operations. -/
theorem sel_take : ∀ (es : List (List (Nat × α))) (k m : Nat) (b : List (Nat × α)), sel (fun x => decide (x < k + m)) es k b = sel (fun _ => true) (es.take m) k b := by
  intro es
  induction es with
  | nil => intro k m b; simp [sel]
  | cons e es ih =>
    intro k m b
    cases m with
    | zero =>
      rw [List.take_zero]
      simp only [Nat.add_zero]
      have : ∀ (es : List (List (Nat × α))) (q : Nat) (x : List (Nat × α)), k ≤ q → sel (fun x => decide (x < k)) es q x = x := by
        intro es
        induction es with
        | nil => intro q x _; rfl
        | cons e es ih => intro q x hq; rw [sel, decide_eq_false (by omega), cond_false]; exact ih _ _ (by omega)
      exact this _ _ _ (Nat.le_refl _)
    | succ m =>
      rw [List.take_succ_cons, sel, sel, decide_eq_true (by omega)]
      have := ih (k + 1) m (e ++ b)
      rw [show k + 1 + m = k + (m + 1) by omega] at this
      exact this
end

/-! ### Which operations come before -/
def mask (acc : List Nat) (o : Oper) : Nat := o.after.toList.foldl (fun s e => bif Region.binds .any e then s ||| (2 ^ e.on ||| (acc[e.on]?).getD 0) else s) 0
def masks : List Oper → List Nat → List Nat
  | [], acc => acc
  | o :: os, acc => masks os (acc ++ [mask acc o])

theorem mask_fold {acc : List Nat} {Z : Nat → Prop} {j : Nat} : ∀ (l : List Edge) (s : Nat), (s.testBit j = true → Z j) → (∀ e ∈ l, Region.binds .any e = true → (∀ x, (x = e.on ∨ ((acc[e.on]?).getD 0).testBit x = true) → Z x)) →
    (l.foldl (fun s e => bif Region.binds .any e then s ||| (2 ^ e.on ||| (acc[e.on]?).getD 0) else s) s).testBit j = true → Z j := by
  intro l
  induction l with
  | nil => intro s hs _ h; exact hs h
  | cons e l ih =>
    intro s hs hl h
    rw [List.foldl_cons] at h
    refine ih _ (fun h1 => ?_) (fun e' he' => hl e' (List.mem_cons_of_mem _ he')) h
    cases hb : Region.binds .any e with
    | false => rw [hb, cond_false] at h1; exact hs h1
    | true =>
      rw [hb, cond_true, Nat.testBit_or, Nat.testBit_or, Nat.testBit_two_pow] at h1
      simp only [Bool.or_eq_true, decide_eq_true_eq] at h1
      rcases h1 with h1 | h1 | h1
      · exact hs h1
      · exact hl e (List.mem_cons_self ..) hb j (.inl h1.symm)
      · exact hl e (List.mem_cons_self ..) hb j (.inr h1)

/-- What is closed under the edges is closed under the masks. -/
theorem masks_closed {ops : List Oper} {Z : Nat → Prop} (hZ : ∀ i o, ops[i]? = some o → Z i → ∀ e ∈ o.after, Region.binds .any e = true → Z e.on) :
    ∀ (os : List Oper) (acc : List Nat), (∀ j, os[j]? = ops[acc.length + j]?) → (∀ i m, acc[i]? = some m → Z i → ∀ j, m.testBit j = true → Z j) →
    ∀ i m, (masks os acc)[i]? = some m → Z i → ∀ j, m.testBit j = true → Z j := by
  intro os
  induction os with
  | nil => intro acc _ h; exact h
  | cons o os ih =>
    intro acc hos h
    refine ih (acc ++ [mask acc o]) (fun j => ?_) (fun i m hi hz j hj => ?_)
    · have := hos (j + 1)
      simp only [List.getElem?_cons_succ] at this
      rw [this, List.length_append, List.length_singleton]
      congr 1; omega
    · rcases Nat.lt_or_ge i acc.length with hlt | hge
      · rw [List.getElem?_append_left hlt] at hi
        exact h i m hi hz j hj
      · rw [List.getElem?_append_right hge] at hi
        have h0 : i - acc.length = 0 := by
          rcases Nat.eq_zero_or_pos (i - acc.length) with h0 | h0
          · exact h0
          · rw [List.getElem?_eq_none (by simp; omega)] at hi; cases hi
        rw [h0] at hi
        simp only [List.getElem?_cons_zero, Option.some.injEq] at hi
        subst hi
        have hio : ops[i]? = some o := by
          have := hos 0
          simp only [List.getElem?_cons_zero, Nat.add_zero] at this
          rw [show i = acc.length by omega]; exact this.symm
        refine mask_fold (Z := Z) o.after.toList 0 (fun h1 => by simp at h1) (fun e he hb x hx => ?_) hj
        have hZe := hZ i o hio hz e (by simpa using he) hb
        rcases hx with rfl | hx
        · exact hZe
        · cases ha : acc[e.on]? with
          | none => rw [ha] at hx; simp at hx
          | some m' => rw [ha] at hx; exact h e.on m' ha hZe x hx
end Go.Proofs.Ytjknkfjhcapocaa.AX
