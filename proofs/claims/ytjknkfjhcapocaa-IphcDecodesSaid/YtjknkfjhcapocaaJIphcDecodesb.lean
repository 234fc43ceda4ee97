/- Texts of one's own in one file: BSel, BReg, BAny, BExec, BLib, BLoop, BDet, BFn, BMeth, BCod, Tys, Ge, Tp, Lr, Fl, Bg, Plain, PkL. -/
import Derived.Test.YtjknkfjhcapocaaJIphcDecodesa
import Derived.LoopN
import Derived.Test.YtjknkfjhcapocaaChecked
import Derived.IntWalk
import Derived.Deep.Slices
import Derived.OpenShut
import Derived.DataReads
import Derived.ChangeArms
set_option linter.unusedVariables false
set_option linter.unusedSimpArgs false
set_option maxHeartbeats 16000000
set_option maxRecDepth 20000
namespace Go.Proofs.Ytjknkfjhcapocaa.AX
section
variable {α : Type}
def hasKey (e : List (Nat × α)) (t : Nat) : Bool := e.any fun p => Nat.beq p.1 t
theorem hasKey_cons (k : Nat) (v : α) (e : List (Nat × α)) (t : Nat) : hasKey ((k, v) :: e) t = (Nat.beq k t || hasKey e t) := rfl
theorem beq_comm' (a b : Nat) : Nat.beq a b = Nat.beq b a := by
 cases h : Nat.beq a b with
 | true => have := Nat.eq_of_beq_eq_true h; subst this; exact h.symm
 | false =>
   cases h2 : Nat.beq b a with
   | false => rfl
   | true => have := Nat.eq_of_beq_eq_true h2; subst this; rw [h] at h2; exact h2
theorem look_append (d : α) : ∀ (e b : List (Nat × α)) (t : Nat), look d (e ++ b) t = bif hasKey e t then look d e t else look d b t := by
 intro e
 induction e with
 | nil => intro b t; rfl
 | cons p e ih =>
   intro b t
   obtain ⟨k, v⟩ := p
   rw [hasKey_cons, List.cons_append, look, look, ih, beq_comm' k t]
   cases Nat.beq t k <;> simp
def sel (S : Nat -> Bool) : List (List (Nat × α)) -> Nat -> List (Nat × α) -> List (Nat × α)
 | [], _, b => b
 | e :: es, k, b => sel S es (k + 1) (bif S k then e ++ b else b)
theorem sel_congr (d : α) (t : Nat) (S S' : Nat -> Bool) : ∀ (es : List (List (Nat × α))) (k : Nat) (b b' : List (Nat × α)), look d b t = look d b' t ->
 (∀ j e, es[j]? = some e -> hasKey e t = true -> S (k + j) = S' (k + j)) -> look d (sel S es k b) t = look d (sel S' es k b') t := by
 intro es
 induction es with
 | nil => intro k b b' h _; exact h
 | cons e es ih =>
   intro k b b' h hs
   rw [sel, sel]
   refine ih _ _ _ ?_ fun j e' he hk => ?_
   . cases hk : hasKey e t with
     | true =>
       have h0 := hs 0 e rfl hk
       rw [Nat.add_zero] at h0
       rw [<- h0]
       cases S k with
       | true => rw [cond_true, cond_true, look_append, look_append, hk]; rfl
       | false => exact h
     | false =>
       have : ∀ (c : Bool) (x : List (Nat × α)), look d (bif c then e ++ x else x) t = look d x t := fun c x => by
        cases c with
        | true => rw [cond_true, look_append, hk]; rfl
        | false => rfl
       rw [this, this, h]
   . have := hs (j + 1) e' (by simpa using he) hk
     rw [show k + 1 + j = k + (j + 1) by omega]
     exact this
theorem sel_over (d : α) (S : Nat -> Bool) (E : List (Nat × α)) : ∀ (es : List (List (Nat × α))) (k : Nat) (b : List (Nat × α)) (t : Nat),
 (∀ j e, es[j]? = some e -> S (k + j) = true -> ∀ t, hasKey E t = true -> hasKey e t = false) -> look d (sel S es k (E ++ b)) t = look d (E ++ sel S es k b) t := by
 intro es k b t h
 cases hE : hasKey E t with
 | true =>
   rw [look_append, hE, cond_true]
   have h1 : look d (sel S es k (E ++ b)) t = look d (sel (fun _ => false) es k (E ++ b)) t := sel_congr d t _ _ es k _ _ rfl fun j e he hk => by
    cases hS : S (k + j) with
    | false => rfl
    | true => rw [h j e he hS t hE] at hk; cases hk
   rw [h1]
   have h2 : ∀ (es : List (List (Nat × α))) (k : Nat) (x : List (Nat × α)), sel (fun _ => false) es k x = x := by
    intro es
    induction es with
    | nil => intro k x; rfl
    | cons e es ih => intro k x; rw [sel]; exact ih _ _
   rw [h2, look_append, hE]; rfl
 | false =>
   rw [look_append, hE, cond_false]
   exact sel_congr d t _ _ es k _ _ (by rw [look_append, hE]; rfl) fun _ _ _ _ => rfl
theorem sel_more (d : α) (S : Nat -> Bool) : ∀ (es : List (List (Nat × α))) (k : Nat) (b : List (Nat × α)) (m : Nat) (E : List (Nat × α)) (t : Nat), es[m]? = some E -> S (k + m) = false ->
 (∀ j e, m < j -> es[j]? = some e -> S (k + j) = true -> ∀ t, hasKey E t = true -> hasKey e t = false) ->
 look d (sel (fun x => x == k + m || S x) es k b) t = look d (E ++ sel S es k b) t := by
 intro es
 induction es with
 | nil => intro k b m E t h; cases m <;> cases h
 | cons e es ih =>
   intro k b m E t he hS hj
   cases m with
   | zero =>
     simp only [List.getElem?_cons_zero, Option.some.injEq] at he
     subst he
     simp only [Nat.add_zero] at hS
     rw [sel, sel]
     simp only [Nat.add_zero, beq_self_eq_true, Bool.true_or, cond_true, hS, cond_false]
     have h1 : look d (sel (fun x => x == k || S x) es (k + 1) (e ++ b)) t = look d (sel S es (k + 1) (e ++ b)) t := sel_congr d t _ _ es _ _ _ rfl fun j _ _ _ => by
      have : (k + 1 + j == k) = false := by simp; omega
      simp [this]
     rw [h1]
     exact sel_over d S e es (k + 1) b t fun j e' he' hS' t ht => hj (j + 1) e' (by omega) (by simpa using he') (by rw [show k + (j + 1) = k + 1 + j by omega]; exact hS') t ht
   | succ m =>
     have he' : es[m]? = some E := by simpa using he
     have hk : (k == k + (m + 1)) = false := by simp
     rw [sel, sel]
     simp only [hk, Bool.false_or]
     have := ih (k + 1) (bif S k then e ++ b else b) m E t he' (by rw [show k + 1 + m = k + (m + 1) by omega]; exact hS) (fun j e' hmj hej hSj => hj (j + 1) e' (by omega) (by simpa using hej) (by rw [show k + (j + 1) = k + 1 + j by omega]; exact hSj))
     rw [show k + 1 + m = k + (m + 1) by omega] at this
     exact this
theorem sel_take : ∀ (es : List (List (Nat × α))) (k m : Nat) (b : List (Nat × α)), sel (fun x => decide (x < k + m)) es k b = sel (fun _ => true) (es.take m) k b := by
 intro es
 induction es with
 | nil => intro k m b; simp [sel]
 | cons e es ih =>
   intro k m b
   cases m with
   | zero =>
     rw [List.take_zero]
     simp only [Nat.add_zero]
     have : ∀ (es : List (List (Nat × α))) (q : Nat) (x : List (Nat × α)), k <= q -> sel (fun x => decide (x < k)) es q x = x := by
      intro es
      induction es with
      | nil => intro q x _; rfl
      | cons e es ih => intro q x hq; rw [sel, decide_eq_false (by omega), cond_false]; exact ih _ _ (by omega)
     exact this _ _ _ (Nat.le_refl _)
   | succ m =>
     rw [List.take_succ_cons, sel, sel, decide_eq_true (by omega)]
     have := ih (k + 1) m (e ++ b)
     rw [show k + 1 + m = k + (m + 1) by omega] at this
     exact this
end
def mask (acc : List Nat) (o : Oper) : Nat := o.after.toList.foldl (fun s e => bif Region.binds .any e then s ||| (2 ^ e.on ||| (acc[e.on]?).getD 0) else s) 0
def masks : List Oper -> List Nat -> List Nat
 | [], acc => acc
 | o :: os, acc => masks os (acc ++ [mask acc o])
theorem mask_fold {acc : List Nat} {Z : Nat -> Prop} {j : Nat} : ∀ (l : List Edge) (s : Nat), (s.testBit j = true -> Z j) -> (∀ e ∈ l, Region.binds .any e = true -> (∀ x, (x = e.on \/ ((acc[e.on]?).getD 0).testBit x = true) -> Z x)) ->
 (l.foldl (fun s e => bif Region.binds .any e then s ||| (2 ^ e.on ||| (acc[e.on]?).getD 0) else s) s).testBit j = true -> Z j := by
 intro l
 induction l with
 | nil => intro s hs _ h; exact hs h
 | cons e l ih =>
   intro s hs hl h
   rw [List.foldl_cons] at h
   refine ih _ (fun h1 => ?_) (fun e' he' => hl e' (List.mem_cons_of_mem _ he')) h
   cases hb : Region.binds .any e with
   | false => rw [hb, cond_false] at h1; exact hs h1
   | true =>
     rw [hb, cond_true, Nat.testBit_or, Nat.testBit_or, Nat.testBit_two_pow] at h1
     simp only [Bool.or_eq_true, decide_eq_true_eq] at h1
     rcases h1 with h1 | h1 | h1
     . exact hs h1
     . exact hl e (List.mem_cons_self ..) hb j (.inl h1.symm)
     . exact hl e (List.mem_cons_self ..) hb j (.inr h1)
theorem masks_closed {ops : List Oper} {Z : Nat -> Prop} (hZ : ∀ i o, ops[i]? = some o -> Z i -> ∀ e ∈ o.after, Region.binds .any e = true -> Z e.on) :
 ∀ (os : List Oper) (acc : List Nat), (∀ j, os[j]? = ops[acc.length + j]?) -> (∀ i m, acc[i]? = some m -> Z i -> ∀ j, m.testBit j = true -> Z j) ->
 ∀ i m, (masks os acc)[i]? = some m -> Z i -> ∀ j, m.testBit j = true -> Z j := by
 intro os
 induction os with
 | nil => intro acc _ h; exact h
 | cons o os ih =>
   intro acc hos h
   refine ih (acc ++ [mask acc o]) (fun j => ?_) (fun i m hi hz j hj => ?_)
   . have := hos (j + 1)
     simp only [List.getElem?_cons_succ] at this
     rw [this, List.length_append, List.length_singleton]
     congr 1; omega
   . rcases Nat.lt_or_ge i acc.length with hlt | hge
     . rw [List.getElem?_append_left hlt] at hi
       exact h i m hi hz j hj
     . rw [List.getElem?_append_right hge] at hi
       have h0 : i - acc.length = 0 := by
        rcases Nat.eq_zero_or_pos (i - acc.length) with h0 | h0
        . exact h0
        . rw [List.getElem?_eq_none (by simp; omega)] at hi; cases hi
       rw [h0] at hi
       simp only [List.getElem?_cons_zero, Option.some.injEq] at hi
       subst hi
       have hio : ops[i]? = some o := by
        have := hos 0
        simp only [List.getElem?_cons_zero, Nat.add_zero] at this
        rw [show i = acc.length by omega]; exact this.symm
       refine mask_fold (Z := Z) o.after.toList 0 (fun h1 => by simp at h1) (fun e he hb x hx => ?_) hj
       have hZe := hZ i o hio hz e (by simpa using he) hb
       rcases hx with rfl | hx
       . exact hZe
       . cases ha : acc[e.on]? with
         | none => rw [ha] at hx; simp at hx
         | some m' => rw [ha] at hx; exact h e.on m' ha hZe x hx
end Go.Proofs.Ytjknkfjhcapocaa.AX
namespace Go.Proofs.Ytjknkfjhcapocaa.AX
open Go.RowKit
def tmpsOf (o : Op) : List Nat := o.operands.toList.filterMap fun | .tmp t => some t | _ => none
theorem ev_congr {fr fr' : Fr} {o : Op} (h : ∀ t ∈ tmpsOf o, fget fr t = fget fr' t) {x : Operand} (hx : x ∈ o.operands) : ev fr x = ev fr' x := by
 cases x with
 | tmp t => exact h t (List.mem_filterMap.2 ⟨.tmp t, by simpa using hx, rfl⟩)
 | const v => rfl
 | global g => rfl
 | func f => rfl
theorem loadF_rd {ti : TI} {m : Nat} {g : Nat -> CV} {lit : Bool} {q : Option Prop} {rd : List Nat} {sr : SR} (h : loadF ti m g lit q rd = some sr) : sr.rd = rd := by
 unfold loadF at h
 split at h
 . injection h with h; subst h; rfl
 . injection h with h; subst h; rfl
 . rw [CV.see_eq] at h; injection h with h; subst h; rfl
theorem cond_some {α : Type} {c : Bool} {a b : α} (h : (bif c then some a else none) = some b) : c = true /\ a = b := by
 cases c with
 | true => exact ⟨rfl, by injection h⟩
 | false => cases h
theorem srcOf_congr {H H' : Hp} {sz : Nat} {x : FV} {s : Src} (h : srcOf H sz x = some s) (hh : ∀ k ∈ s.rd, hget H k = hget H' k) : srcOf H' sz x = some s := by
 unfold srcOf at h ⊢
 split at h
 . exact h
 . exact h
 . rename_i nm i n
   try simp only
   split at h
   . rename_i et en es ev f he
     cases hb : Nat.beq es sz with
     | false => rw [hb] at h; cases h
     | true =>
       rw [hb, cond_true] at h
       injection h with h; subst h
       rw [<- hh nm (List.mem_singleton.2 rfl), he]
       simp only [hb, cond_true]
   . cases h
 . rename_i nm i j n s'
   try simp only
   split at h
   . rename_i et en es ev f he
     cases hb : Nat.beq s' sz with
     | false => rw [hb] at h; cases h
     | true =>
       rw [hb, cond_true] at h
       injection h with h; subst h
       rw [<- hh nm (List.mem_singleton.2 rfl), he]
       simp only [hb, cond_true]
   . cases h
 . cases h
theorem callB_congr {T : Tys} {b : Builtin} {ts : Array TypeId} {args : List FV} {H H' : Hp} {nm : Nat} {sr : SR} (h : callB T b ts args H nm = some sr) (hh : ∀ k ∈ sr.rd, hget H k = hget H' k) : callB T b ts args H' nm = some sr := by
 unfold callB at h ⊢
 split at h
 . exact h
 . exact h
 . exact h
 . rename_i x y
   try simp only
   split at h
   . rename_i t t' hts
     try simp only [hts]
     cases hbt : Nat.beq t t' with
     | false => rw [hbt] at h; cases h
     | true =>
       rw [hbt, cond_true] at h
       rw [cond_true]
       split at h
       . rename_i e es s0 z0 eq0 by0 hTt
         try simp only
         split at h
         . rename_i d1 s1 z eq1 bytes m g p rd hTe hsrc
           have hrd : ∀ k ∈ rd, k ∈ sr.rd := by
            cases hbz : Nat.beq z.length es with
            | false => rw [hbz] at h; cases h
            | true =>
              rw [hbz, cond_true] at h
              split at h
              . injection h with h; subst h; exact fun k hk => hk
              . split at h
                . obtain ⟨_, h⟩ := cond_some h
                  subst h; exact fun k hk => List.mem_cons_of_mem _ hk
                . cases h
              . cases h
           cases hb0 : Nat.blt 0 es with
           | false => rw [hb0] at hsrc; cases hsrc
           | true =>
             rw [hb0, cond_true] at hsrc
             rw [cond_true, srcOf_congr hsrc (fun k hk => hh k (hrd k hk)), hTe]
             try simp only
             cases hbz : Nat.beq z.length es with
             | false => rw [hbz] at h; cases h
             | true =>
               rw [hbz, cond_true] at h
               rw [cond_true]
               split at h
               . exact h
               . rename_i k i n
                 try simp only
                 split at h
                 . rename_i et en esz f he
                   cases hbc : (Nat.beq i 0 && Nat.beq esz es && Nat.beq et e) with
                   | false => rw [hbc] at h; cases h
                   | true =>
                     rw [hbc, cond_true] at h
                     injection h with h; subst h
                     rw [<- hh k (List.mem_cons_self ..), he]
                     simp only [hbc, cond_true]
                 . cases h
               . cases h
         . cases h
       . cases h
   . cases h
 . rename_i x y
   try simp only
   split at h
   . rename_i t ht
     try simp only
     split at h
     . rename_i e es s0 z0 eq0 by0 hTt
       try simp only
       split at h
       . rename_i m g p rd hsrc
         have hrd : ∀ k ∈ rd, k ∈ sr.rd := by
          split at h
          . split at h
            . obtain ⟨_, h⟩ := cond_some h
              subst h; exact fun k hk => List.mem_cons_of_mem _ hk
            . cases h
          . split at h
            . obtain ⟨_, h⟩ := cond_some h
              subst h; exact fun k hk => List.mem_cons_of_mem _ hk
            . cases h
          . cases h
         cases hb0 : Nat.blt 0 es with
         | false => rw [hb0] at hsrc; cases hsrc
         | true =>
           rw [hb0, cond_true] at hsrc
           rw [cond_true, srcOf_congr hsrc (fun k hk => hh k (hrd k hk))]
           try simp only
           split at h
           . rename_i k i n
             try simp only
             split at h
             . rename_i et en esz f he
               cases hbc : Nat.beq esz es with
               | false => rw [hbc] at h; cases h
               | true =>
                 rw [hbc, cond_true] at h
                 injection h with h; subst h
                 rw [<- hh k (List.mem_cons_self ..), he]
                 simp only [hbc, cond_true]
             . cases h
           . rename_i k i j n s
             try simp only
             split at h
             . rename_i et en esz v f he
               cases hbc : Nat.beq s es with
               | false => rw [hbc] at h; cases h
               | true =>
                 rw [hbc, cond_true] at h
                 injection h with h; subst h
                 rw [<- hh k (List.mem_cons_self ..), he]
                 simp only [hbc, cond_true]
             . cases h
           . cases h
       . cases h
     . cases h
   . cases h
 . cases h
theorem sliceF_congr {T : Tys} {t : TypeId} {x : FV} {lo hi : Option FV} {H H' : Hp} {sr : SR} (h : sliceF T H t x lo hi = some sr) (hh : ∀ k ∈ sr.rd, hget H k = hget H' k) : sliceF T H' t x lo hi = some sr := by
 unfold sliceF at h ⊢
 split at h
 . exact h
 . rename_i e es s0 z0 eq0 by0 k i n ht
   try simp only
   split at h
   . rename_i p l q hb
     try simp only
     split at h
     . rename_i et en esz ev0 ef he
       cases hb0 : Nat.beq esz es with
       | false => rw [hb0] at h; cases h
       | true =>
         rw [hb0, cond_true] at h
         injection h with h; subst h
         rw [<- hh k (List.mem_singleton.2 rfl), he]
         simp only [hb0, cond_true]
     . cases h
   . cases h
 . exact h
 . exact h
 . exact h
 . cases h
theorem mapGet_congr {T : Tys} {H H' : Hp} {t : TypeId} {x k : FV} {ok : Bool} {sr : SR} (h : mapGet T H t x k ok = some sr) (hh : ∀ k ∈ sr.rd, hget H k = hget H' k) : mapGet T H' t x k ok = some sr := by
 unfold mapGet at h ⊢
 split at h
 . rename_i kt et ks vs ka va _ _ _ _ nm hTt
   try simp only
   split at h
   . rename_i et' n sz b f kn l g ed z0 z eq0 by0 hH hkey hTe
     obtain ⟨hb, hs⟩ := cond_see h
     have hs' := Option.some.inj hs
     have hrd : nm ∈ sr.rd := by rw [<- hs']; exact List.mem_singleton.2 rfl
     rw [<- hh nm hrd, hH, hTe]
     simp only [hkey]
     exact h
   . cases h
 . cases h
theorem mapSet_congr {T : Tys} {H H' : Hp} {t : TypeId} {x k v : FV} {sr : SR} (h : mapSet T H t x k v = some sr) (hh : ∀ k ∈ sr.rd, hget H k = hget H' k) : mapSet T H' t x k v = some sr := by
 unfold mapSet at h ⊢
 split at h
 . rename_i kt et ks vs ka va _ _ _ _ nm ve hTt
   try simp only
   split at h
   . rename_i et' n sz b f kn l g vn vg hH hkey hcv
     obtain ⟨hb, hs⟩ := cond_some' h
     have hrd : nm ∈ sr.rd := by rw [<- hs]; exact List.mem_singleton.2 rfl
     rw [<- hh nm hrd, hH, hcv]
     simp only [hkey]
     exact h
   . cases h
 . cases h
theorem stepF_congr {T : Tys} {o : Op} {fr fr' : Fr} {H H' : Hp} {nm : Nat} {sr : SR} (h : stepF T o fr H nm = some sr) (hf : ∀ t ∈ tmpsOf o, fget fr t = fget fr' t) (hh : ∀ k ∈ sr.rd, hget H k = hget H' k) :
 stepF T o fr' H' nm = some sr := by
 have E : ∀ x, x ∈ o.operands -> ev fr x = ev fr' x := fun x hx => ev_congr hf hx
 cases o
 case load t x =>
  have e1 := E x (by simp [Op.operands])
  simp only [stepF] at h ⊢
  rw [<- e1]
  split at h
  . rename_i ti k i j sym h1 h2
    split at h
    . rename_i et en es v ef he
      have := hh k (by rw [loadF_rd h]; exact List.mem_singleton.2 rfl)
      rw [<- this, he]
      exact h
    . cases h
  . exact h
  . cases h
 case store t x y =>
  have e1 := E x (by simp [Op.operands])
  have e2 := E y (by simp [Op.operands])
  simp only [stepF] at h ⊢
  rw [<- e1, <- e2]
  split at h
  . rename_i d0 tsz z0 eq0 by0 k i j sym z h1 h2 h3
    split at h
    . rename_i et en es v ef n g he hc
      cases hb0 : Nat.beq n tsz with
      | false => rw [hb0] at h; cases h
      | true =>
        rw [hb0, cond_true] at h
        injection h with h
        subst h
        have := hh k (List.mem_singleton.2 rfl)
        rw [<- this, he, hc]
        simp only [hb0, cond_true]
    . cases h
  . cases h
 case call c =>
  obtain ⟨callee, args, ts⟩ := c
  have hm : args.toList.map (ev fr) = args.toList.map (ev fr') := List.map_congr_left fun x hx => E x (by simp [Op.operands, Call.operands]; exact .inr (by simpa using hx))
  cases callee with
  | builtin b => simp only [stepF] at h ⊢; rw [<- hm]; exact callB_congr h hh
  | invoke x m => simp only [stepF, reduceCtorEq] at h
  | value f => simp only [stepF, reduceCtorEq] at h
 case build t ps =>
  have hm : (ps.toList.map fun p => (p.1, ev fr p.2)) = ps.toList.map fun p => (p.1, ev fr' p.2) := List.map_congr_left fun p hp => by
   rw [E p.2 (by simp [Op.operands]; exact ⟨p.1, by simpa using hp⟩)]
  simp only [stepF] at h ⊢
  rw [<- hm]
  exact h
 case buildSlice t len ps =>
  have hm : (ps.toList.map fun p => (p.1, ev fr p.2)) = ps.toList.map fun p => (p.1, ev fr' p.2) := List.map_congr_left fun p hp => by
   rw [E p.2 (by simp [Op.operands]; exact ⟨p.1, by simpa using hp⟩)]
  simp only [stepF] at h ⊢
  rw [<- hm]
  exact h
 case makeFunc fn first captured =>
  have h1 : first.toList.map (ev fr) = first.toList.map (ev fr') := List.map_congr_left fun x hx => E x (by simp [Op.operands]; exact .inl (by simpa using hx))
  have h2 : captured.toList.map (ev fr) = captured.toList.map (ev fr') := List.map_congr_left fun x hx => E x (by simp [Op.operands]; exact .inr (by simpa using hx))
  cases fn with
  | func f => simp only [stepF] at h ⊢; rw [<- h1, <- h2]; exact h
  | method n => simp only [stepF, reduceCtorEq] at h
  | methodOf t n => simp only [stepF, reduceCtorEq] at h
  | via t p f b => simp only [stepF, reduceCtorEq] at h
  | yield l => simp only [stepF, reduceCtorEq] at h
 case makeMap t rs =>
  cases rs with
  | some y => simp only [stepF, reduceCtorEq] at h
  | none => simp only [stepF] at h ⊢; exact h
 case lookup t x k ok => simp only [stepF] at h ⊢; rw [<- E x (by simp [Op.operands]), <- E k (by simp [Op.operands])]; exact mapGet_congr h hh
 case mapUpdate t m k x => simp only [stepF] at h ⊢; rw [<- E m (by simp [Op.operands]), <- E k (by simp [Op.operands]), <- E x (by simp [Op.operands])]; exact mapSet_congr h hh
 case insert t m k x => simp only [stepF] at h ⊢; rw [<- E m (by simp [Op.operands]), <- E k (by simp [Op.operands]), <- E x (by simp [Op.operands])]; exact mapSet_congr h hh
 case slice t x lo hi mx =>
  have e1 := E x (by simp [Op.operands])
  have e2 : lo.map (ev fr) = lo.map (ev fr') := by
   cases lo with
   | none => rfl
   | some y => simp only [Option.map_some, E y (by simp [Op.operands])]
  have e3 : hi.map (ev fr) = hi.map (ev fr') := by
   cases hi with
   | none => rfl
   | some y => simp only [Option.map_some, E y (by simp [Op.operands])]
  cases mx with
  | some m => simp only [stepF, reduceCtorEq] at h
  | none =>
    simp only [stepF] at h ⊢
    rw [<- e1, <- e2, <- e3]
    exact sliceF_congr h hh
 case indexAddr t x y =>
  simp only [stepF] at h ⊢
  rw [<- E x (by simp [Op.operands]), <- E y (by simp [Op.operands])]
  split at h
  . exact h
  . rename_i e es eb sz0 z eq0 by0 k b n kk i ht hxe hie
    split at h
    . rename_i et en esz ev0 ef he
      cases hb0 : (Nat.blt 0 es && Nat.beq esz es) with
      | false => rw [hb0] at h; cases h
      | true =>
        rw [hb0, cond_true] at h
        injection h with h; subst h
        rw [<- hh k (List.mem_singleton.2 rfl), he]
        simp only [hb0, cond_true]
    . cases h
  . exact h
  . exact h
  . exact h
  . cases h
 case pick c x y => simp only [stepF] at h ⊢; rw [<- E c (by simp [Op.operands]), <- E x (by simp [Op.operands]), <- E y (by simp [Op.operands])]; exact h
 case binOp op t x y ty => simp only [stepF] at h ⊢; rw [<- E x (by simp [Op.operands]), <- E y (by simp [Op.operands])]; exact h
 case makeSlice t x y => simp only [stepF] at h ⊢; rw [<- E x (by simp [Op.operands]), <- E y (by simp [Op.operands])]; exact h
 case index t x y => simp only [stepF] at h ⊢; rw [<- E x (by simp [Op.operands]), <- E y (by simp [Op.operands])]; exact h
 case move x => simp only [stepF] at h ⊢; rw [<- E x (by simp [Op.operands])]; exact h
 case assign x => simp only [stepF] at h ⊢; rw [<- E x (by simp [Op.operands])]; exact h
 case alloc t => simp only [stepF] at h ⊢; exact h
 case box t x => simp only [stepF] at h ⊢; rw [<- E x (by simp [Op.operands])]; exact h
 case nilCheck x => simp only [stepF] at h ⊢; rw [<- E x (by simp [Op.operands])]; exact h
 case unOp op t x => simp only [stepF] at h ⊢; rw [<- E x (by simp [Op.operands])]; exact h
 case convert s d x => simp only [stepF] at h ⊢; rw [<- E x (by simp [Op.operands])]; exact h
 case fieldAddr t x f => simp only [stepF] at h ⊢; rw [<- E x (by simp [Op.operands])]; exact h
 case field t x f => simp only [stepF] at h ⊢; rw [<- E x (by simp [Op.operands])]; exact h
 case extract x i => simp only [stepF] at h ⊢; rw [<- E x (by simp [Op.operands])]; exact h
 all_goals simp only [stepF, reduceCtorEq] at h
theorem callOf_congr {o : Op} {fr fr' : Fr} (hf : ∀ t ∈ tmpsOf o, fget fr t = fget fr' t) : callOf o fr' = callOf o fr := by
 have E : ∀ x, x ∈ o.operands -> ev fr x = ev fr' x := fun x hx => ev_congr hf hx
 cases o
 case call c =>
  obtain ⟨callee, args, ts⟩ := c
  have hm : args.toList.map (ev fr) = args.toList.map (ev fr') := List.map_congr_left fun x hx => E x (by simp [Op.operands, Call.operands]; exact .inr (by simpa using hx))
  cases callee with
  | builtin b => rfl
  | invoke x m => rfl
  | value f =>
    have e1 := E f (by simp [Op.operands, Call.operands])
    simp only [callOf]
    rw [<- hm, <- e1]
 all_goals rfl
theorem stp_congr {P : Program} {T : Tys} {o : Op} {fr fr' : Fr} {H H' : Hp} {nm wd : Nat} {sr : SR} (h : Stp P T o fr H nm wd sr) (hf : ∀ t ∈ tmpsOf o, fget fr t = fget fr' t) (hh : ∀ k ∈ sr.rd, hget H k = hget H' k) (hall : ALLN ∉ sr.rd) : Stp P T o fr' H' nm wd sr := by
 rcases h with ⟨h1, h2⟩ | ⟨f, args, h1, h2, h3⟩
 . exact .inl ⟨stepF_congr h1 hf hh, h2⟩
 . exact .inr ⟨f, args, (callOf_congr hf).trans h1, h2, fun H2 hH2 cx r w vals g1 g2 _ g3 => h3 H2 (fun k hk => (hh k hk).trans (hH2 k hk)) cx r w vals g1 g2 (fun h => absurd h hall) g3⟩
def putD (d : Option Tmp) (v : FV) : Fr :=
 match d with
 | some t => [(t, v)]
 | none => []
def keysOf (e : Hp) : List Nat := e.map (·.1)
def guardT (all : List Oper) (j : Nat) : Option Nat := (all[j]?).bind (·.dst)
def wants (all : List Oper) (o : Oper) (fr : Fr) : Option Bool :=
 match o.guard with
 | none => some true
 | some (j, want) =>
   match guardT all j with
   | some t => match fget fr t with
     | .e (.c (.bool b)) => some (bif want then b else !b)
     | .tup [] => some false
     | _ => none
   | none => none
def isG (all : List Oper) (i : Nat) : Bool := all.any fun o => match o.guard with | some (j, _) => Nat.beq j i | none => false
def okDst (nt : Nat) : Option Tmp -> Bool
 | some t => Nat.blt t nt
 | none => true
abbrev Log := List (List Nat × List Nat)
abbrev Qf := (FV -> Hp -> List Nat -> Prop) -> Prop
abbrev Qs := FuncId -> List FV -> Hp -> Nat -> Nat -> Option Qf
def QsOk (P : Program) (Q : Qs) : Prop := ∀ f args H nm wd q, 0 < wd -> Q f args H nm wd = some q -> ∀ K, q K -> ∃ v e rd, CallR P f args H nm wd ⟨none, v, e, rd⟩ /\ K v e rd
def QsMono (Q : Qs) : Prop := ∀ f args H nm wd q, Q f args H nm wd = some q -> ∀ K K' : FV -> Hp -> List Nat -> Prop, (∀ v e rd, K v e rd -> K' v e rd) -> q K -> q K'
def runR (T : Tys) (Q : Qs) (wd nt : Nat) (all : List Oper) : List Oper -> Nat -> Fr -> Hp -> Nat -> Log -> (Fr -> Hp -> Nat -> Log -> Prop) -> Prop
 | [], _, fr, H, nx, log, K => K fr H nx log
 | o :: rest, i, fr, H, nx, log, K =>
   bif okDst nt o.dst then
    match wants all o fr with
    | some true =>
      match callOf o.op fr with
      | some (f, args) =>
        match Q f args H nx wd, isG all i with
        | some q, false => q fun v e rd => runR T Q wd nt all rest (i + 1) (putD o.dst v ++ fr) (e ++ H) (nx + wd) ((keysOf e, rd) :: log) K
        | _, _ => False
      | none =>
        match stepF T o.op fr H nx with
        | some ⟨pre, val, eff, rd⟩ =>
          match pre, isG all i, val with
          | none, false, v => runR T Q wd nt all rest (i + 1) (putD o.dst v ++ fr) (eff ++ H) (nx + wd) ((keysOf eff, rd) :: log) K
          | some p, false, v => p /\ runR T Q wd nt all rest (i + 1) (putD o.dst v ++ fr) (eff ++ H) (nx + wd) ((keysOf eff, rd) :: log) K
          | none, true, .e (.c (.bool b)) => (b = true -> runR T Q wd nt all rest (i + 1) (putD o.dst (.e (.c (.bool true))) ++ fr) (eff ++ H) (nx + wd) ((keysOf eff, rd) :: log) K) /\ (b = false -> runR T Q wd nt all rest (i + 1) (putD o.dst (.e (.c (.bool false))) ++ fr) (eff ++ H) (nx + wd) ((keysOf eff, rd) :: log) K)
          | some p, true, .e (.c (.bool b)) => p /\ (b = true -> runR T Q wd nt all rest (i + 1) (putD o.dst (.e (.c (.bool true))) ++ fr) (eff ++ H) (nx + wd) ((keysOf eff, rd) :: log) K) /\ (b = false -> runR T Q wd nt all rest (i + 1) (putD o.dst (.e (.c (.bool false))) ++ fr) (eff ++ H) (nx + wd) ((keysOf eff, rd) :: log) K)
          | _, _, _ => False
        | none => False
    | some false => runR T Q wd nt all rest (i + 1) (putD o.dst (.tup []) ++ fr) H (nx + wd) (([], []) :: log) K
    | none => False
   else False
structure Rec where
 ex : Bool
 val : FV
 eff : Hp
 rd : List Nat
def GoodAt (P : Program) (T : Tys) (wd nt : Nat) (all : List Oper) (o : Oper) (rc : Rec) (fr : Fr) (H : Hp) (nm : Nat) : Prop :=
 okDst nt o.dst = true /\ wants all o fr = some rc.ex /\
 match rc.ex with
 | true => ∃ sr, Stp P T o.op fr H nm wd sr /\ sr.val = rc.val /\ sr.eff = rc.eff /\ sr.rd = rc.rd
 | false => rc.val = .tup [] /\ rc.eff = [] /\ rc.rd = []
def Good (P : Program) (T : Tys) (wd nt : Nat) (all : List Oper) : List Oper -> List Rec -> Fr -> Hp -> Nat -> Prop
 | [], [], _, _, _ => True
 | o :: os, rc :: rs, fr, H, nx => GoodAt P T wd nt all o rc fr H nx /\ Good P T wd nt all os rs (putD o.dst rc.val ++ fr) (rc.eff ++ H) (nx + wd)
 | _, _, _, _, _ => False
def frEs (os : List Oper) (rs : List Rec) : List Fr := List.zipWith (fun o rc => putD o.dst rc.val) os rs
def hpEs (rs : List Rec) : List Hp := rs.map (·.eff)
def logOf (rs : List Rec) : Log := rs.map fun rc => (keysOf rc.eff, rc.rd)
theorem selS {α : Type} : ∀ (es : List (List (Nat × α))) (k k' : Nat) (b : List (Nat × α)), sel (fun _ => true) es k b = sel (fun _ => true) es k' b := by
 intro es
 induction es with
 | nil => intro k k' b; rfl
 | cons e es ih => intro k k' b; rw [sel, sel]; exact ih _ _ _
theorem runR_good {P : Program} {T : Tys} {Q : Qs} {wd nt : Nat} (hwd : 0 < wd) (hQ : QsOk P Q) {all : List Oper} : ∀ (os : List Oper) (i : Nat) (fr : Fr) (H : Hp) (nx : Nat) (log : Log) (K : Fr -> Hp -> Nat -> Log -> Prop), runR T Q wd nt all os i fr H nx log K ->
 ∃ rs, Good P T wd nt all os rs fr H nx /\ K (sel (fun _ => true) (frEs os rs) 0 fr) (sel (fun _ => true) (hpEs rs) 0 H) (nx + wd * os.length) ((logOf rs).reverse ++ log) := by
 intro os
 induction os with
 | nil => intro i fr H nx log K h; exact ⟨[], trivial, h⟩
 | cons o os ih =>
   intro i fr H nx log K h
   have fin : ∀ (rc : Rec), GoodAt P T wd nt all o rc fr H nx -> runR T Q wd nt all os (i + 1) (putD o.dst rc.val ++ fr) (rc.eff ++ H) (nx + wd) ((keysOf rc.eff, rc.rd) :: log) K ->
    ∃ rs, Good P T wd nt all (o :: os) rs fr H nx /\ K (sel (fun _ => true) (frEs (o :: os) rs) 0 fr) (sel (fun _ => true) (hpEs rs) 0 H) (nx + wd * (o :: os).length) ((logOf rs).reverse ++ log) := by
    intro rc hg hr
    obtain ⟨rs, h1, h2⟩ := ih _ _ _ _ _ _ hr
    refine ⟨rc :: rs, ⟨hg, h1⟩, ?_⟩
    have e1 : sel (fun _ => true) (frEs (o :: os) (rc :: rs)) 0 fr = sel (fun _ => true) (frEs os rs) 0 (putD o.dst rc.val ++ fr) := by
     show sel _ (putD o.dst rc.val :: frEs os rs) 0 fr = _
     rw [sel, cond_true]; exact selS _ _ _ _
    have e2 : sel (fun _ => true) (hpEs (rc :: rs)) 0 H = sel (fun _ => true) (hpEs rs) 0 (rc.eff ++ H) := by
     show sel _ (rc.eff :: hpEs rs) 0 H = _
     rw [sel, cond_true]; exact selS _ _ _ _
    rw [e1, e2, List.length_cons, show nx + wd * (os.length + 1) = nx + wd + wd * os.length by rw [Nat.mul_add, Nat.mul_one]; omega]
    have e3 : (logOf (rc :: rs)).reverse ++ log = (logOf rs).reverse ++ ((keysOf rc.eff, rc.rd) :: log) := by simp [logOf]
    rw [e3]
    exact h2
   unfold runR at h
   cases hd : okDst nt o.dst with
   | false => rw [hd] at h; exact h.elim
   | true =>
     rw [hd, cond_true] at h
     split at h
     . rename_i hw
       split at h
       . rename_i f args hc
         split at h
         . rename_i q hq hG
           obtain ⟨v, e, rd, hr, hk⟩ := hQ _ _ _ _ _ _ hwd hq _ h
           exact fin ⟨true, v, e, rd⟩ ⟨hd, hw, _, .inr ⟨f, args, hc, hr⟩, rfl, rfl, rfl⟩ hk
         . exact h.elim
       . split at h
         . rename_i pre val eff rd hs
           split at h
           . exact fin ⟨true, _, eff, rd⟩ ⟨hd, hw, _, .inl ⟨hs, trivial⟩, rfl, rfl, rfl⟩ h
           . exact fin ⟨true, _, eff, rd⟩ ⟨hd, hw, _, .inl ⟨hs, h.1⟩, rfl, rfl, rfl⟩ h.2
           . rename_i b hG
             rcases Bool.eq_false_or_eq_true b with hb | hb
             . subst hb; exact fin ⟨true, _, eff, rd⟩ ⟨hd, hw, _, .inl ⟨hs, trivial⟩, rfl, rfl, rfl⟩ (h.1 rfl)
             . subst hb; exact fin ⟨true, _, eff, rd⟩ ⟨hd, hw, _, .inl ⟨hs, trivial⟩, rfl, rfl, rfl⟩ (h.2 rfl)
           . rename_i p b hG
             rcases Bool.eq_false_or_eq_true b with hb | hb
             . subst hb; exact fin ⟨true, _, eff, rd⟩ ⟨hd, hw, _, .inl ⟨hs, h.1⟩, rfl, rfl, rfl⟩ (h.2.1 rfl)
             . subst hb; exact fin ⟨true, _, eff, rd⟩ ⟨hd, hw, _, .inl ⟨hs, h.1⟩, rfl, rfl, rfl⟩ (h.2.2 rfl)
           . exact h.elim
         . exact h.elim
     . rename_i hw
       exact fin ⟨false, .tup [], [], []⟩ ⟨hd, hw, rfl, rfl, rfl⟩ h
     . exact h.elim
theorem Good.at {P : Program} {T : Tys} {wd nt : Nat} {all : List Oper} : ∀ (os : List Oper) (rs : List Rec) (fr : Fr) (H : Hp) (nx : Nat), Good P T wd nt all os rs fr H nx -> os.length = rs.length /\
 ∀ (i : Nat) o, os[i]? = some o -> ∃ rc, rs[i]? = some rc /\ GoodAt P T wd nt all o rc (sel (fun _ => true) ((frEs os rs).take i) 0 fr) (sel (fun _ => true) ((hpEs rs).take i) 0 H) (nx + wd * i) := by
 intro os
 induction os with
 | nil =>
   intro rs fr H nx h
   cases rs with
   | nil => exact ⟨rfl, fun i o h => by cases i <;> cases h⟩
   | cons => exact h.elim
 | cons o os ih =>
   intro rs fr H nx h
   cases rs with
   | nil => exact h.elim
   | cons rc rs =>
     obtain ⟨hg, hr⟩ := h
     obtain ⟨hl, hi⟩ := ih _ _ _ _ hr
     refine ⟨by simp [hl], fun i o' ho => ?_⟩
     cases i with
     | zero =>
       simp only [List.getElem?_cons_zero, Option.some.injEq] at ho
       subst ho
       exact ⟨rc, rfl, hg⟩
     | succ i =>
       obtain ⟨rc', h1, h2⟩ := hi i o' (by simpa using ho)
       refine ⟨rc', by simpa using h1, ?_⟩
       have e1 : sel (fun _ => true) ((frEs (o :: os) (rc :: rs)).take (i + 1)) 0 fr = sel (fun _ => true) ((frEs os rs).take i) 0 (putD o.dst rc.val ++ fr) := by
        show sel _ ((putD o.dst rc.val :: frEs os rs).take (i + 1)) 0 fr = _
        rw [List.take_succ_cons, sel, cond_true]; exact selS _ _ _ _
       have e2 : sel (fun _ => true) ((hpEs (rc :: rs)).take (i + 1)) 0 H = sel (fun _ => true) ((hpEs rs).take i) 0 (rc.eff ++ H) := by
        show sel _ ((rc.eff :: hpEs rs).take (i + 1)) 0 H = _
        rw [List.take_succ_cons, sel, cond_true]; exact selS _ _ _ _
       rw [e1, e2, show nx + wd * (i + 1) = nx + wd + wd * i by rw [Nat.mul_add, Nat.mul_one]; omega]
       exact h2
def looks (all : List Oper) (o : Oper) : List Nat :=
 tmpsOf o.op ++ (match o.guard with | some (j, _) => (guardT all j).toList | none => [])
def memN (l : List Nat) (t : Nat) : Bool := l.any (Nat.beq t)
theorem memN_of {l : List Nat} {t : Nat} (h : t ∈ l) : memN l t = true := List.any_eq_true.2 ⟨t, h, by simp⟩
def dstIn (l : List Nat) : Option Tmp -> Bool
 | some t => memN l t
 | none => false
def dstEq : Option Tmp -> Option Tmp -> Bool
 | some t, some u => Nat.beq t u
 | _, _ => false
def meets (a b : List Nat) : Bool := a.any (memN b)
def confl (all : List Oper) (o : Oper) (l : List Nat × List Nat) (o' : Oper) (l' : List Nat × List Nat) : Bool :=
 dstIn (looks all o) o'.dst || dstIn (looks all o') o.dst || dstEq o.dst o'.dst || meets l.1 l'.1 || meets l.1 l'.2 || meets l.2 l'.1
def regOk (all : List Oper) (log : Log) : Bool :=
 let ms := masks all []
 (List.range all.length).all fun j =>
   match all[j]?, log[j]?, ms[j]? with
   | some oj, some lj, some m =>
     (oj.after.toList.all fun e => !Region.binds .any e || Nat.blt e.on j) &&
     (List.range j).all fun i =>
       match all[i]?, log[i]? with
       | some oi, some li => !confl all oi li oj lj || m.testBit i
       | _, _ => false
   | _, _, _ => false
def regOkA (all : List Oper) (log : Log) : Bool := regOk all log && !(log.any fun l => memN l.2 ALLN)
theorem regOk_edge {all : List Oper} {log : Log} (h : regOk all log = true) {j : Nat} {oj : Oper} (hj : all[j]? = some oj) : ∀ e ∈ oj.after, Region.binds .any e = true -> e.on < j := by
 have hlt : j < all.length := (List.getElem?_eq_some_iff.1 hj).1
 have := List.all_eq_true.1 h j (List.mem_range.2 hlt)
 simp only [hj] at this
 split at this
 . rename_i o l m h1 h2 h3
   injection h1 with h1
   subst h1
   simp only [Bool.and_eq_true] at this
   intro e he hb
   have := List.all_eq_true.1 this.1 e (by simpa using he)
   rw [hb] at this
   simpa using this
 . cases this
theorem regOk_pair {all : List Oper} {log : Log} (h : regOk all log = true) {i j : Nat} {oi oj : Oper} {li lj : List Nat × List Nat} (hij : i < j) (hi : all[i]? = some oi) (hj : all[j]? = some oj) (hli : log[i]? = some li) (hlj : log[j]? = some lj) (hc : confl all oi li oj lj = true) :
 ∃ m, (masks all [])[j]? = some m /\ m.testBit i = true := by
 have hlt : j < all.length := (List.getElem?_eq_some_iff.1 hj).1
 have := List.all_eq_true.1 h j (List.mem_range.2 hlt)
 simp only [hj, hlj] at this
 split at this
 . rename_i o l m h1 h2 h3
   injection h1 with h1
   injection h2 with h2
   subst h1 h2
   simp only [Bool.and_eq_true] at this
   have := List.all_eq_true.1 this.2 i (List.mem_range.2 hij)
   simp only [hi, hli, hc] at this
   exact ⟨m, h3, by simpa using this⟩
 . cases this
def unl : List Bool -> Nat
 | [] => 0
 | b :: l => (bif b then 0 else 1) + unl l
theorem unl_set : ∀ (l : List Bool) (i : Nat), l[i]? = some false -> unl (l.set i true) + 1 = unl l := by
 intro l
 induction l with
 | nil => intro i h; cases i <;> cases h
 | cons b l ih =>
   intro i h
   cases i with
   | zero => simp only [List.getElem?_cons_zero, Option.some.injEq] at h; subst h; simp only [List.set_cons_zero, unl, cond_true, cond_false]; omega
   | succ i => simp only [List.set_cons_succ, unl]; have := ih i (by simpa using h); omega
theorem unl_zero : ∀ (l : List Bool), unl l = 0 -> ∀ (i : Nat), i < l.length -> l[i]? = some true := by
 intro l
 induction l with
 | nil => intro _ i h; simp at h
 | cons b l ih =>
   intro h i hi
   cases b with
   | false => simp only [unl, cond_false] at h; omega
   | true =>
     cases i with
     | zero => rfl
     | succ i => simp only [unl, cond_true] at h; simpa using ih (by omega) i (by simpa using hi)
section
variable {P : Program} {cx : Cx} {T : Tys} {wd nt : Nat} {d0 : List Deferred}
theorem put_tmps {a : Act} {d : Option Tmp} {v : Value} : (a.put d v).tmps.size = a.tmps.size /\ (a.put d v).defers = a.defers := by
 cases d with
 | none => exact ⟨rfl, rfl⟩
 | some t => exact ⟨by simp [Act.put], rfl⟩
theorem FrOk.put {r : Ren} {H : Hp} {w : World} {fr : Fr} {a : Act} (h : FrOk cx r H w fr a.tmps) {d : Option Tmp} (hd : okDst a.tmps.size d = true) {x : FV} {v : Value} (hx : x.rel r cx.X (wr r H) w v) :
 FrOk cx r H w (putD d x ++ fr) (a.put d v).tmps := by
 cases d with
 | none => exact h
 | some t =>
   intro u
   have hlt : t < a.tmps.size := Nat.le_of_ble_eq_true hd
   by_cases hu : u = t
   . subst hu
     have e1 : fget (putD (some u) x ++ fr) u = x := look_cons_eq _ _ _ _
     rw [e1]
     simpa [Act.put, hlt] using hx
   . have e1 : fget (putD (some t) x ++ fr) u = fget fr u := look_cons_ne _ _ _ hu
     rw [e1]
     have := h u
     simp only [Act.put, Array.getD_eq_getD_getElem?] at this ⊢
     rw [Array.getElem?_setIfInBounds_ne (Ne.symm hu)]
     exact this
theorem wanted_of {all : List Oper} {o : Oper} {r : Ren} {H : Hp} {w : World} {fr : Fr} {a : Act} {b : Bool} (h : FrOk cx r H w fr a.tmps) (hw : wants all o fr = some b) :
 Region.wanted o (yielded all.toArray a.tmps) = b := by
 unfold wants at hw
 unfold Region.wanted
 cases hg : o.guard with
 | none => rw [hg] at hw; simp at hw; rw [<- hw]
 | some gw =>
   obtain ⟨j, want⟩ := gw
   rw [hg] at hw
   simp only at hw ⊢
   split at hw
   . rename_i t ht
     split at hw
     . rename_i c hc
       injection hw with hw
       have hv := h t
       rw [hc] at hv
       have hv' : a.tmps.getD t undef = .bool c := hv
       have hy : yielded all.toArray a.tmps j = some c := by
        have ht' : (all[j]?).bind (·.dst) = some t := ht
        have hv2 : a.tmps[t]? = some (.bool c) := by
         cases hat : a.tmps[t]? with
         | none => simp [Array.getD_eq_getD_getElem?, hat, undef] at hv'
         | some u => simp [Array.getD_eq_getD_getElem?, hat] at hv'; rw [hv']
        simp [yielded, ht', hv2]
       rw [hy, <- hw]
       cases want <;> cases c <;> rfl
     . rename_i hc
       injection hw with hw
       have hv := h t
       rw [hc] at hv
       obtain ⟨vs, hv', _, _⟩ := hv
       have hy : yielded all.toArray a.tmps j = none := by
        have ht' : (all[j]?).bind (·.dst) = some t := ht
        cases hat : a.tmps[t]? with
        | none => simp [yielded, ht', hat]
        | some u =>
          have : u = .tuple vs := by simpa [Array.getD_eq_getD_getElem?, hat] using hv'
          subst this
          simp [yielded, ht', hat]
       rw [hy, <- hw]
       rfl
     . cases hw
   . cases hw
structure Inv (cx : Cx) (all : List Oper) (rs : List Rec) (fr0 : Fr) (H0 : Hp) (nx wd nt : Nat) (d0 : List Deferred) (fx : Ren) (listed : Array Bool) (a : Act) (w : World) (r : Ren) : Prop where
 size : listed.size = all.length
 closed : ∀ i o, all[i]? = some o -> listed.getD i false = true -> ∀ e ∈ o.after, Region.binds .any e = true -> listed.getD e.on false = true
 st : St cx r (sel (fun i => listed.getD i false) (hpEs rs) 0 H0) w
 fr : FrOk cx r (sel (fun i => listed.getD i false) (hpEs rs) 0 H0) w (sel (fun i => listed.getD i false) (frEs all rs) 0 fr0) a.tmps
 names : ∀ k, nx <= k -> (∀ i, listed.getD i false = true -> ¬ (nx + wd * i <= k /\ k < nx + wd * i + wd)) -> r k = none /\ hget (sel (fun i => listed.getD i false) (hpEs rs) 0 H0) k = none
 tsz : a.tmps.size = nt
 defers : a.defers = d0
 low : ∀ k, k < nx -> r k = fx k
theorem getD_set {l : Array Bool} {i j : Nat} (hi : i < l.size) : (l.setIfInBounds i true).getD j false = (j == i || l.getD j false) := by
 by_cases h : j = i
 . subst h; simp [hi]
 . simp [Array.getElem?_setIfInBounds_ne (Ne.symm h), h]
theorem any_order (hT : TysOk P T) {all : List Oper} {rs : List Rec} {fr0 : Fr} {H0 : Hp} {nx : Nat} (hwd : 0 < wd) (hg : Good P T wd nt all all rs fr0 H0 nx) (hok : regOk all (logOf rs) = true) (hno : ∀ rc ∈ rs, ALLN ∉ rc.rd) {fx : Ren}
 {Q : Exit -> Act -> World -> Prop}
 (hQ : ∀ a w r, St cx r (sel (fun _ => true) (hpEs rs) 0 H0) w -> FrOk cx r (sel (fun _ => true) (hpEs rs) 0 H0) w (sel (fun _ => true) (frEs all rs) 0 fr0) a.tmps -> (∀ k, nx + wd * all.length <= k -> r k = none /\ hget (sel (fun _ => true) (hpEs rs) 0 H0) k = none) -> a.tmps.size = nt -> a.defers = d0 -> (∀ k, k < nx -> r k = fx k) -> Q .normal a w) :
 ∀ (fuel : Nat) (listed : Array Bool) (a : Act) (w : World) (r : Ren), unl listed.toList = fuel -> Inv cx all rs fr0 H0 nx wd nt d0 fx listed a w r -> wpAny P .any all.toArray Q fuel listed a w := by
 obtain ⟨hlen, hat⟩ := Good.at _ _ _ _ _ hg
 have full : ∀ (listed : Array Bool) (a : Act) (w : World) (r : Ren), (∀ i, i < all.length -> listed.getD i false = true) -> Inv cx all rs fr0 H0 nx wd nt d0 fx listed a w r -> Q .normal a w := by
  intro listed a w r hall inv
  have e1 : ∀ t, fget (sel (fun i => listed.getD i false) (frEs all rs) 0 fr0) t = fget (sel (fun _ => true) (frEs all rs) 0 fr0) t := fun t => sel_congr _ _ _ _ _ _ _ _ rfl fun j e he _ => by
   rw [Nat.zero_add]
   have : j < (frEs all rs).length := (List.getElem?_eq_some_iff.1 he).1
   exact hall j (by simp [frEs] at this; omega)
  have e2 : ∀ t, hget (sel (fun i => listed.getD i false) (hpEs rs) 0 H0) t = hget (sel (fun _ => true) (hpEs rs) 0 H0) t := fun t => sel_congr _ _ _ _ _ _ _ _ rfl fun j e he _ => by
   rw [Nat.zero_add]
   have : j < (hpEs rs).length := (List.getElem?_eq_some_iff.1 he).1
   exact hall j (by simp [hpEs] at this; omega)
  refine hQ a w r (inv.st.congr e2) (inv.fr.congr e2 e1) (fun k hk => ?_) inv.tsz inv.defers inv.low
  rw [<- e2 k]
  refine inv.names k (by omega) fun i hi => ?_
  have : i < listed.size := by
   rcases Nat.lt_or_ge i listed.size with h | h
   . exact h
   . rw [Array.getD_eq_getD_getElem?, Array.getElem?_eq_none h] at hi; cases hi
  rw [inv.size] at this
  have h9 : wd * (i + 1) <= wd * all.length := Nat.mul_le_mul_left _ this
  rw [Nat.mul_add, Nat.mul_one] at h9
  omega
 have nilAll : ∀ (listed : Array Bool), listed.size = all.length -> Region.ready .any all.toArray listed = [] -> ∀ i, i < all.length -> listed.getD i false = true := by
  intro listed hs hr i
  induction i using Nat.strongRecOn with
  | _ i ih =>
    intro hi
    cases hb : listed.getD i false with
    | true => rfl
    | false =>
      have ho : all[i]? = some all[i] := List.getElem?_eq_getElem hi
      have : i ∈ Region.ready .any all.toArray listed := mem_ready.2 ⟨by
       rw [Array.getD_eq_getD_getElem?] at hb ⊢
       rw [Array.getElem?_eq_getElem (by omega)] at hb ⊢
       exact hb, all[i], by simp [hi], fun e he hbn => by
        have hlt := regOk_edge hok ho e he hbn
        exact ih e.on hlt (by omega)⟩
      rw [hr] at this
      cases this
 intro fuel
 induction fuel with
 | zero =>
   intro listed a w r hu inv
   have hall : ∀ i, i < all.length -> listed.getD i false = true := fun i hi => by
    have := unl_zero _ hu i (by simpa [inv.size] using hi)
    have h2 : listed[i]? = some true := by simpa using this
    rw [Array.getD_eq_getD_getElem?, h2]; rfl
   refine ⟨?_, full listed a w r hall inv⟩
   rw [List.eq_nil_iff_forall_not_mem]
   intro i hi
   obtain ⟨h1, o, ho, _⟩ := mem_ready.1 hi
   have hil : i < all.length := by simpa using (Array.getElem?_eq_some_iff.1 ho).1
   have := hall i hil
   rw [Array.getD_eq_getD_getElem?] at h1 this
   rw [Array.getElem?_eq_getElem (by rw [inv.size]; exact hil)] at h1 this
   simp only [Option.getD_some] at h1 this
   rw [h1] at this
   cases this
 | succ fuel ih =>
   intro listed a w r hu inv
   refine ⟨fun hr => full listed a w r (nilAll listed inv.size hr) inv, fun i hi => ?_⟩
   obtain ⟨h1, o, ho, hdeps⟩ := mem_ready.1 hi
   have hoi : all[i]? = some o := by simpa using ho
   have hil : i < all.length := (List.getElem?_eq_some_iff.1 hoi).1
   have hisz : i < listed.size := by rw [inv.size]; exact hil
   have hSi : listed.getD i false = false := by
    rw [Array.getD_eq_getD_getElem?] at h1 ⊢
    rw [Array.getElem?_eq_getElem hisz] at h1 ⊢
    exact h1
   obtain ⟨rc, hrc, hokd, hwt, hstep⟩ := hat i o hoi
   have hli : (logOf rs)[i]? = some (keysOf rc.eff, rc.rd) := by simp [logOf, hrc]
   have order : ∀ (j : Nat) (oj : Oper) (rj : Rec), all[j]? = some oj -> rs[j]? = some rj -> (i < j -> confl all o (keysOf rc.eff, rc.rd) oj (keysOf rj.eff, rj.rd) = true) -> (j < i -> confl all oj (keysOf rj.eff, rj.rd) o (keysOf rc.eff, rc.rd) = true) -> listed.getD j false = decide (j < i) := by
    intro j oj rj hj hrj c1 c2
    have hlj : (logOf rs)[j]? = some (keysOf rj.eff, rj.rd) := by simp [logOf, hrj]
    have hcl := masks_closed (ops := all) (Z := fun x => listed.getD x false = true) (fun x ox hx hz e he hb => inv.closed x ox hx hz e he hb) all [] (fun j => by simp) (fun i m h => by cases i <;> cases h)
    rcases Nat.lt_trichotomy j i with hji | hji | hji
    . rw [decide_eq_true hji]
      obtain ⟨m, hm, hb⟩ := regOk_pair hok hji hj hoi hlj hli (c2 hji)
      have hcl2 := masks_closed (ops := all) (Z := fun x => x = i \/ listed.getD x false = true) (fun x ox hx hz e he hbn => by
       rcases hz with rfl | hz
       . rw [hoi] at hx; injection hx with hx; subst hx
         exact .inr (hdeps e he hbn)
       . exact .inr (inv.closed x ox hx hz e he hbn)) all [] (fun j => by simp) (fun i m h => by cases i <;> cases h)
      rcases hcl2 i m hm (.inl rfl) j hb with h | h
      . omega
      . exact h
    . subst hji; rw [hSi]; simp
    . rw [decide_eq_false (by omega)]
      cases hlst : listed.getD j false with
      | false => rfl
      | true =>
        obtain ⟨m, hm, hb⟩ := regOk_pair hok hji hoi hj hli hlj (c1 hji)
        have := hcl j m hm hlst i hb
        rw [hSi] at this; cases this
   have cKey : ∀ {e : Hp} {k : Nat}, hasKey e k = true -> k ∈ keysOf e := by
    intro e k h
    obtain ⟨p, hp, hb⟩ := List.any_eq_true.1 h
    have := Nat.eq_of_beq_eq_true hb
    exact List.mem_map.2 ⟨p, hp, this⟩
   have frj : ∀ (j : Nat) (e : Fr) (t : Nat), (frEs all rs)[j]? = some e -> hasKey e t = true -> ∃ (oj : Oper) (rj : Rec), all[j]? = some oj /\ rs[j]? = some rj /\ oj.dst = some t /\ e = putD oj.dst rj.val := by
    intro j e t he hk
    simp only [frEs, List.getElem?_zipWith] at he
    cases ha : all[j]? with
    | none => rw [ha] at he; cases he
    | some oj =>
      cases hr' : rs[j]? with
      | none => rw [ha, hr'] at he; cases he
      | some rj =>
        rw [ha, hr'] at he
        injection he with he
        subst he
        refine ⟨oj, rj, rfl, rfl, ?_, rfl⟩
        cases hd : oj.dst with
        | none => rw [hd] at hk; cases hk
        | some u =>
          rw [hd] at hk
          simp only [putD, hasKey, List.any_cons, List.any_nil, Bool.or_false] at hk
          rw [Nat.eq_of_beq_eq_true hk]
   have hpj : ∀ (j : Nat) (e : Hp), (hpEs rs)[j]? = some e -> ∃ (oj : Oper) (rj : Rec), all[j]? = some oj /\ rs[j]? = some rj /\ e = rj.eff := by
    intro j e he
    simp only [hpEs, List.getElem?_map] at he
    cases hr' : rs[j]? with
    | none => rw [hr'] at he; cases he
    | some rj =>
      rw [hr'] at he
      injection he with he
      have : j < all.length := by rw [hlen]; exact (List.getElem?_eq_some_iff.1 hr').1
      exact ⟨all[j], rj, List.getElem?_eq_getElem this, rfl, he.symm⟩
   have hmeet : ∀ {a b : List Nat} {k : Nat}, k ∈ a -> k ∈ b -> meets a b = true := fun ha hb => List.any_eq_true.2 ⟨_, ha, memN_of hb⟩
   have frEq : ∀ t ∈ looks all o, fget (sel (fun _ => true) ((frEs all rs).take i) 0 fr0) t = fget (sel (fun i => listed.getD i false) (frEs all rs) 0 fr0) t := by
    intro t ht
    rw [<- sel_take]
    refine sel_congr _ _ _ _ _ _ _ _ rfl fun j e he hk => ?_
    obtain ⟨oj, rj, h1, h2, h3, _⟩ := frj j e t he hk
    rw [Nat.zero_add, Nat.zero_add]
    refine (order j oj rj h1 h2 (fun _ => ?_) (fun _ => ?_)).symm
    . simp [confl, dstIn, h3, memN_of ht]
    . simp [confl, dstIn, h3, memN_of ht]
   have hpEq : ∀ k ∈ rc.rd, hget (sel (fun _ => true) ((hpEs rs).take i) 0 H0) k = hget (sel (fun i => listed.getD i false) (hpEs rs) 0 H0) k := by
    intro k hk
    rw [<- sel_take]
    refine sel_congr _ _ _ _ _ _ _ _ rfl fun j e he hkk => ?_
    obtain ⟨oj, rj, h1, h2, rfl⟩ := hpj j e he
    rw [Nat.zero_add, Nat.zero_add]
    have hkk' := cKey hkk
    refine (order j oj rj h1 h2 (fun _ => ?_) (fun _ => ?_)).symm
    . simp [confl, hmeet hk hkk']
    . simp [confl, hmeet hkk' hk]
   have hw2 : wants all o (sel (fun i => listed.getD i false) (frEs all rs) 0 fr0) = some rc.ex := by
    rw [<- hwt]
    unfold wants
    cases hgd : o.guard with
    | none => rfl
    | some gw =>
      obtain ⟨j, want⟩ := gw
      simp only
      cases hgt : guardT all j with
      | none => rfl
      | some t =>
        simp only
        rw [frEq t (by simp [looks, hgd, hgt])]
   have hwanted := wanted_of inv.fr hw2
   have frMore : ∀ t, fget (putD o.dst rc.val ++ sel (fun i => listed.getD i false) (frEs all rs) 0 fr0) t = fget (sel (fun x => (listed.setIfInBounds i true).getD x false) (frEs all rs) 0 fr0) t := by
    intro t
    have hE : (frEs all rs)[i]? = some (putD o.dst rc.val) := by simp [frEs, List.getElem?_zipWith, hoi, hrc]
    have := sel_more (d := FV.top) (fun i => listed.getD i false) (frEs all rs) 0 fr0 i (putD o.dst rc.val) t hE (by rw [Nat.zero_add]; exact hSi) (fun j e hij he hSj u hu => by
     rw [Nat.zero_add] at hSj
     cases hk : hasKey e u with
     | false => rfl
     | true =>
       obtain ⟨oj, rj, h1, h2, h3, _⟩ := frj j e u he hk
       have hdu : o.dst = some u := by
        cases hd : o.dst with
        | none => rw [hd] at hu; cases hu
        | some v =>
          rw [hd] at hu
          simp only [putD, hasKey, List.any_cons, List.any_nil, Bool.or_false] at hu
          rw [Nat.eq_of_beq_eq_true hu]
       have := order j oj rj h1 h2 (fun _ => by simp [confl, dstEq, hdu, h3]) (fun hji => by omega)
       rw [hSj, decide_eq_false (by omega)] at this
       cases this)
    rw [Nat.zero_add] at this
    show look FV.top _ t = look FV.top _ t
    rw [<- this]
    refine sel_congr _ _ _ _ _ _ _ _ rfl fun j e _ _ => ?_
    rw [Nat.zero_add, getD_set hisz]
   have hpMore : ∀ t, hget (rc.eff ++ sel (fun i => listed.getD i false) (hpEs rs) 0 H0) t = hget (sel (fun x => (listed.setIfInBounds i true).getD x false) (hpEs rs) 0 H0) t := by
    intro t
    have hE : (hpEs rs)[i]? = some rc.eff := by simp [hpEs, hrc]
    have := sel_more (d := none) (fun i => listed.getD i false) (hpEs rs) 0 H0 i rc.eff t hE (by rw [Nat.zero_add]; exact hSi) (fun j e hij he hSj u hu => by
     rw [Nat.zero_add] at hSj
     cases hk : hasKey e u with
     | false => rfl
     | true =>
       obtain ⟨oj, rj, h1, h2, rfl⟩ := hpj j e he
       have := order j oj rj h1 h2 (fun _ => by simp [confl, hmeet (cKey hu) (cKey hk)]) (fun hji => by omega)
       rw [hSj, decide_eq_false (by omega)] at this
       cases this)
    rw [Nat.zero_add] at this
    show look none _ t = look none _ t
    rw [<- this]
    refine sel_congr _ _ _ _ _ _ _ _ rfl fun j e _ _ => ?_
    rw [Nat.zero_add, getD_set hisz]
   have apart : ∀ j k, listed.getD j false = true -> nx + wd * i <= k -> k < nx + wd * i + wd -> ¬ (nx + wd * j <= k /\ k < nx + wd * j + wd) := fun j k hj h1 h2 h3 => by
    have hji : j ≠ i := fun h => by subst h; rw [hSi] at hj; cases hj
    rcases Nat.lt_or_ge j i with h | h
    . have := Nat.mul_le_mul_left wd h; rw [Nat.mul_succ] at this; omega
    . have := Nat.mul_le_mul_left wd (show i + 1 <= j by omega); rw [Nat.mul_add, Nat.mul_one] at this; omega
   have hfree : Free r (sel (fun i => listed.getD i false) (hpEs rs) 0 H0) (nx + wd * i) wd := fun k h1 h2 => inv.names k (by omega) fun j hj => apart j k hj h1 h2
   have hunl : unl (listed.setIfInBounds i true).toList = fuel := by
    have := unl_set listed.toList i (by
     have : listed[i]? = some false := by
      rw [Array.getD_eq_getD_getElem?] at hSi
      rw [Array.getElem?_eq_getElem hisz] at hSi ⊢
      simpa using hSi
     simpa using this)
    rw [Array.toList_setIfInBounds]
    omega
   have next : ∀ (v : Value) (w' : World) (r' : Ren), Ext r (wr r (sel (fun i => listed.getD i false) (hpEs rs) 0 H0)) w r' (wr r' (rc.eff ++ sel (fun i => listed.getD i false) (hpEs rs) 0 H0)) w' -> St cx r' (rc.eff ++ sel (fun i => listed.getD i false) (hpEs rs) 0 H0) w' ->
    (∀ k, k < nx + wd * i \/ nx + wd * i + wd <= k -> r' k = r k) -> (∀ k e, hget (rc.eff ++ sel (fun i => listed.getD i false) (hpEs rs) 0 H0) k = some e -> ((nx + wd * i <= k \/ ALLN ∈ rc.rd) /\ k < nx + wd * i + wd) \/ ∃ e', hget (sel (fun i => listed.getD i false) (hpEs rs) 0 H0) k = some e') -> rc.val.rel r' cx.X (wr r' (rc.eff ++ sel (fun i => listed.getD i false) (hpEs rs) 0 H0)) w' v -> wpAny P .any all.toArray Q fuel (listed.setIfInBounds i true) (a.put o.dst v) w' := by
    intro v w' r' hext hst hr' hnew hrel
    refine ih _ _ _ r' hunl ⟨by simp [inv.size], fun x ox hx hz e he hb => ?_, hst.congr hpMore, ?_, fun k hk hkn => ?_, by rw [put_tmps.1]; exact inv.tsz, by rw [put_tmps.2]; exact inv.defers, fun k hk => by rw [hr' k (.inl (by omega))]; exact inv.low k hk⟩
    . rw [getD_set hisz] at hz ⊢
      simp only [Bool.or_eq_true, beq_iff_eq] at hz ⊢
      rcases hz with rfl | hz
      . rw [hoi] at hx; injection hx with hx; subst hx
        exact .inr (hdeps e he hb)
      . exact .inr (inv.closed x ox hx hz e he hb)
    . exact (FrOk.put (inv.fr.ext hext) (by rw [inv.tsz]; exact hokd) hrel).congr hpMore frMore
    . have hki : ¬ (nx + wd * i <= k /\ k < nx + wd * i + wd) := hkn i (by rw [getD_set hisz]; simp)
      have hold := inv.names k hk fun j hj => hkn j (by rw [getD_set hisz, hj]; simp)
      rw [hr' k (by omega), <- hpMore k]
      refine ⟨hold.1, ?_⟩
      cases hh : hget (rc.eff ++ sel (fun i => listed.getD i false) (hpEs rs) 0 H0) k with
      | none => rfl
      | some e =>
        rcases hnew k e hh with h | ⟨e', h⟩
        . exact absurd ⟨h.1.resolve_right (hno rc (List.mem_of_getElem? hrc)), h.2⟩ hki
        . rw [hold.2] at h; cases h
   unfold wpOp
   simp only [ho, hwanted]
   cases hex : rc.ex with
   | true =>
     rw [hex] at hstep
     obtain ⟨sr, hs, hv, he, hrd⟩ := hstep
     have hno' : ALLN ∉ sr.rd := by rw [hrd]; exact hno rc (List.mem_of_getElem? hrc)
     have hs2 := stp_congr hs (fun t ht => frEq t (by simp [looks, ht])) (fun k hk => hpEq k (by rw [<- hrd]; exact hk)) hno'
     rw [if_pos rfl]
     refine .inl (stp_ok hT hs2 inv.st inv.fr hfree (fun h => absurd h hno') hwd fun v w' hleft => ?_)
     obtain ⟨r', g1, g2, g3, g5, g4⟩ := hleft
     rw [he] at g1 g2 g4 g5
     rw [hv] at g4
     exact next v w' r' g1 g2 g3 (by rw [hrd] at g5; exact g5) g4
   | false =>
     rw [hex] at hstep
     obtain ⟨hv, he, hrd⟩ := hstep
     rw [if_neg (by simp)]
     refine next undef w r ?_ ?_ (fun _ _ => rfl) ?_ ?_
     . rw [he]; exact Ext.refl _ _ _
     . rw [he]; exact inv.st
     . rw [he]; exact fun k e h => .inr ⟨e, h⟩
     . rw [hv]; exact ⟨#[], rfl, rfl, fun i x u h => by cases h⟩
end
structure Wc where
 H : Hp
 H' : Hp
 rho : List (Nat × Option Nat)
 nx : Nat
 fin : Bool := false
def lookR : List (Nat × Option Nat) -> Nat -> Option (Option Nat)
 | [], _ => none
 | (k, v) :: rest, t => bif Nat.beq t k then some v else lookR rest t
def Wc.src (c : Wc) (k : Nat) : Option Nat :=
 match lookR c.rho k with
 | some o => o
 | none => bif Nat.blt k c.nx then some k else none
def Wc.ren (c : Wc) (r : Ren) (k : Nat) : Option Bi :=
 match c.src k with
 | some k0 => r k0
 | none => none
def Wc.wr (c : Wc) (cx : Cx) (r : Ren) (b : Nat) : Prop := AX.wr (c.ren r) c.H' b \/ (c.fin = true /\ cx.X b)
def Wc.Live (c : Wc) : Prop := ∀ k e', hget c.H' k = some e' -> ∀ k0, c.src k = some k0 -> ∃ e, hget c.H k0 = some e
def LeC (c : Wc) (x y : CV) : Prop := c.Live -> ∀ cx r w v, St cx r c.H w -> x.rel r cx.X (wr r c.H) w v -> y.rel (c.ren r) cx.X (c.wr cx r) w v
def LeE (c : Wc) (x y : EV) : Prop := c.Live -> ∀ cx r w v, St cx r c.H w -> x.rel r cx.X (wr r c.H) w v -> y.rel (c.ren r) cx.X (c.wr cx r) w v
def LeF (c : Wc) (x y : FV) : Prop := c.Live -> ∀ cx r w v, St cx r c.H w -> x.rel r cx.X (wr r c.H) w v -> y.rel (c.ren r) cx.X (c.wr cx r) w v
structure LeN (c : Wc) (e e' : Ent) : Prop where
 t : e.t = e'.t
 n : e.n = e'.n
 sz : e.sz = e'.sz
 v : e.v = e'.v
 f : ∀ i, i < e.n -> ∀ j, j < e.sz -> LeC c (e.f i j) (e'.f i j)
def WkF (c : Wc) (fr : Fr) : Fr -> Prop
 | [] => True
 | (t, v) :: rest => LeF c (fget fr t) v /\ WkF c fr rest
def WkE (c : Wc) (e' : Ent) (o : Option Nat) : Prop :=
 match o with
 | some k0 => match hget c.H k0 with
   | some e => LeN c e e'
   | none => False
 | none => e'.n = 0 /\ e'.v = false /\ 0 < e'.sz
def WkH (c : Wc) : Hp -> Prop
 | [] => True
 | (_, none) :: rest => WkH c rest
 | (k, some e') :: rest => (Nat.blt k c.nx = true /\ WkE c e' (c.src k)) /\ WkH c rest
def srcs (c : Wc) : Hp -> List Nat
 | [] => []
 | (_, none) :: rest => srcs c rest
 | (k, some _) :: rest => (c.src k).toList ++ srcs c rest
def nodupN : List Nat -> Bool
 | [] => true
 | k :: l => !(l.any (Nat.beq k)) && nodupN l
def rhoOk (np : Nat) (c : Wc) : Bool := (c.rho.all fun p => Nat.ble np p.1 && Nat.blt p.1 c.nx) && nodupN (srcs c c.H')
theorem WkF.at {c : Wc} {fr : Fr} : ∀ {fr' : Fr}, WkF c fr fr' -> ∀ t, LeF c (fget fr t) (fget fr' t) := by
 intro fr'
 induction fr' with
 | nil => intro _ t _ cx r w v _ _; trivial
 | cons p fr' ih =>
   obtain ⟨k, x⟩ := p
   rintro ⟨h1, h2⟩ t
   by_cases ht : t = k
   . subst ht
     have : fget ((t, x) :: fr') t = x := look_cons_eq _ _ _ _
     rw [this]; exact h1
   . have : fget ((k, x) :: fr') t = fget fr' t := look_cons_ne _ _ _ ht
     rw [this]; exact ih h2 t
theorem WkH.at {c : Wc} : ∀ {H' : Hp}, WkH c H' -> ∀ k e', hget H' k = some e' -> k < c.nx /\ WkE c e' (c.src k) := by
 intro H'
 induction H' with
 | nil => intro _ k e' h; cases h
 | cons p H' ih =>
   obtain ⟨k0, x⟩ := p
   intro h k e' he
   by_cases hk : k = k0
   . subst hk
     have e1 : hget ((k, x) :: H') k = x := look_cons_eq _ _ _ _
     rw [e1] at he
     subst he
     exact ⟨Nat.le_of_ble_eq_true h.1.1, h.1.2⟩
   . have e1 : hget ((k0, x) :: H') k = hget H' k := look_cons_ne _ _ _ hk
     rw [e1] at he
     cases x with
     | none => exact ih h k e' he
     | some x => exact ih h.2 k e' he
theorem WkH.live {c : Wc} (h : WkH c c.H') : c.Live := fun k e' he k0 hk0 => by
 obtain ⟨_, h1⟩ := h.at k e' he
 rw [hk0] at h1
 unfold WkE at h1
 simp only at h1
 split at h1
 . rename_i e hh; exact ⟨e, hh⟩
 . exact h1.elim
theorem srcs_mem {c : Wc} {k k0 : Nat} (hs : c.src k = some k0) : ∀ {H' : Hp} {e' : Ent}, hget H' k = some e' -> k0 ∈ srcs c H' := by
 intro H'
 induction H' with
 | nil => intro e' h; cases h
 | cons p H' ih =>
   obtain ⟨k1, x⟩ := p
   intro e' he
   by_cases hk : k = k1
   . subst hk
     have e1 : hget ((k, x) :: H') k = x := look_cons_eq _ _ _ _
     rw [e1] at he
     subst he
     simp [srcs, hs]
   . have e1 : hget ((k1, x) :: H') k = hget H' k := look_cons_ne _ _ _ hk
     rw [e1] at he
     cases x with
     | none => exact ih he
     | some x => simp only [srcs]; exact List.mem_append_right _ (ih he)
theorem srcs_inj {c : Wc} : ∀ {H' : Hp}, nodupN (srcs c H') = true -> ∀ k m e e' k0, hget H' k = some e -> hget H' m = some e' -> c.src k = some k0 -> c.src m = some k0 -> k = m := by
 intro H'
 induction H' with
 | nil => intro _ k m e e' k0 h; cases h
 | cons p H' ih =>
   obtain ⟨k1, x⟩ := p
   intro hn k m e e' k0 hk hm sk sm
   have ne : ∀ j, j ≠ k1 -> hget ((k1, x) :: H') j = hget H' j := fun j hj => look_cons_ne _ _ _ hj
   cases x with
   | none =>
     have e0 : hget ((k1, none) :: H') k1 = none := look_cons_eq _ _ _ _
     by_cases h1 : k = k1
     . subst h1; rw [e0] at hk; cases hk
     . by_cases h2 : m = k1
       . subst h2; rw [e0] at hm; cases hm
       . rw [ne k h1] at hk; rw [ne m h2] at hm
         exact ih hn k m e e' k0 hk hm sk sm
   | some x =>
     have tail : ∀ j ej, j ≠ k1 -> hget ((k1, some x) :: H') j = some ej -> c.src j = some k0 -> c.src k1 = some k0 -> False := fun j ej hj hej sj s1 => by
      rw [ne j hj] at hej
      have hmem := srcs_mem sj hej
      simp only [srcs, s1, Option.toList_some, List.singleton_append, nodupN, Bool.and_eq_true, Bool.not_eq_true'] at hn
      have : (srcs c H').any (Nat.beq k0) = true := List.any_eq_true.2 ⟨k0, hmem, by simp⟩
      rw [hn.1] at this; cases this
     by_cases h1 : k = k1
     . by_cases h2 : m = k1
       . omega
       . subst h1; exact (tail m e' h2 hm sm sk).elim
     . by_cases h2 : m = k1
       . subst h2; exact (tail k e h1 hk sk sm).elim
       . rw [ne k h1] at hk; rw [ne m h2] at hm
         refine ih ?_ k m e e' k0 hk hm sk sm
         simp only [srcs] at hn
         cases hs : c.src k1 with
         | none => rw [hs] at hn; exact hn
         | some q =>
           rw [hs] at hn
           simp only [Option.toList_some, List.singleton_append, nodupN, Bool.and_eq_true] at hn
           exact hn.2
theorem lookR_mem : ∀ {l : List (Nat × Option Nat)} {k : Nat} {o : Option Nat}, lookR l k = some o -> ∃ p ∈ l, p.1 = k := by
 intro l
 induction l with
 | nil => intro k o h; cases h
 | cons p l ih =>
   obtain ⟨k1, v⟩ := p
   intro k o h
   simp only [lookR] at h
   cases hb : Nat.beq k k1 with
   | true => exact ⟨(k1, v), List.mem_cons_self .., (Nat.eq_of_beq_eq_true hb).symm⟩
   | false =>
     rw [hb, cond_false] at h
     obtain ⟨p, hp, hk⟩ := ih h
     exact ⟨p, List.mem_cons_of_mem _ hp, hk⟩
theorem weaken {cx : Cx} {r : Ren} {w : World} {fr : Fr} {tmps : Array Value} {c : Wc} {np : Nat} (st : St cx r c.H w) (hf : FrOk cx r c.H w fr tmps) {fr' : Fr} (h0 : ∀ k b, cx.pin k = some b -> k < np) (hnp : Nat.ble np c.nx = true) (hrho : rhoOk np c = true) (hfin : c.fin = false) (h1 : WkF c fr fr') (h2 : WkH c c.H') :
 St cx (c.ren r) c.H' w /\ FrOk cx (c.ren r) c.H' w fr' tmps /\ (∀ k, c.nx <= k -> c.ren r k = none /\ hget c.H' k = none) /\ ∀ k, k < np -> c.ren r k = r k := by
 simp only [rhoOk, Bool.and_eq_true] at hrho
 have hlive := h2.live
 have hwr : c.wr cx r = wr (c.ren r) c.H' := by funext b; simp [Wc.wr, hfin]
 have hkeys : ∀ k o, lookR c.rho k = some o -> np <= k /\ k < c.nx := fun k o h => by
  obtain ⟨p, hp, rfl⟩ := lookR_mem h
  have := List.all_eq_true.1 hrho.1 p hp
  simp only [Bool.and_eq_true] at this
  exact ⟨Nat.le_of_ble_eq_true this.1, Nat.le_of_ble_eq_true this.2⟩
 have hren : ∀ k x, c.ren r k = some x -> ∃ k0, c.src k = some k0 /\ r k0 = some x := fun k x h => by
  unfold Wc.ren at h
  split at h
  . rename_i k0 hk0; exact ⟨k0, hk0, h⟩
  . cases h
 refine ⟨⟨st.os, st.tape, st.output, st.size, st.kept, st.xlt, fun k x h => ?_, fun k e' x he hx => ?_, fun n m e e' x y hn hm hx hy hxy => ?_, fun k b hk => ?_, fun k e' he => ?_⟩, fun t => by rw [<- hwr]; exact h1.at t hlive cx r w _ st (hf t), fun k hk => ⟨?_, ?_⟩, fun k hk => ?_⟩
 . obtain ⟨k0, _, h⟩ := hren k x h
   exact st.dom k0 x h
 . obtain ⟨k0, s1, hx⟩ := hren k x hx
   obtain ⟨e1, l1⟩ := hlive k e' he k0 s1
   exact st.ow k0 e1 x l1 hx
 . obtain ⟨n0, s1, hx⟩ := hren n x hx
   obtain ⟨m0, s2, hy⟩ := hren m y hy
   obtain ⟨e1, l1⟩ := hlive n e hn n0 s1
   obtain ⟨e2, l2⟩ := hlive m e' hm m0 s2
   have := st.inj n0 m0 e1 e2 x y l1 l2 hx hy hxy
   subst this
   exact srcs_inj hrho.2 n m e e' n0 hn hm s1 s2
 . have hlt := h0 k b hk
   have hl : lookR c.rho k = none := by
    cases hl : lookR c.rho k with
    | none => rfl
    | some o => have := hkeys k o hl; omega
   have hs : c.src k = some k := by
    unfold Wc.src
    rw [hl]
    have : Nat.blt k c.nx = true := Nat.ble_eq_true_of_le (Nat.lt_of_lt_of_le hlt (Nat.le_of_ble_eq_true hnp))
    simp only [this, cond_true]
   unfold Wc.ren
   rw [hs]
   exact st.pin k b hk
 . obtain ⟨hlt, hw⟩ := h2.at k e' he
   cases hs : c.src k with
   | none =>
     rw [hs] at hw
     obtain ⟨g1, g2, g3⟩ := hw
     exact ⟨g3, (fun h => by rw [g2] at h; cases h), .inl ⟨by unfold Wc.ren; rw [hs], g1⟩⟩
   | some k0 =>
     rw [hs] at hw
     unfold WkE at hw
     simp only at hw
     split at hw
     . rename_i e hh
       have hrk : c.ren r k = r k0 := by unfold Wc.ren; rw [hs]
       exact (st.blk k0 e hh).map hw.t hw.n hw.sz hw.v hrk.symm (fun _ _ => rfl) fun i hi j hj u hu => by
        rw [<- hwr]
        exact hw.f i hi j hj hlive cx r w u st hu
     . exact hw.elim
 . unfold Wc.ren Wc.src
   cases hl : lookR c.rho k with
   | some o => have := hkeys k o hl; omega
   | none =>
     have : Nat.blt k c.nx = false := by
      cases hb : Nat.blt k c.nx with
      | false => rfl
      | true => have := Nat.le_of_ble_eq_true hb; omega
     simp only [this, cond_false]
 . cases hh : hget c.H' k with
   | none => rfl
   | some e' => have := (h2.at k e' hh).1; omega
 . have hl : lookR c.rho k = none := by
    cases hl : lookR c.rho k with
    | none => rfl
    | some o => have := hkeys k o hl; omega
   unfold Wc.ren Wc.src
   rw [hl]
   have : Nat.blt k c.nx = true := Nat.ble_eq_true_of_le (Nat.lt_of_lt_of_le hk (Nat.le_of_ble_eq_true hnp))
   simp only [this, cond_true]
abbrev Kt := Exit -> Fr -> Hp -> Nat -> Prop
def seqK (next : Fr -> Hp -> Nat -> Prop) (K : Kt) : Kt
 | .normal, fr, H, nx => next fr H nx
 | e, fr, H, nx => K e fr H nx
def blkK (id : Nat) (K : Kt) : Kt
 | .exit id', fr, H, nx => bif Nat.beq id' id then K .normal fr H nx else K (.exit id') fr H nx
 | e, fr, H, nx => K e fr H nx
def iter (np : Nat) (R : Fr -> Hp -> Nat -> Kt -> Prop) (K : Kt) : Nat -> Fr -> Hp -> Nat -> Prop
 | 0, _, _, _ => False
 | n + 1, fr, H, nx => ∃ fr' H' rho nx', Nat.ble np nx' = true /\ rhoOk np ⟨H, H', rho, nx', false⟩ = true /\ WkF ⟨H, H', rho, nx', false⟩ fr fr' /\ WkH ⟨H, H', rho, nx', false⟩ H' /\ R fr' H' nx' (seqK (iter np R K n) K)
def exec (T : Tys) (Q : Qs) (wd nt np : Nat) : Code -> Fr -> Hp -> Nat -> Kt -> Prop
 | .skip, fr, H, nx, K => K .normal fr H nx
 | .region _ ops draw, fr, H, nx, K => runR T Q wd nt ops.toList ops.toList 0 fr H nx [] fun fr H nx log => bif !draw || regOkA ops.toList log.reverse then K .normal fr H nx else False
 | .seq a b, fr, H, nx, K => exec T Q wd nt np a fr H nx (seqK (fun fr H nx => exec T Q wd nt np b fr H nx K) K)
 | .cond c a b, fr, H, nx, K =>
   match ev fr c with
   | .e (.c (.bool t)) => (t = true -> exec T Q wd nt np a fr H nx K) /\ (t = false -> exec T Q wd nt np b fr H nx K)
   | _ => False
 | .block id c, fr, H, nx, K => exec T Q wd nt np c fr H nx (blkK id K)
 | .loop c, fr, H, nx, K => ∃ n, iter np (exec T Q wd nt np c) K n fr H nx
 | .exit id, fr, H, nx, K => K (.exit id) fr H nx
 | .ret, fr, H, nx, K => K .ret fr H nx
 | .label _, fr, H, nx, K => K .normal fr H nx
 | _, _, _, _, _ => False
def Is (cx : Cx) (nt np : Nat) (fx : Ren) (fr : Fr) (H : Hp) (nx : Nat) (a : Act) (w : World) : Prop :=
 ∃ r, St cx r H w /\ FrOk cx r H w fr a.tmps /\ (∀ k, nx <= k -> r k = none /\ hget H k = none) /\ a.tmps.size = nt /\ a.defers = [] /\ np <= nx /\ ∀ k, k < np -> r k = fx k
def lift (cx : Cx) (nt np : Nat) (fx : Ren) (K : Kt) (e : Exit) (a : Act) (w : World) : Prop := ∃ fr H nx, K e fr H nx /\ Is cx nt np fx fr H nx a w
section
variable {P : Program} {cx : Cx} {T : Tys} {Q : Qs} {wd nt np : Nat} {fx : Ren}
theorem seq_region (hT : TysOk P T) (hwd : 0 < wd) {all : List Oper} {R : Exit -> Act -> World -> Prop} : ∀ (os : List Oper) (rs : List Rec) (i : Nat) (fr : Fr) (H : Hp) (nx : Nat), Good P T wd nt all os rs fr H nx -> (∀ j, os[j]? = all[i + j]?) ->
 (∀ a w, Is cx nt np fx (sel (fun _ => true) (frEs os rs) 0 fr) (sel (fun _ => true) (hpEs rs) 0 H) (nx + wd * os.length) a w -> R .normal a w) -> ∀ a w, Is cx nt np fx fr H nx a w -> wpOps P all.toArray R (List.range' i os.length) a w := by
 have selS : ∀ {α : Type} (es : List (List (Nat × α))) (k k' : Nat) (b : List (Nat × α)), sel (fun _ => true) es k b = sel (fun _ => true) es k' b := by
  intro α es
  induction es with
  | nil => intro k k' b; rfl
  | cons e es ih => intro k k' b; rw [sel, sel]; exact ih _ _ _
 intro os
 induction os with
 | nil =>
   intro rs i fr H nx hg _ hQ a w hs
   cases rs with
   | nil => exact hQ a w hs
   | cons => exact hg.elim
 | cons o os ih =>
   intro rs i fr H nx hg hall hQ a w hs
   cases rs with
   | nil => exact hg.elim
   | cons rc rs =>
     obtain ⟨⟨hokd, hwt, hstep⟩, hg2⟩ := hg
     obtain ⟨r, st, hf, hnm, hts, hdf, hnp, hfx⟩ := hs
     have ho : all[i]? = some o := by simpa using (hall 0).symm
     have ho' : all.toArray[i]? = some o := by simpa using ho
     have e1 : sel (fun _ => true) (frEs (o :: os) (rc :: rs)) 0 fr = sel (fun _ => true) (frEs os rs) 0 (putD o.dst rc.val ++ fr) := by
      show sel _ (putD o.dst rc.val :: frEs os rs) 0 fr = _
      rw [sel, cond_true]; exact selS _ _ _ _
     have e2 : sel (fun _ => true) (hpEs (rc :: rs)) 0 H = sel (fun _ => true) (hpEs rs) 0 (rc.eff ++ H) := by
      show sel _ (rc.eff :: hpEs rs) 0 H = _
      rw [sel, cond_true]; exact selS _ _ _ _
     rw [e1, e2, List.length_cons, show nx + wd * (os.length + 1) = nx + wd + wd * os.length by rw [Nat.mul_add, Nat.mul_one]; omega] at hQ
     have next : ∀ a w, Is cx nt np fx (putD o.dst rc.val ++ fr) (rc.eff ++ H) (nx + wd) a w -> wpOps P all.toArray R (List.range' (i + 1) os.length) a w :=
      fun a w hs => ih rs (i + 1) _ _ _ hg2 (fun j => by have := hall (j + 1); simp only [List.getElem?_cons_succ] at this; rw [this]; congr 1; omega) hQ a w hs
     have hfree : Free r H nx wd := fun k h1 _ => hnm k h1
     rw [List.length_cons, List.range'_succ, wpOps_cons]
     unfold wpOp
     simp only [ho', wanted_of hf hwt]
     cases hex : rc.ex with
     | true =>
       rw [hex] at hstep
       obtain ⟨sr, hss, hv, he, hrd⟩ := hstep
       rw [if_pos rfl]
       refine .inl (stp_ok hT hss st hf hfree (fun _ => hnm) hwd fun v w' hleft => ?_)
       obtain ⟨r', g1, g2, g3, g5, g4⟩ := hleft
       rw [he] at g1 g2 g4 g5
       rw [hv] at g4
       refine next _ _ ⟨r', g2, FrOk.put (hf.ext g1) (by rw [hts]; exact hokd) g4, fun k hk => ?_, by rw [put_tmps.1]; exact hts, by rw [put_tmps.2]; exact hdf, by omega, fun k hk => (g3 k (.inl (by omega))).trans (hfx k hk)⟩
       rw [g3 k (by omega)]
       refine ⟨(hnm k (by omega)).1, ?_⟩
       cases hh : hget (rc.eff ++ H) k with
       | none => rfl
       | some e =>
         rcases g5 k e hh with h | ⟨e', h⟩
         . have := h.2; omega
         . rw [(hnm k (by omega)).2] at h; cases h
     | false =>
       rw [hex] at hstep
       obtain ⟨hv, he, hrd⟩ := hstep
       rw [if_neg (by simp)]
       refine next _ _ ⟨r, by rw [he]; exact st, ?_, (fun k hk => by rw [he]; exact hnm k (by omega)), by rw [put_tmps.1]; exact hts, by rw [put_tmps.2]; exact hdf, by omega, hfx⟩
       rw [he, hv]
       exact FrOk.put hf (by rw [hts]; exact hokd) ⟨#[], rfl, rfl, fun i x u h => by cases h⟩
theorem region_ok (hwd : 0 < wd) (hT : TysOk P T) (hQ : QsOk P Q) (hm : P.follows .mixedOrders = true) {id : Nat} {ops : Array Oper} {draw : Bool} {fr : Fr} {H : Hp} {nx : Nat} {K : Kt}
 (h : exec T Q wd nt np (.region id ops draw) fr H nx K) {a : Act} {w : World} (hs : Is cx nt np fx fr H nx a w) : (Code.region id ops draw).wp P (lift cx nt np fx K) a w := by
 unfold exec at h
 obtain ⟨rs, hg, hK⟩ := runR_good hwd hQ _ _ _ _ _ _ _ h
 obtain ⟨hlen, _⟩ := Good.at _ _ _ _ _ hg
 have hrev : ((logOf rs).reverse ++ ([] : Log)).reverse = logOf rs := by simp
 rw [hrev] at hK
 cases draw with
 | false =>
   simp only [Bool.not_false, Bool.true_or, cond_true] at hK
   refine wp_region ?_
   have := seq_region (cx := cx) (R := lift cx nt np fx K) hT hwd ops.toList rs 0 fr H nx hg (fun j => by rw [Nat.zero_add]) (fun a w hs => ⟨_, _, _, hK, hs⟩) a w hs
   simpa [List.range_eq_range'] using this
 | true =>
   simp only [Bool.not_true, Bool.false_or] at hK
   cases hokA : regOkA ops.toList (logOf rs) with
   | false => rw [hokA] at hK; exact hK.elim
   | true =>
     rw [hokA, cond_true] at hK
     unfold regOkA at hokA
     simp only [Bool.and_eq_true, Bool.not_eq_true'] at hokA
     obtain ⟨hok, hno⟩ := hokA
     have hno : ∀ rc ∈ rs, ALLN ∉ rc.rd := fun rc hrc hm => by
      have : (logOf rs).any (fun l => memN l.2 ALLN) = true := List.any_eq_true.2 ⟨_, List.mem_map.2 ⟨rc, hrc, rfl⟩, memN_of hm⟩
      rw [hno] at this; cases this
     obtain ⟨r, st, hf, hnm, hts, hdf, hnp, hfx⟩ := hs
     obtain ⟨g1, g2⟩ := st.drew (w.drawn + 1)
     refine wp_region_any hm ?_
     have hrep : ∀ i, (Array.replicate ops.size false).getD i false = false := fun i => by
      rcases Nat.lt_or_ge i ops.size with h | h <;> simp [h]
     have e1 : sel (fun i => (Array.replicate ops.size false).getD i false) (frEs ops.toList rs) 0 fr = sel (fun _ => false) (frEs ops.toList rs) 0 fr := by simp only [hrep]
     have e2 : sel (fun i => (Array.replicate ops.size false).getD i false) (hpEs rs) 0 H = sel (fun _ => false) (hpEs rs) 0 H := by simp only [hrep]
     have h2 : ∀ {α : Type} (es : List (List (Nat × α))) (k : Nat) (x : List (Nat × α)), sel (fun _ => false) es k x = x := by
      intro α es
      induction es with
      | nil => intro k x; rfl
      | cons e es ih => intro k x; rw [sel]; exact ih _ _
     have hu : ∀ n, unl (List.replicate n false) = n := by
      intro n
      induction n with
      | zero => rfl
      | succ n ih => simp only [List.replicate_succ, unl, cond_false]; omega
     have := any_order (P := P) (cx := cx) (d0 := []) hT hwd hg hok hno (fx := r) (Q := lift cx nt np fx K) (fun a w r' h1 h3 h4 h5 h6 h7 => ⟨_, _, _, hK, r', h1, h3, h4, h5, h6, by omega, fun k hk => (h7 k (by omega)).trans (hfx k hk)⟩) ops.size (Array.replicate ops.size false) a { w with drawn := w.drawn + 1 } r
      (by simp [hu]) ⟨by simp, (fun i o _ h => by rw [hrep] at h; cases h), by rw [e2, h2]; exact g2, by rw [e1, e2, h2, h2]; exact hf.ext g1, (fun k hk _ => by rw [e2, h2]; exact hnm k hk), hts, hdf, fun _ _ => rfl⟩
     simpa using this
theorem exec_ok (hwd : 0 < wd) (hT : TysOk P T) (hQ : QsOk P Q) (hm : P.follows .mixedOrders = true) (hpin : ∀ k b, cx.pin k = some b -> k < np) : ∀ (c : Code) (fr : Fr) (H : Hp) (nx : Nat) (K : Kt), exec T Q wd nt np c fr H nx K -> ∀ a w, Is cx nt np fx fr H nx a w -> c.wp P (lift cx nt np fx K) a w := by
 intro c
 induction c with
 | skip => intro fr H nx K h a w hs; exact wp_skip ⟨_, _, _, h, hs⟩
 | region id ops draw => intro fr H nx K h a w hs; exact region_ok hwd hT hQ hm h hs
 | seq x y ihx ihy =>
   intro fr H nx K h a w hs
   refine wp_seq (wp_mono (ihx _ _ _ _ h a w hs) fun e a' w' hq => ?_)
   obtain ⟨fr', H', nx', hk, hs'⟩ := hq
   cases e <;> first | exact ⟨fr', H', nx', hk, hs'⟩ | exact ihy _ _ _ _ hk a' w' hs'
 | cond c x y ihx ihy =>
   intro fr H nx K h a w hs
   unfold exec at h
   split at h
   . rename_i t hev
     have hs' := hs
     obtain ⟨r, st, hf, _⟩ := hs
     have hc := ev_ok st hf c
     rw [hev] at hc
     have hc' : a.eval c = .bool t := hc
     cases t with
     | true => exact wp_cond_true hc' (ihx _ _ _ _ (h.1 rfl) a w hs')
     | false => exact wp_cond_false hc' (ihy _ _ _ _ (h.2 rfl) a w hs')
   . exact h.elim
 | block id c ih =>
   intro fr H nx K h a w hs
   refine wp_block (wp_mono (ih _ _ _ _ h a w hs) fun e a' w' hq => ?_)
   obtain ⟨fr', H', nx', hk, hs'⟩ := hq
   cases e with
   | exit id' =>
     simp only [blkK] at hk
     show (if id' = id then _ else _)
     by_cases hid : id' = id
     . rw [if_pos hid]
       subst hid
       rw [show Nat.beq id' id' = true by simp, cond_true] at hk
       exact ⟨_, _, _, hk, hs'⟩
     . rw [if_neg hid]
       have : Nat.beq id' id = false := by
        cases hb : Nat.beq id' id with
        | false => rfl
        | true => exact absurd (Nat.eq_of_beq_eq_true hb) hid
       rw [this, cond_false] at hk
       exact ⟨_, _, _, hk, hs'⟩
   | normal => exact ⟨_, _, _, hk, hs'⟩
   | goto l => exact ⟨_, _, _, hk, hs'⟩
   | ret => exact ⟨_, _, _, hk, hs'⟩
   | panic ch => exact ⟨_, _, _, hk, hs'⟩
   | outgrown => exact ⟨_, _, _, hk, hs'⟩
 | loop c ih =>
   intro fr H nx K h a w hs
   obtain ⟨n, hn⟩ := h
   refine wp_loop_rounds n ?_
   induction n generalizing fr H nx a w with
   | zero => exact hn.elim
   | succ n ihn =>
     obtain ⟨fr', H', rho, nx', h0, hrho, h1, h2, h3⟩ := hn
     obtain ⟨r, st, hf, hnm, hts, hdf, hnp, hfx⟩ := hs
     obtain ⟨g1, g2, g3, g4⟩ := weaken (c := ⟨H, H', rho, nx', false⟩) st hf hpin h0 hrho rfl h1 h2
     refine wp_mono (ih _ _ _ _ h3 a w ⟨_, g1, g2, g3, hts, hdf, Nat.le_of_ble_eq_true h0, fun k hk => (g4 k hk).trans (hfx k hk)⟩) fun e a' w' hq => ?_
     obtain ⟨fr2, H2, nx2, hk, hs'⟩ := hq
     cases e <;> first | exact ⟨fr2, H2, nx2, hk, hs'⟩ | exact ihn _ _ _ _ _ hs' hk
 | exit id => intro fr H nx K h a w hs; exact wp_exit ⟨_, _, _, h, hs⟩
 | ret => intro fr H nx K h a w hs; exact wp_ret ⟨_, _, _, h, hs⟩
 | label l => intro fr H nx K h a w hs; exact wp_label ⟨_, _, _, h, hs⟩
 | rangeFunc => intro fr H nx K h a w hs; exact h.elim
 | scope => intro fr H nx K h a w hs; exact h.elim
 | goto => intro fr H nx K h a w hs; exact h.elim
 | refuse => intro fr H nx K h a w hs; exact h.elim
def resE (T : Tys) (fr : Fr) (H : Hp) : ResultVar -> Option EV
 | .tmp t => match fget fr t with
   | .e x => some x
   | _ => none
 | .cell a t =>
   match T t, fget fr a with
   | some ti, .e (.c (.ptr k i j _)) =>
     match hget H k with
     | some ⟨_, en, es, _, ef⟩ => bif Nat.ble (j + ti.size) es && Nat.blt j es && Nat.blt i en then
       match loadF ti (es - j) (fun q => ef i (j + q)) false none [] with
       | some ⟨_, .e x, _, _⟩ => some x
       | _ => none
       else none
     | none => none
   | _, _ => none
def resL (T : Tys) (fr : Fr) (H : Hp) : List ResultVar -> Option (List EV)
 | [] => some []
 | x :: xs => match resE T fr H x, resL T fr H xs with
   | some y, some ys => some (y :: ys)
   | _, _ => none
def asF : List EV -> FV
 | [x] => .e x
 | l => .tup l
def resS (tmps : Array Value) : ResultVar -> Sem Value
 | .tmp t => pure (tmps.getD t undef)
 | .cell a t => do loadVar t (<- asAddr (tmps.getD a undef))
theorem results_eq (fn : Func) (tmps : Array Value) : results fn tmps = (do let vs <- fn.results.mapM (resS tmps); pure (if h : vs.size = 1 then vs[0] else .tuple vs)) := by
 have : (fun | .tmp t => pure (tmps.getD t undef) | .cell a t => (do loadVar t (<- asAddr (tmps.getD a undef))) : ResultVar -> Sem Value) = resS tmps := by
  funext x; cases x <;> rfl
 rw [<- this]
 rfl
theorem loadF_pre {ti : TI} {m : Nat} {g : Nat -> CV} {rd : List Nat} {sr : SR} (h : loadF ti m g false none rd = some sr) (h1 : ti.size <= m) (h2 : 0 < m) : preOk sr.pre := by
 unfold loadF at h
 split at h
 . injection h with h; subst h; exact h1
 . injection h with h; subst h; exact h1
 . rw [CV.see_eq] at h; injection h with h; subst h; exact h2
theorem resE_ok (hT : TysOk P T) {r : Ren} {H : Hp} {w : World} {fr : Fr} {tmps : Array Value} (st : St cx r H w) (hf : FrOk cx r H w fr tmps) {x : ResultVar} {y : EV} (h : resE T fr H x = some y) :
 ∃ v, (resS tmps x).run P w = .ok v w /\ y.rel r cx.X (wr r H) w v := by
 cases x with
 | tmp t =>
   simp only [resE] at h
   split at h
   . rename_i z hz
     injection h with h
     subst h
     have := hf t
     rw [hz] at this
     exact ⟨_, rfl, this⟩
   . cases h
 | cell a t =>
   simp only [resE] at h
   split at h
   . rename_i ti k i j sym ht ha
     split at h
     . rename_i et en es v ef he
       cases hb : (Nat.ble (j + ti.size) es && Nat.blt j es && Nat.blt i en) with
       | false => rw [hb] at h; cases h
       | true =>
         rw [hb, cond_true] at h
         simp only [Bool.and_eq_true] at hb
         have b1 := Nat.le_of_ble_eq_true hb.1.1
         have b2 : j < es := Nat.le_of_ble_eq_true hb.1.2
         have b3 : i < en := Nat.le_of_ble_eq_true hb.2
         split at h
         . rename_i p z eff rd hl
           injection h with h
           subst h
           have hav := hf a
           rw [ha] at hav
           obtain ⟨b, hbn, hv⟩ := hav
           obtain ⟨v, g1, g2, g3⟩ := load_ok (P := P) (b := b.b) (off := i * b.sz + j) (hT t ti ht) hl (loadF_pre hl (by omega) (by omega)) (fun _ q hq => by
            obtain ⟨u, hu, hr⟩ := blk_cell st he hbn (i := i) (j := j + q) b3 (show j + q < es by omega)
            exact ⟨u, by rw [Nat.add_assoc]; exact hu, hr⟩)
           refine ⟨v, ?_, g3⟩
           simp only [resS, Sem.run_bind, hv, asAddr, Sem.run_pure, Result.andThen_ok, g1]
         . cases h
     . cases h
   . cases h
theorem resL_ok (hT : TysOk P T) {r : Ren} {H : Hp} {w : World} {fr : Fr} {tmps : Array Value} (st : St cx r H w) (hf : FrOk cx r H w fr tmps) : ∀ (rv : List ResultVar) (l : List EV), resL T fr H rv = some l ->
 ∃ vs : List Value, (rv.mapM (resS tmps)).run P w = .ok vs w /\ vs.length = l.length /\ ∀ (i : Nat) x u, l[i]? = some x -> vs[i]? = some u -> x.rel r cx.X (wr r H) w u := by
 intro rv
 induction rv with
 | nil =>
   intro l h
   simp only [resL, Option.some.injEq] at h
   subst h
   exact ⟨[], rfl, rfl, fun i x u h => by cases i <;> cases h⟩
 | cons x xs ih =>
   intro l h
   simp only [resL] at h
   split at h
   . rename_i y ys h1 h2
     injection h with h
     subst h
     obtain ⟨v, g1, g2⟩ := resE_ok hT st hf h1
     obtain ⟨vs, g3, g4, g5⟩ := ih ys h2
     refine ⟨v :: vs, ?_, by simp [g4], fun i z u hz hu => ?_⟩
     . rw [List.mapM_cons]
       simp only [Sem.run_bind, g1, g3, Result.andThen_ok, Sem.run_pure]
     . cases i with
       | zero => simp only [List.getElem?_cons_zero, Option.some.injEq] at hz hu; subst hz hu; exact g2
       | succ i => exact g5 i z u (by simpa using hz) (by simpa using hu)
   . cases h
theorem results_ok (hT : TysOk P T) {r : Ren} {H : Hp} {w : World} {fr : Fr} {tmps : Array Value} (st : St cx r H w) (hf : FrOk cx r H w fr tmps) {fn : Func} {l : List EV} (h : resL T fr H fn.results.toList = some l) :
 ∃ v, (results fn tmps).run P w = .ok v w /\ (asF l).rel r cx.X (wr r H) w v := by
 obtain ⟨vs, h1, h2, h3⟩ := resL_ok hT st hf _ _ h
 have hm : (fn.results.mapM (resS tmps)).run P w = .ok vs.toArray w := by
  rw [Array.mapM_eq_mapM_toList, Sem.run_map, h1]
  rfl
 rw [results_eq, Sem.run_bind, hm, Result.andThen_ok, Sem.run_pure]
 refine ⟨_, rfl, ?_⟩
 match l, vs, h2 with
 | [x], [v], _ => exact h3 0 x v rfl rfl
 | [], [], _ => exact ⟨#[], rfl, rfl, fun i x u h => by cases i <;> cases h⟩
 | x :: y :: l, v :: u :: vs, h2 =>
   rw [dif_neg (by simp)]
   exact ⟨_, rfl, by simpa using h2, fun i z q hz hq => h3 i z q hz (by simpa using hq)⟩
def argFr : List FV -> Nat -> Fr
 | [], _ => []
 | x :: xs, i => (i, x) :: argFr xs (i + 1)
theorem argFr_get : ∀ (args : List FV) (i t : Nat), fget (argFr args i) t = if i <= t then (args[t - i]?).getD .top else .top := by
 intro args
 induction args with
 | nil => intro i t; simp [argFr, fget, look]
 | cons x xs ih =>
   intro i t
   by_cases h : t = i
   . subst h
     have : fget (argFr (x :: xs) t) t = x := look_cons_eq _ _ _ _
     rw [this]; simp
   . have : fget (argFr (x :: xs) i) t = fget (argFr xs (i + 1)) t := look_cons_ne _ _ _ h
     rw [this, ih]
     by_cases h2 : i + 1 <= t
     . rw [if_pos h2, if_pos (by omega), show t - i = (t - (i + 1)) + 1 by omega]; simp
     . rw [if_neg h2, if_neg (by omega)]
def endH (T : Tys) (rv : List ResultVar) (post : FV -> Hp -> Nat -> Prop) : Kt
 | .ret, fr, H, nx => match resL T fr H rv with
   | some l => post (asF l) H nx
   | none => False
 | .normal, fr, H, nx => match resL T fr H rv with
   | some l => post (asF l) H nx
   | none => False
 | _, _, _, _ => False
theorem fn_run (hwd : 0 < wd) (hT : TysOk P T) (hQ : QsOk P Q) (hm : P.follows .mixedOrders = true) {f : FuncId} {fn : Func} {c : Code} (hf : P.funcs[f]? = some fn) (hb : fn.body = some c) {args : List FV} (hn : args.length <= fn.ntmps) {H0 : Hp} {post : FV -> Hp -> Nat -> Prop}
 (h : exec T Q wd fn.ntmps np c (argFr args 0) H0 np (endH T fn.results.toList post)) (hpin : ∀ k b, cx.pin k = some b -> k < np) {r : Ren} {w : World} {vals : Array Value} (st : St cx r H0 w) (hrel : RelL r cx.X (wr r H0) w args vals) (hnm : ∀ k, np <= k -> r k = none /\ hget H0 k = none) :
 Calls P f vals w fun e w' => ∃ v r' x Hf nf, e = .returned v /\ post x Hf nf /\ St cx r' Hf w' /\ (∀ k, nf <= k -> r' k = none /\ hget Hf k = none) /\ x.rel r' cx.X (wr r' Hf) w' v /\ ∀ k, k < np -> r' k = r k := by
 refine calls_of_wp hf hb ?_
 have hsz : vals.size = args.length := hrel.1
 have fr0 : FrOk cx r H0 w (argFr args 0) (vals ++ Array.replicate (fn.ntmps - vals.size) undef) := by
  intro t
  rw [argFr_get, if_pos (Nat.zero_le _), Nat.sub_zero]
  cases hx : args[t]? with
  | none => trivial
  | some x =>
    have hlt : t < vals.size := by rw [hsz]; exact (List.getElem?_eq_some_iff.1 hx).1
    have hv : vals[t]? = some vals[t] := Array.getElem?_eq_getElem hlt
    have e1 : (vals ++ Array.replicate (fn.ntmps - vals.size) undef).getD t undef = vals[t] := by
     rw [Array.getD_eq_getD_getElem?, Array.getElem?_append_left hlt, hv]; rfl
    rw [e1]
    exact hrel.2 t x _ hx hv
 refine wp_mono (exec_ok (fx := r) hwd hT hQ hm hpin c _ _ _ _ h _ w ⟨_, st, fr0, hnm, by simp; omega, rfl, Nat.le_refl _, fun _ _ => rfl⟩) fun e a' w' hq => ?_
 obtain ⟨fr, H, nx, hk, r', st', hfr, hnm', _, hdf, _, hfx'⟩ := hq
 have main : ∀ l, resL T fr H fn.results.toList = some l -> post (asF l) H nx -> a'.defers = [] /\ ∃ v, (results fn a'.tmps).run P w' = .ok v w' /\ ∃ u r' x Hf nf, Ending.returned v = .returned u /\ post x Hf nf /\ St cx r' Hf w' /\ (∀ k, nf <= k -> r' k = none /\ hget Hf k = none) /\ x.rel r' cx.X (wr r' Hf) w' u /\ ∀ k, k < np -> r' k = r k := by
  intro l hl hp
  obtain ⟨v, g1, g2⟩ := results_ok hT st' hfr hl
  exact ⟨hdf, v, g1, v, r', _, H, nx, rfl, hp, st', hnm', g2, hfx'⟩
 cases e with
 | ret =>
   simp only [endH] at hk
   split at hk
   . rename_i l hl; exact main l hl hk
   . exact hk.elim
 | normal =>
   simp only [endH] at hk
   split at hk
   . rename_i l hl; exact main l hl hk
   . exact hk.elim
 | exit => exact hk.elim
 | goto => exact hk.elim
 | panic => exact hk.elim
 | outgrown => exact hk.elim
end
end Go.Proofs.Ytjknkfjhcapocaa.AX
namespace Go.Proofs.Ytjknkfjhcapocaa.AX
section
variable {c : Wc}
theorem wr_sub (hl : c.Live) {cx : Cx} {r : Ren} {b : Nat} (h : AX.wr (c.ren r) c.H' b) : AX.wr r c.H b := by
 obtain ⟨k, e', x, he, hx, rfl⟩ := h
 unfold Wc.ren at hx
 split at hx
 . rename_i k0 hk0
   obtain ⟨e, hh⟩ := hl k e' he k0 hk0
   exact ⟨k0, e, x, hh, hx, rfl⟩
 . cases hx
theorem leC_int {k : IntKind} {a b : Int} (h : a = b) : LeC c (.int k a) (.int k b) := fun _ cx r w v _ hv => by subst h; exact hv
theorem leC_bool {a b : Bool} (h : a = b) : LeC c (.bool a) (.bool b) := fun _ cx r w v _ hv => by subst h; exact hv
theorem leC_nils : LeC c .nils .nils := fun _ cx r w v _ hv => hv
theorem leC_top {x : CV} : LeC c x .top := fun _ cx r w v _ hv => rel_isCell hv
theorem ren_src {r : Ren} {k k' : Nat} (h : c.src k' = some k) : c.ren r k' = r k := by unfold Wc.ren; rw [h]
theorem leC_ptr {k k' i j : Nat} {s s' : Bool} (h : c.src k' = some k) : LeC c (.ptr k i j s) (.ptr k' i j s') := fun _ cx r w v _ ⟨b, hb, hv⟩ => ⟨b, ⟨by rw [ren_src h]; exact hb.1, hb.2⟩, hv⟩
theorem leC_os {k k' i n n' : Nat} (h : c.src k' = some k) (hn : n = n') : LeC c (.os k i n) (.os k' i n') := by
 subst hn
 rintro _ cx r w v _ ⟨a, cap, rfl, h1, h2⟩
 refine ⟨a, cap, rfl, h1, fun h0 => ?_⟩
 obtain ⟨x, hx, h3⟩ := h2 h0
 exact ⟨x, ⟨by rw [ren_src h]; exact hx.1, hx.2⟩, h3⟩
theorem leC_nils_os {k' n : Nat} (hn : n = 0) : LeC c .nils (.os k' 0 n) := by
 subst hn
 intro _ cx r w v _ hv
 have : v = .slice none 0 0 := hv
 subst this
 exact ⟨none, 0, rfl, Nat.le_refl _, fun h => absurd h (Nat.lt_irrefl _)⟩
theorem leC_nils_sl {sh : Bool} {n sz : Nat} {f : Nat -> Nat -> CV} (hn : n = 0) : LeC c .nils (.sl sh n sz f) := by
 subst hn
 intro _ cx r w v _ hv
 have : v = .slice none 0 0 := hv
 subst this
 exact ⟨none, 0, rfl, Nat.le_refl _, fun h => absurd h (Nat.lt_irrefl _)⟩
theorem leC_sl {sh sh' : Bool} {n n' sz sz' : Nat} {f g : Nat -> Nat -> CV} (hs : (sh' || c.fin) = true -> sh = true) (hn : n = n') (hz : sz = sz') (h : ∀ i, i < n -> ∀ j, j < sz -> LeC c (f i j) (g i j)) : LeC c (.sl sh n sz f) (.sl sh' n' sz' g) := by
 subst hn hz
 rintro hl cx r w v st ⟨a, cap, rfl, h1, h3⟩
 refine ⟨a, cap, rfl, h1, fun h0 => ?_⟩
 obtain ⟨ad, rfl, hsp, ho, hX, hlt, hc⟩ := h3 h0
 refine ⟨ad, rfl, hsp, ?_, fun h => hX (hs (by rw [h]; rfl)), hlt, fun i hi j hj => ?_⟩
 . rintro (hw | ⟨hf, hx⟩)
   . exact ho (wr_sub (cx := cx) hl hw)
   . exact hX (hs (by rw [hf]; simp)) hx
 . obtain ⟨u, hu, hr⟩ := hc i hi j hj
   exact ⟨u, hu, h i hi j hj hl cx r w u st hr⟩
def Wc.dead (c : Wc) (k : Nat) : Bool := !((srcs c c.H').any (Nat.beq k))
theorem leC_os_sl {sh : Bool} {k i n n' sz : Nat} {f : Nat -> Nat -> CV} {e : Ent} (he : hget c.H k = some e) (hd : c.dead k = true) (hz : e.sz = sz) (hn : n = n') (hle : i + n <= e.n) (h : ∀ q, q < n -> ∀ j, j < sz -> LeC c (e.f (i + q) j) (f q j)) : LeC c (.os k i n) (.sl sh n' sz f) := by
 subst hn hz
 rintro hl cx r w v st ⟨a, cap, rfl, h1, h2⟩
 refine ⟨a, cap, rfl, h1, fun h0 => ?_⟩
 obtain ⟨x, ⟨hx, hx0⟩, rfl, h4⟩ := h2 (by omega)
 obtain ⟨g1, g2, g3⟩ := st.blk k e he
 rcases g3 with ⟨g3, _⟩ | ⟨y, cs, c1, c2, c3, c4, c5, c6⟩ | ⟨_, y, _, _, c1, c2, _⟩
 . rw [hx] at g3; cases g3
 . rw [hx] at c1; injection c1 with c1; subst c1
   obtain ⟨d1, d2, d3⟩ := st.dom k x hx
   refine ⟨⟨x.b, i * x.sz, none⟩, rfl, rfl, ?_, fun _ => d3, d1, fun q hq j hj => ?_⟩
   . rintro (⟨k', e', y, he', hy, hyb⟩ | ⟨_, hX⟩)
     . unfold Wc.ren at hy
       split at hy
       . rename_i k0 hk0
         obtain ⟨e0, hh⟩ := hl k' e' he' k0 hk0
         have := st.inj k0 k e0 e y x hh he hy hx hyb
         subst this
         have hm := srcs_mem hk0 he'
         have : (srcs c c.H').any (Nat.beq k0) = true := List.any_eq_true.2 ⟨k0, hm, by simp⟩
         unfold Wc.dead at hd
         rw [this] at hd; cases hd
       . cases hy
     . exact d3 hX
   . have hlt : (i + q) * e.sz + j < cs.size := by
      rw [c4, c2]
      exact idx_lt (show i + q < e.n by omega) hj c5
     refine ⟨cs[(i + q) * e.sz + j], ?_, h q hq j hj hl cx r w _ st (c6 (i + q) (by omega) j hj _ (Array.getElem?_eq_getElem hlt))⟩
     have e1 : i * x.sz + (q * e.sz + j) = (i + q) * e.sz + j := by rw [c2, Nat.add_mul]; omega
     show w.cell? ⟨x.b, i * x.sz + (q * e.sz + j), none⟩ = _
     rw [e1]
     simp [World.cell?, c3, Array.getElem?_eq_getElem hlt]
 . rw [hx] at c1; injection c1 with c1; subst c1; omega
theorem leE_c {x y : CV} (h : LeC c x y) : LeE c (.c x) (.c y) := h
theorem leE_agg {n m : Nat} {f g : Nat -> CV} (hn : n = m) (h : ∀ i, i < n -> LeC c (f i) (g i)) : LeE c (.agg n f) (.agg m g) := by
 subst hn
 rintro hl cx r w v st ⟨cs, rfl, hs, hc⟩
 exact ⟨cs, rfl, hs, fun i u hu => h i (by rw [<- hs]; exact (Array.getElem?_eq_some_iff.1 hu).1) hl cx r w u st (hc i u hu)⟩
theorem leF_e {x y : EV} (h : LeE c x y) : LeF c (.e x) (.e y) := h
theorem leF_c {x y : CV} (h : LeC c x y) : LeF c (.e (.c x)) (.e (.c y)) := h
theorem leF_int {k : IntKind} {a b : Int} (h : a = b) : LeF c (.e (.c (.int k a))) (.e (.c (.int k b))) := leC_int (c := c) h
theorem leF_bool {a b : Bool} (h : a = b) : LeF c (.e (.c (.bool a))) (.e (.c (.bool b))) := leC_bool (c := c) h
theorem leF_ptr {k k' i j : Nat} {s s' : Bool} (h : c.src k' = some k) : LeF c (.e (.c (.ptr k i j s))) (.e (.c (.ptr k' i j s'))) := leC_ptr (c := c) (s := s) (s' := s') h
def LeL (c : Wc) : List EV -> List EV -> Prop
 | [], [] => True
 | x :: l, y :: l' => LeE c x y /\ LeL c l l'
 | _, _ => False
theorem LeL.at : ∀ {l l' : List EV}, LeL c l l' -> l.length = l'.length /\ ∀ (i : Nat) x y, l[i]? = some x -> l'[i]? = some y -> LeE c x y := by
 intro l
 induction l with
 | nil =>
   intro l' h
   cases l' with
   | nil => exact ⟨rfl, fun i x y h => by cases i <;> cases h⟩
   | cons => exact h.elim
 | cons x l ih =>
   intro l' h
   cases l' with
   | nil => exact h.elim
   | cons y l' =>
     obtain ⟨h1, h2⟩ := h
     obtain ⟨h3, h4⟩ := ih h2
     refine ⟨by simp [h3], fun i a b ha hb => ?_⟩
     cases i with
     | zero => simp only [List.getElem?_cons_zero, Option.some.injEq] at ha hb; subst ha hb; exact h1
     | succ i => exact h4 i a b (by simpa using ha) (by simpa using hb)
theorem leF_tup {l l' : List EV} (h : LeL c l l') : LeF c (.tup l) (.tup l') := by
 obtain ⟨h1, h2⟩ := h.at
 rintro hl cx r w v st ⟨vs, rfl, hs, hc⟩
 refine ⟨vs, rfl, by rw [hs, h1], fun i y u hy hu => ?_⟩
 have hi : i < l.length := by rw [h1]; exact (List.getElem?_eq_some_iff.1 hy).1
 exact h2 i _ y (List.getElem?_eq_getElem hi) hy hl cx r w u st (hc i _ u (List.getElem?_eq_getElem hi) hu)
def allLt : Nat -> (Nat -> Prop) -> Prop
 | 0, _ => True
 | n + 1, p => allLt n p /\ p n
theorem allLt_at {p : Nat -> Prop} : ∀ {n : Nat}, allLt n p -> ∀ i, i < n -> p i := by
 intro n
 induction n with
 | zero => intro _ i h; omega
 | succ n ih =>
   intro h i hi
   by_cases he : i = n
   . subst he; exact h.2
   . exact ih h.1 i (by omega)
theorem leE_all {n : Nat} {f g : Nat -> CV} (h : allLt n fun i => LeC c (f i) (g i)) : LeE c (.agg n f) (.agg n g) := leE_agg rfl (allLt_at h)
theorem leN_var {t : TypeId} {sz : Nat} {f g : Nat -> Nat -> CV} (h : allLt sz fun j => LeC c (f 0 j) (g 0 j)) : LeN c ⟨t, 1, sz, true, f⟩ ⟨t, 1, sz, true, g⟩ :=
 ⟨rfl, rfl, rfl, rfl, fun i hi j hj => by have h1 : i < 1 := hi; have : i = 0 := by omega
                                          subst this; exact allLt_at h j hj⟩
theorem leN_varA {t : TypeId} {sz : Nat} {f g : Nat -> Nat -> CV} (h : ∀ j, j < sz -> LeC c (f 0 j) (g 0 j)) : LeN c ⟨t, 1, sz, true, f⟩ ⟨t, 1, sz, true, g⟩ :=
 ⟨rfl, rfl, rfl, rfl, fun i hi j hj => by have h1 : i < 1 := hi; have : i = 0 := by omega
                                          subst this; exact h j hj⟩
theorem leN_row {t : TypeId} {n n' sz : Nat} {f g : Nat -> Nat -> CV} (hn : n = n') (h : ∀ i, i < n -> ∀ j, j < sz -> LeC c (f i j) (g i j)) : LeN c ⟨t, n, sz, false, f⟩ ⟨t, n', sz, false, g⟩ := ⟨rfl, hn, rfl, rfl, h⟩
def Cl (x : CV) : Prop := ∀ c : Wc, c.fin = false -> LeC c x x
theorem cl_sl {sh : Bool} {n sz : Nat} {f : Nat -> Nat -> CV} (h : ∀ i, i < n -> ∀ j, j < sz -> Cl (f i j)) : Cl (.sl sh n sz f) := fun c hc => leC_sl (by rw [hc]; cases sh <;> simp) rfl rfl fun i hi j hj => h i hi j hj c hc
theorem leF_cl {H H' : Hp} {rho : List (Nat × Option Nat)} {nx : Nat} {x : CV} (h : Cl x) : LeF ⟨H, H', rho, nx, false⟩ (.e (.c x)) (.e (.c x)) := h _ rfl
end
theorem CV.rel_into {X' Y X W : Nat -> Prop} {r : Ren} {w : World} (hX : ∀ b, X b -> Y b) (hW : ∀ b, W b -> Y b) : ∀ (x : CV) (v : Value), x.rel (fun _ => none) X' Y w v -> x.rel r X W w v := by
 intro x
 induction x with
 | top => intro v h; exact h
 | int => intro v h; exact h
 | bool => intro v h; exact h
 | ptr nm i j s => rintro v ⟨x, hx, _⟩; cases hx.1
 | mp nm => rintro v ⟨x, hx, _⟩; cases hx
 | nilp => intro v h; exact h
 | nils => intro v h; exact h
 | sl sh n sz f ih =>
   rintro v ⟨a, cap, rfl, h1, h2⟩
   refine ⟨a, cap, rfl, h1, fun h0 => ?_⟩
   obtain ⟨ad, rfl, hs, ho, _, hlt, hc⟩ := h2 h0
   refine ⟨ad, rfl, hs, fun h => ho (hW _ h), fun _ h => ho (hX _ h), hlt, fun i hi j hj => ?_⟩
   obtain ⟨u, hu, hr⟩ := hc i hi j hj
   exact ⟨u, hu, ih i j u hr⟩
 | rp sh m g ih =>
   rintro v ⟨ad, rfl, hs, ho, _, hlt, hc⟩
   refine ⟨ad, rfl, hs, fun h => ho (hW _ h), fun _ h => ho (hX _ h), hlt, fun j hj => ?_⟩
   obtain ⟨u, hu, hr⟩ := hc j hj
   exact ⟨u, hu, ih j u hr⟩
 | os nm i n =>
   rintro v ⟨a, cap, rfl, h1, h2⟩
   refine ⟨a, cap, rfl, h1, fun h0 => ?_⟩
   obtain ⟨x, hx, _⟩ := h2 h0; cases hx.1
 | oa nm i j n es =>
   rintro v ⟨a, cap, rfl, h1, h2⟩
   refine ⟨a, cap, rfl, h1, fun h0 => ?_⟩
   obtain ⟨x, hx, _⟩ := h2 h0; cases hx.1
 | fn f n m a ih =>
   rintro v ⟨fs, cs, rfl, h1, h2, h3, h4⟩
   exact ⟨fs, cs, rfl, h1, h2, fun k u hu => ih k u (h3 k u hu), fun k u hu => ih _ u (h4 k u hu)⟩
theorem EV.rel_into {X' Y X W : Nat -> Prop} {r : Ren} {w : World} (hX : ∀ b, X b -> Y b) (hW : ∀ b, W b -> Y b) : ∀ (x : EV) (v : Value), x.rel (fun _ => none) X' Y w v -> x.rel r X W w v := by
 intro x v
 cases x with
 | c x => exact CV.rel_into hX hW x v
 | agg n f => rintro ⟨cs, rfl, hs, hc⟩; exact ⟨cs, rfl, hs, fun i u hu => CV.rel_into hX hW _ _ (hc i u hu)⟩
theorem FV.rel_into {X' Y X W : Nat -> Prop} {r : Ren} {w : World} (hX : ∀ b, X b -> Y b) (hW : ∀ b, W b -> Y b) : ∀ (x : FV) (v : Value), x.rel (fun _ => none) X' Y w v -> x.rel r X W w v := by
 intro x v
 cases x with
 | top => exact fun _ => trivial
 | e x => exact EV.rel_into hX hW x v
 | tup l => rintro ⟨vs, rfl, hs, hc⟩; exact ⟨vs, rfl, hs, fun i x u hx hu => EV.rel_into hX hW _ _ (hc i x u hx hu)⟩
theorem runR_mono {T : Tys} {Q : Qs} (hM : QsMono Q) {wd nt : Nat} {all : List Oper} {K K' : Fr -> Hp -> Nat -> Log -> Prop} (hK : ∀ fr H nx log, K fr H nx log -> K' fr H nx log) : ∀ (os : List Oper) (i : Nat) (fr : Fr) (H : Hp) (nx : Nat) (log : Log),
 runR T Q wd nt all os i fr H nx log K -> runR T Q wd nt all os i fr H nx log K' := by
 intro os
 induction os with
 | nil => intro i fr H nx log h; exact hK _ _ _ _ h
 | cons o os ih =>
   intro i fr H nx log h
   unfold runR at h ⊢
   cases hd : okDst nt o.dst with
   | false => rw [hd] at h; exact h.elim
   | true =>
     rw [hd, cond_true] at h
     rw [cond_true]
     split at h
     . split at h
       . split at h
         . exact hM _ _ _ _ _ _ (by assumption) _ _ (fun v e rd hh => ih _ _ _ _ _ hh) h
         . exact h.elim
       . split at h
         . split at h
           . exact ih _ _ _ _ _ h
           . exact ⟨h.1, ih _ _ _ _ _ h.2⟩
           . exact ⟨fun e => ih _ _ _ _ _ (h.1 e), fun e => ih _ _ _ _ _ (h.2 e)⟩
           . exact ⟨h.1, fun e => ih _ _ _ _ _ (h.2.1 e), fun e => ih _ _ _ _ _ (h.2.2 e)⟩
           . exact h.elim
         . exact h.elim
     . exact ih _ _ _ _ _ h
     . exact h.elim
theorem seqK_mono {n n' : Fr -> Hp -> Nat -> Prop} {K K' : Kt} (hn : ∀ fr H nx, n fr H nx -> n' fr H nx) (hK : ∀ e fr H nx, K e fr H nx -> K' e fr H nx) : ∀ e fr H nx, seqK n K e fr H nx -> seqK n' K' e fr H nx := by
 intro e fr H nx h
 cases e <;> first | exact hn _ _ _ h | exact hK _ _ _ _ h
theorem blkK_mono {id : Nat} {K K' : Kt} (hK : ∀ e fr H nx, K e fr H nx -> K' e fr H nx) : ∀ e fr H nx, blkK id K e fr H nx -> blkK id K' e fr H nx := by
 intro e fr H nx h
 cases e with
 | exit id' =>
   have h' : (bif Nat.beq id' id then K .normal fr H nx else K (.exit id') fr H nx) := h
   show (bif Nat.beq id' id then K' .normal fr H nx else K' (.exit id') fr H nx)
   cases hb : Nat.beq id' id with
   | true => rw [hb] at h'; exact hK _ _ _ _ h'
   | false => rw [hb] at h'; exact hK _ _ _ _ h'
 | normal => exact hK _ _ _ _ h
 | goto l => exact hK _ _ _ _ h
 | ret => exact hK _ _ _ _ h
 | panic c => exact hK _ _ _ _ h
 | outgrown => exact hK _ _ _ _ h
theorem iter_mono {np : Nat} {R : Fr -> Hp -> Nat -> Kt -> Prop} (hR : ∀ K K' : Kt, (∀ e fr H nx, K e fr H nx -> K' e fr H nx) -> ∀ fr H nx, R fr H nx K -> R fr H nx K') {K K' : Kt} (hK : ∀ e fr H nx, K e fr H nx -> K' e fr H nx) :
 ∀ n fr H nx, iter np R K n fr H nx -> iter np R K' n fr H nx := by
 intro n
 induction n with
 | zero => intro fr H nx h; exact h
 | succ n ih =>
   intro fr H nx h
   obtain ⟨fr', H', rho, nx', h0, hrho, h1, h2, h3⟩ := h
   exact ⟨fr', H', rho, nx', h0, hrho, h1, h2, hR _ _ (seqK_mono ih hK) _ _ _ h3⟩
theorem exec_mono {T : Tys} {Q : Qs} (hM : QsMono Q) {wd nt np : Nat} : ∀ (c : Code) (K K' : Kt), (∀ e fr H nx, K e fr H nx -> K' e fr H nx) -> ∀ fr H nx, exec T Q wd nt np c fr H nx K -> exec T Q wd nt np c fr H nx K' := by
 intro c
 induction c with
 | skip => intro K K' hK fr H nx h; exact hK _ _ _ _ h
 | region id ops draw =>
   intro K K' hK fr H nx h
   unfold exec at h ⊢
   refine runR_mono hM (fun fr H nx log h => ?_) _ _ _ _ _ _ h
   cases hb : (!draw || regOkA ops.toList log.reverse) with
   | true => rw [hb] at h; exact hK _ _ _ _ h
   | false => rw [hb] at h; exact h
 | seq a b iha ihb =>
   intro K K' hK fr H nx h
   exact iha _ _ (seqK_mono (fun fr H nx h => ihb _ _ hK _ _ _ h) hK) _ _ _ h
 | cond c a b iha ihb =>
   intro K K' hK fr H nx h
   unfold exec at h ⊢
   split at h
   . exact ⟨fun e => iha _ _ hK _ _ _ (h.1 e), fun e => ihb _ _ hK _ _ _ (h.2 e)⟩
   . exact h.elim
 | block id c ih => intro K K' hK fr H nx h; exact ih _ _ (blkK_mono hK) _ _ _ h
 | loop c ih =>
   intro K K' hK fr H nx h
   obtain ⟨n, hn⟩ := h
   exact ⟨n, iter_mono (fun K K' hk fr H nx h => ih K K' hk fr H nx h) hK n _ _ _ hn⟩
 | exit id => intro K K' hK fr H nx h; exact hK _ _ _ _ h
 | ret => intro K K' hK fr H nx h; exact hK _ _ _ _ h
 | label l => intro K K' hK fr H nx h; exact hK _ _ _ _ h
 | rangeFunc => intro K K' hK fr H nx h; exact h.elim
 | scope => intro K K' hK fr H nx h; exact h.elim
 | goto => intro K K' hK fr H nx h; exact h.elim
 | refuse => intro K K' hK fr H nx h; exact h.elim
structure Hd where
 fr : Fr
 H : Hp
 nx : Nat
def To {σ : Type} (S : σ -> Hd) (np : Nat) (fr : Fr) (H : Hp) (s : σ) (rho : List (Nat × Option Nat)) : Prop :=
 rhoOk np ⟨H, (S s).H, rho, (S s).nx, false⟩ = true /\ WkF ⟨H, (S s).H, rho, (S s).nx, false⟩ fr (S s).fr /\ WkH ⟨H, (S s).H, rho, (S s).nx, false⟩ (S s).H
def Goes {σ : Type} (S : σ -> Hd) (μ : σ -> Nat) (np m : Nat) (fr : Fr) (H : Hp) : Prop := ∃ s rho, μ s < m /\ To S np fr H s rho
theorem loop_intro {T : Tys} {Q : Qs} (hM : QsMono Q) {wd nt np : Nat} {c : Code} {K : Kt} {σ : Type} (S : σ -> Hd) (μ : σ -> Nat) (hnp : ∀ s, Nat.ble np (S s).nx = true)
 (hround : ∀ s, exec T Q wd nt np c (S s).fr (S s).H (S s).nx (seqK (fun fr H _ => Goes S μ np (μ s) fr H) K)) {fr : Fr} {H : Hp} {nx : Nat} (s0 : σ) (rho : List (Nat × Option Nat)) (h0 : To S np fr H s0 rho) :
 ∃ n, iter np (exec T Q wd nt np c) K n fr H nx := by
 have key : ∀ m s rho fr H nx, μ s < m -> To S np fr H s rho -> iter np (exec T Q wd nt np c) K m fr H nx := by
  intro m
  induction m with
  | zero => intro s rho fr H nx h; omega
  | succ m ih =>
    intro s rho fr H nx hm h1
    refine ⟨(S s).fr, (S s).H, rho, (S s).nx, hnp s, h1.1, h1.2.1, h1.2.2, exec_mono hM c _ _ (seqK_mono (fun fr H nx h => ?_) (fun _ _ _ _ h => h)) _ _ _ (hround s)⟩
    obtain ⟨s', rho', h3, h4⟩ := h
    exact ih s' rho' fr H nx (by omega) h4
 exact ⟨μ s0 + 1, key _ s0 rho _ _ _ (by omega) h0⟩
def QR (P : Program) : Qs := fun f args H nm wd => some fun K => ∃ v e rd, CallR P f args H nm wd ⟨none, v, e, rd⟩ /\ K v e rd
theorem QR_ok (P : Program) : QsOk P (QR P) := by
 intro f args H nm wd q _ h K hK
 injection h with h
 subst h
 exact hK
theorem runR_det {P : Program} {T : Tys} {Q : Qs} {wd nt : Nat} (hwd : 0 < wd) (hQ : QsOk P Q) {all : List Oper} : ∀ (os : List Oper) (i : Nat) (fr : Fr) (H : Hp) (nx : Nat) (log : Log) (K : Fr -> Hp -> Nat -> Log -> Prop), runR T Q wd nt all os i fr H nx log K ->
 ∃ fr' H' nx' log', K fr' H' nx' log' /\ ∀ K' : Fr -> Hp -> Nat -> Log -> Prop, K' fr' H' nx' log' -> runR T (QR P) wd nt all os i fr H nx log K' := by
 intro os
 induction os with
 | nil => intro i fr H nx log K h; exact ⟨fr, H, nx, log, h, fun K' h' => h'⟩
 | cons o os ih =>
   intro i fr H nx log K h
   unfold runR at h
   cases hd : okDst nt o.dst with
   | false => rw [hd] at h; exact h.elim
   | true =>
     rw [hd, cond_true] at h
     split at h
     . rename_i hw
       split at h
       . rename_i f args hc
         split at h
         . rename_i q hq hG
           obtain ⟨v, e, rd, h1, h2⟩ := hQ _ _ _ _ _ _ hwd hq _ h
           obtain ⟨a, b, c, d, hK, hr⟩ := ih _ _ _ _ _ _ h2
           refine ⟨a, b, c, d, hK, fun K' hK' => ?_⟩
           unfold runR
           simp only [hd, cond_true, hw, hc, hG, QR]
           exact ⟨v, e, rd, h1, hr K' hK'⟩
         . exact h.elim
       . rename_i hc
         split at h
         . rename_i pre val eff rd hs
           split at h
           . rename_i hG
             obtain ⟨a, b, c, d, hK, hr⟩ := ih _ _ _ _ _ _ h
             refine ⟨a, b, c, d, hK, fun K' hK' => ?_⟩
             unfold runR
             simp only [hd, cond_true, hw, hs, hc, hG]
             exact hr K' hK'
           . rename_i hG
             obtain ⟨a, b, c, d, hK, hr⟩ := ih _ _ _ _ _ _ h.2
             refine ⟨a, b, c, d, hK, fun K' hK' => ?_⟩
             unfold runR
             simp only [hd, cond_true, hw, hs, hc, hG]
             exact ⟨h.1, hr K' hK'⟩
           . rename_i b hG
             rcases Bool.eq_false_or_eq_true b with hb | hb
             . subst hb
               obtain ⟨a, b, c, d, hK, hr⟩ := ih _ _ _ _ _ _ (h.1 rfl)
               refine ⟨a, b, c, d, hK, fun K' hK' => ?_⟩
               unfold runR
               simp only [hd, cond_true, hw, hs, hc, hG]
               exact ⟨fun _ => hr K' hK', (fun h => nomatch h)⟩
             . subst hb
               obtain ⟨a, b, c, d, hK, hr⟩ := ih _ _ _ _ _ _ (h.2 rfl)
               refine ⟨a, b, c, d, hK, fun K' hK' => ?_⟩
               unfold runR
               simp only [hd, cond_true, hw, hs, hc, hG]
               exact ⟨(fun h => nomatch h), fun _ => hr K' hK'⟩
           . rename_i p b hG
             rcases Bool.eq_false_or_eq_true b with hb | hb
             . subst hb
               obtain ⟨a, b, c, d, hK, hr⟩ := ih _ _ _ _ _ _ (h.2.1 rfl)
               refine ⟨a, b, c, d, hK, fun K' hK' => ?_⟩
               unfold runR
               simp only [hd, cond_true, hw, hs, hc, hG]
               exact ⟨h.1, fun _ => hr K' hK', (fun h => nomatch h)⟩
             . subst hb
               obtain ⟨a, b, c, d, hK, hr⟩ := ih _ _ _ _ _ _ (h.2.2 rfl)
               refine ⟨a, b, c, d, hK, fun K' hK' => ?_⟩
               unfold runR
               simp only [hd, cond_true, hw, hs, hc, hG]
               exact ⟨h.1, (fun h => nomatch h), fun _ => hr K' hK'⟩
           . exact h.elim
         . exact h.elim
     . rename_i hw
       obtain ⟨a, b, c, d, hK, hr⟩ := ih _ _ _ _ _ _ h
       refine ⟨a, b, c, d, hK, fun K' hK' => ?_⟩
       unfold runR
       simp only [hd, cond_true, hw]
       exact hr K' hK'
     . exact h.elim
def Det (R : Kt -> Prop) (K : Kt) : Prop := ∃ e fr H nx, K e fr H nx /\ ∀ K' : Kt, K' e fr H nx -> R K'
theorem exec_det {P : Program} {T : Tys} {Q : Qs} {wd nt np : Nat} (hwd : 0 < wd) (hQ : QsOk P Q) : ∀ (c : Code) (fr : Fr) (H : Hp) (nx : Nat) (K : Kt), exec T Q wd nt np c fr H nx K -> Det (exec T (QR P) wd nt np c fr H nx) K := by
 intro c
 induction c with
 | skip => intro fr H nx K h; exact ⟨_, _, _, _, h, fun K' h' => h'⟩
 | region id ops draw =>
   intro fr H nx K h
   unfold exec at h
   obtain ⟨a, b, c, d, hK, hr⟩ := runR_det hwd hQ _ _ _ _ _ _ _ h
   cases hb : (!draw || regOkA ops.toList d.reverse) with
   | false => rw [hb] at hK; exact hK.elim
   | true =>
     rw [hb, cond_true] at hK
     refine ⟨_, _, _, _, hK, fun K' hK' => ?_⟩
     unfold exec
     refine hr _ ?_
     rw [hb, cond_true]
     exact hK'
 | seq a b iha ihb =>
   intro fr H nx K h
   unfold exec at h
   obtain ⟨e, fr1, H1, nx1, hK, hr⟩ := iha _ _ _ _ h
   cases e with
   | normal =>
     obtain ⟨e2, fr2, H2, nx2, hK2, hr2⟩ := ihb _ _ _ _ hK
     refine ⟨e2, fr2, H2, nx2, hK2, fun K' hK' => ?_⟩
     unfold exec
     exact hr _ (hr2 K' hK')
   | _ =>
     refine ⟨_, _, _, _, hK, fun K' hK' => ?_⟩
     unfold exec
     exact hr _ hK'
 | cond x a b iha ihb =>
   intro fr H nx K h
   unfold exec at h
   split at h
   . rename_i t ht
     rcases Bool.eq_false_or_eq_true t with hb | hb
     . subst hb
       obtain ⟨e, fr1, H1, nx1, hK, hr⟩ := iha _ _ _ _ (h.1 rfl)
       refine ⟨_, _, _, _, hK, fun K' hK' => ?_⟩
       unfold exec
       rw [ht]
       exact ⟨fun _ => hr K' hK', (fun h => nomatch h)⟩
     . subst hb
       obtain ⟨e, fr1, H1, nx1, hK, hr⟩ := ihb _ _ _ _ (h.2 rfl)
       refine ⟨_, _, _, _, hK, fun K' hK' => ?_⟩
       unfold exec
       rw [ht]
       exact ⟨(fun h => nomatch h), fun _ => hr K' hK'⟩
   . exact h.elim
 | block id c ih =>
   intro fr H nx K h
   unfold exec at h
   obtain ⟨e, fr1, H1, nx1, hK, hr⟩ := ih _ _ _ _ h
   cases e with
   | exit j =>
     cases hb : Nat.beq j id with
     | true =>
       simp only [blkK, hb, cond_true] at hK
       refine ⟨_, _, _, _, hK, fun K' hK' => ?_⟩
       unfold exec
       refine hr _ ?_
       simp only [blkK, hb, cond_true]
       exact hK'
     | false =>
       simp only [blkK, hb, cond_false] at hK
       refine ⟨_, _, _, _, hK, fun K' hK' => ?_⟩
       unfold exec
       refine hr _ ?_
       simp only [blkK, hb, cond_false]
       exact hK'
   | _ =>
     refine ⟨_, _, _, _, hK, fun K' hK' => ?_⟩
     unfold exec
     exact hr _ hK'
 | loop c ih =>
   intro fr H nx K h
   unfold exec at h
   obtain ⟨n, h⟩ := h
   have key : ∀ n fr H nx, iter np (exec T Q wd nt np c) K n fr H nx -> ∃ e fr1 H1 nx1, K e fr1 H1 nx1 /\ ∀ K' : Kt, K' e fr1 H1 nx1 -> ∃ m, iter np (exec T (QR P) wd nt np c) K' m fr H nx := by
    intro n
    induction n with
    | zero => intro fr H nx h; exact h.elim
    | succ n ihn =>
      intro fr H nx h
      obtain ⟨fr', H', rho, nx', h0, hrho, h1, h2, h3⟩ := h
      obtain ⟨e, fr1, H1, nx1, hK, hr⟩ := ih _ _ _ _ h3
      cases e with
      | normal =>
        obtain ⟨e2, fr2, H2, nx2, hK2, hr2⟩ := ihn _ _ _ hK
        refine ⟨e2, fr2, H2, nx2, hK2, fun K' hK' => ?_⟩
        obtain ⟨m, hm⟩ := hr2 K' hK'
        exact ⟨m + 1, fr', H', rho, nx', h0, hrho, h1, h2, hr _ hm⟩
      | _ => exact ⟨_, _, _, _, hK, fun K' hK' => ⟨1, fr', H', rho, nx', h0, hrho, h1, h2, hr _ hK'⟩⟩
   obtain ⟨e, fr1, H1, nx1, hK, hr⟩ := key n _ _ _ h
   refine ⟨e, fr1, H1, nx1, hK, fun K' hK' => ?_⟩
   unfold exec
   exact hr K' hK'
 | exit id => intro fr H nx K h; exact ⟨_, _, _, _, h, fun K' h' => h'⟩
 | ret => intro fr H nx K h; exact ⟨_, _, _, _, h, fun K' h' => h'⟩
 | label l => intro fr H nx K h; exact ⟨_, _, _, _, h, fun K' h' => h'⟩
 | _ => intro fr H nx K h; exact h.elim
theorem exec_some {α : Type} {P : Program} {T : Tys} {Q : Qs} {wd nt np : Nat} (hwd : 0 < wd) (hQ : QsOk P Q) {c : Code} {fr : Fr} {H : Hp} {nx : Nat} {rv : List ResultVar} {post : α -> FV -> Hp -> Nat -> Prop} {S : α -> Prop}
 (h : exec T Q wd nt np c fr H nx (endH T rv fun x Hf nf => ∃ a, S a /\ post a x Hf nf)) : ∃ a, S a /\ exec T (QR P) wd nt np c fr H nx (endH T rv (post a)) := by
 obtain ⟨e, fr1, H1, nx1, hK, hr⟩ := exec_det hwd hQ _ _ _ _ _ h
 have : ∃ a, S a /\ endH T rv (post a) e fr1 H1 nx1 := by
  cases e with
  | ret =>
    simp only [endH] at hK ⊢
    split at hK
    . obtain ⟨a, h1, h2⟩ := hK; exact ⟨a, h1, h2⟩
    . exact hK.elim
  | normal =>
    simp only [endH] at hK ⊢
    split at hK
    . obtain ⟨a, h1, h2⟩ := hK; exact ⟨a, h1, h2⟩
    . exact hK.elim
  | _ => exact hK.elim
 obtain ⟨a, h1, h2⟩ := this
 exact ⟨a, h1, hr _ h2⟩
end Go.Proofs.Ytjknkfjhcapocaa.AX
namespace Go.Proofs.Ytjknkfjhcapocaa.AX
open Go.RowKit
abbrev Entry := List FV -> Hp -> Nat -> Nat -> Option Qf
structure EntOk (P : Program) (f : FuncId) (x : Entry) : Prop where
 ok : ∀ args H nm wd q, 0 < wd -> x args H nm wd = some q -> ∀ K, q K -> ∃ v e rd, CallR P f args H nm wd ⟨none, v, e, rd⟩ /\ K v e rd
 mono : ∀ args H nm wd q, x args H nm wd = some q -> ∀ K K' : FV -> Hp -> List Nat -> Prop, (∀ v e rd, K v e rd -> K' v e rd) -> q K -> q K'
abbrev CsL := List (Nat × Option Entry)
def mkQ (l : CsL) : Qs := fun f args H nm wd => match look none l f with
 | some e => e args H nm wd
 | none => none
def AllOk (P : Program) : CsL -> Prop
 | [] => True
 | (_, none) :: l => AllOk P l
 | (f, some g) :: l => EntOk P f g /\ AllOk P l
theorem AllOk.at {P : Program} : ∀ {l : CsL}, AllOk P l -> ∀ f g, look none l f = some g -> EntOk P f g := by
 intro l
 induction l with
 | nil => intro _ f g h; cases h
 | cons p l ih =>
   obtain ⟨k, x⟩ := p
   intro h f g hf
   by_cases hk : f = k
   . subst hk
     rw [look_cons_eq] at hf
     subst hf
     exact h.1
   . rw [look_cons_ne _ _ _ hk] at hf
     cases x with
     | none => exact ih h f g hf
     | some y => exact ih h.2 f g hf
theorem append_ok {P : Program} : ∀ {a b : CsL}, AllOk P a -> AllOk P b -> AllOk P (a ++ b) := by
 intro a
 induction a with
 | nil => intro b _ h; exact h
 | cons p a ih =>
   intro b h1 h2
   obtain ⟨k, x⟩ := p
   cases x with
   | none => exact ih h1 h2
   | some y => exact ⟨h1.1, ih h1.2 h2⟩
theorem q_of {P : Program} {l : CsL} (h : AllOk P l) : QsOk P (mkQ l) := by
 intro f args H nm wd q hwd hq
 unfold mkQ at hq
 split at hq
 . rename_i g hg
   exact (h.at f g hg).ok args H nm wd q hwd hq
 . cases hq
theorem mono_of {P : Program} {l : CsL} (h : AllOk P l) : QsMono (mkQ l) := by
 intro f args H nm wd q hq
 unfold mkQ at hq
 split at hq
 . rename_i g hg
   exact (h.at f g hg).mono args H nm wd q hq
 . cases hq
def wrBut (r : Ren) (H : Hp) (rd : List Nat) (b : Nat) : Prop := ∃ nm e x, hget H nm = some e /\ r nm = some x /\ x.b = b /\ nm ∉ rd
def Bo (H : Hp) (rd : List Nat) (x y : FV) : Prop := ∀ cx r w v, St cx r H w -> x.rel r cx.X (wr r H) w v -> y.rel (fun _ => none) (fun b => cx.X b \/ wr r H b) (wrBut r H rd) w v
def BoL (H : Hp) (rd : List Nat) (l l' : List FV) : Prop := l.length = l'.length /\ ∀ (i : Nat) x y, l[i]? = some x -> l'[i]? = some y -> Bo H rd x y
theorem FV.rel_w {r : Ren} {X W W' : Nat -> Prop} {w : World} (h : ∀ b, W' b -> W b) (x : FV) (v : Value) (hx : x.rel r X W w v) : x.rel r X W' w v :=
 FV.rel_ext ⟨fun _ _ h => h, Nat.le_refl _, fun _ _ _ => rfl, fun b _ hb => h b hb⟩ x v hx
theorem CV.rel_w {r : Ren} {X W W' : Nat -> Prop} {w : World} (h : ∀ b, W' b -> W b) (x : CV) (v : Value) (hx : x.rel r X W w v) : x.rel r X W' w v :=
 CV.rel_ext ⟨fun _ _ h => h, Nat.le_refl _, fun _ _ _ => rfl, fun b _ hb => h b hb⟩ x v hx
theorem Bo.more {H : Hp} {rd rd' : List Nat} {x y : FV} (h : Bo H rd x y) (hs : ∀ k ∈ rd, k ∈ rd') : Bo H rd' x y := fun cx r w v st hx =>
 FV.rel_w (fun b ⟨nm, e, x, h1, h2, h3, h4⟩ => ⟨nm, e, x, h1, h2, h3, fun h => h4 (hs nm h)⟩) _ _ (h cx r w v st hx)
structure Codec (α : Type) where
 enc : α -> FV
 dec : Hp -> FV -> Option (α × Option Prop × List Nat)
 sound : ∀ H H' x a p rd, dec H x = some (a, p, rd) -> preOk p -> (∀ k ∈ rd, hget H k = hget H' k) -> Bo H' rd x (enc a)
structure AC (α : Type) where
 enc : α -> List FV
 dec : Hp -> List FV -> Option (α × Option Prop × List Nat)
 sound : ∀ H H' l a p rd, dec H l = some (a, p, rd) -> preOk p -> (∀ k ∈ rd, hget H k = hget H' k) -> BoL H' rd l (enc a)
def AC.nil : AC Unit where
 enc _ := []
 dec _ l := match l with
  | [] => some ((), none, [])
  | _ => none
 sound H H' l a p rd h _ _ := by
  split at h
  . exact ⟨rfl, fun i x y h => by cases i <;> cases h⟩
  . cases h
def AC.cons {α β : Type} (c : Codec α) (d : AC β) : AC (α × β) where
 enc a := c.enc a.1 :: d.enc a.2
 dec H l := match l with
  | x :: l => match c.dec H x with
    | some (a, p, rd) => match d.dec H l with
      | some (b, q, rd') => some ((a, b), both p q, rd ++ rd')
      | none => none
    | none => none
  | [] => none
 sound H H' l a p rd h hp hh := by
  split at h
  . rename_i x l
    split at h
    . rename_i a0 p0 rd0 h0
      split at h
      . rename_i b q rd' h1
        injection h with h
        injection h with e1 e2
        injection e2 with e2 e3
        subst e1 e2 e3
        obtain ⟨hp1, hp2⟩ := both_ok.1 hp
        have s1 := c.sound H H' x a0 p0 rd0 h0 hp1 (fun k hk => hh k (List.mem_append_left _ hk))
        obtain ⟨s2, s3⟩ := d.sound H H' l b q rd' h1 hp2 (fun k hk => hh k (List.mem_append_right _ hk))
        refine ⟨by simp [s2], fun i x y hx hy => ?_⟩
        cases i with
        | zero => simp only [List.getElem?_cons_zero, Option.some.injEq] at hx hy; subst hx hy; exact s1.more fun k hk => List.mem_append_left _ hk
        | succ i => exact (s3 i x y (by simpa using hx) (by simpa using hy)).more fun k hk => List.mem_append_right _ hk
      . cases h
    . cases h
  . cases h
def pAnd : Option Prop -> Prop -> Prop
 | none, q => q
 | some p, q => p /\ q
theorem pAnd_iff {p : Option Prop} {q : Prop} : pAnd p q ↔ preOk p /\ q := by cases p <;> simp [pAnd, preOk]
structure Done (H : Hp) (x spec : FV) : Prop where
 le : LeF ⟨H, [], [], 0, true⟩ x spec
def PureOk (P : Program) (f : FuncId) (args : List FV) (spec : FV) : Prop :=
 ∀ X w (vals : Array Value), RelL (fun _ => none) X (fun _ => False) w args vals -> Xw X w -> Calls P f vals w fun e w' => ∃ v, e = .returned v /\ Below w.heap.size w w' /\ spec.rel (fun _ => none) X X w' v
theorem st_xw {cx : Cx} {r : Ren} {H : Hp} {w : World} (st : St cx r H w) : Xw (fun b => cx.X b \/ wr r H b) w := by
 refine ⟨?_, fun p hp => ?_⟩
 . rintro b (hx | ⟨k, e, x, _, hx, rfl⟩)
   . exact Nat.lt_of_lt_of_le (st.xlt.lt b hx) st.size
   . exact (st.dom k x hx).1
 . obtain ⟨h1, h2, h3⟩ := st.xlt.gl p hp
   refine ⟨Nat.lt_of_lt_of_le h1 st.size, ?_, fun j k n hkn => ?_⟩
   . rintro (hx | ⟨k, e, x, he, hx, hb⟩)
     . exact h2 (.inl hx)
     . rcases (st.dom k x hx).2.1 with hd | hd
       . omega
       . exact h2 (.inr (.inl (by rw [<- hb]; exact hd)))
   . rw [<- h3 j k n hkn]
     exact cell_block (st.kept _ h1 fun hE => h2 (.inr (.inr hE)))
theorem glob_more {X Y : Nat -> Prop} {w : World} (h : GlobOk X w) (hY : ∀ p ∈ GL, Y p.1 -> X p.1) : GlobOk Y w := fun p hp => ⟨(h p hp).1, fun hy => (h p hp).2.1 (hY p hp hy), (h p hp).2.2⟩
theorem st_start {w : World} {X : Nat -> Prop} (hX : Xw X w) : St ⟨w, fun _ => False, fun _ => False, X, fun _ => none⟩ (fun _ => none) [] w :=
 ⟨rfl, rfl, rfl, Nat.le_refl _, fun _ _ _ => rfl, ⟨hX.1, glob_more hX.2 fun p _ h => h.elim id fun h => h.elim False.elim False.elim⟩, (fun _ _ h => by cases h), (fun _ _ _ h => by cases h), (fun _ _ _ _ _ _ h => by cases h), (fun _ _ h => by cases h), fun _ _ h => by cases h⟩
theorem wr_nil {r : Ren} : wr r [] = fun _ => False := by
 funext b
 simp [wr, hget, look]
theorem ren_nil {H : Hp} {r : Ren} : Wc.ren ⟨H, [], [], 0, true⟩ r = fun _ => none := by
 funext k
 have : Nat.blt k 0 = false := by
  cases hb : Nat.blt k 0 with
  | false => rfl
  | true => exact absurd (Nat.le_of_ble_eq_true hb) (by omega)
 simp [Wc.ren, Wc.src, lookR, this]
section
variable {P : Program} {T : Tys} {Q : Qs} {wd : Nat}
theorem pure_intro (hwd : 0 < wd) (hT : TysOk P T) (hQ : QsOk P Q) (hm : P.follows .mixedOrders = true) {f : FuncId} {fn : Func} {c : Code} (hf : P.funcs[f]? = some fn) (hb : fn.body = some c) (args : List FV) (hn : args.length <= fn.ntmps) (spec : FV)
 (h : exec T Q wd fn.ntmps 0 c (argFr args 0) [] 0 (endH T fn.results.toList fun x H _ => Done H x spec)) : PureOk P f args spec := by
 intro X w vals hrel hX
 have hrel' : RelL (fun _ => none) X (wr (fun _ => none) []) w args vals := by rw [wr_nil]; exact hrel
 refine (fn_run hwd hT hQ hm hf hb hn h (fun _ _ h => by cases h) (st_start hX) hrel' (fun _ _ => ⟨rfl, rfl⟩)).mono fun e w' he => ?_
 obtain ⟨v, r', x, Hf, nf, rfl, hfin, st, _, hx, _⟩ := he
 refine ⟨v, rfl, ⟨st.os, st.tape, st.output, st.size, fun b hb => st.kept b hb id⟩, ?_⟩
 have h1 := hfin.le (fun k e' h => by cases h) _ r' w' v st hx
 rw [ren_nil] at h1
 refine FV.rel_w (fun b hb => ?_) _ _ h1
 exact .inr ⟨rfl, hb⟩
end
theorem callR_pure {P : Program} {f : FuncId} (hb : hasBody P f) {args args' : List FV} {H : Hp} {rd : List Nat} {nm wd : Nat} {spec : FV} (hbo : ∀ H', (∀ k ∈ rd, hget H k = hget H' k) -> BoL H' rd args args') (h : PureOk P f args' spec) : CallR P f args H nm wd ⟨none, spec, [], rd⟩ := by
 refine ⟨hb, fun H' hh cx r w vals st hfr _ hrel => ?_⟩
 obtain ⟨h1, h2⟩ := hbo H' hh
 refine (h (fun b => cx.X b \/ wr r H' b) w vals ⟨hrel.1.trans h1, fun i y u hy hu => ?_⟩ ?_).mono fun e w' he => ?_
 . have hi : i < args.length := by rw [h1]; exact (List.getElem?_eq_some_iff.1 hy).1
   exact FV.rel_w (fun _ h => h.elim) _ _ (h2 i _ y (List.getElem?_eq_getElem hi) hy cx r w u st (hrel.2 i _ u (List.getElem?_eq_getElem hi) hu))
 . exact st_xw st
 . obtain ⟨v, rfl, hbel, hv⟩ := he
   obtain ⟨g1, g2⟩ := st.below hbel
   exact ⟨v, rfl, r, g1, g2, fun _ _ => rfl, fun k e he => .inr ⟨e, he⟩, FV.rel_into (fun b hb => .inl hb) (fun b hb => .inr hb) _ _ hv⟩
def pureE {α R : Type} (A : AC α) (p : α -> Prop) (F : α -> R) (enc : R -> FV) : Entry := fun args H _ _ =>
 match A.dec H args with
 | some (a, q, rd) => some fun K => pAnd q (p a /\ ∀ s, s = F a -> K (enc s) [] rd)
 | none => none
theorem pureE_ok {α R : Type} {A : AC α} {p : α -> Prop} {F : α -> R} {enc : R -> FV} {P : Program} {f : FuncId} (hb : hasBody P f) (h : ∀ a, p a -> PureOk P f (A.enc a) (enc (F a))) : EntOk P f (pureE A p F enc) := by
 refine ⟨fun args H nm wd q _ hq K hK => ?_, fun args H nm wd q hq K K' hKK hK => ?_⟩
 . unfold pureE at hq
   split at hq
   . rename_i a pr rd hd
     injection hq with hq
     subst hq
     obtain ⟨h1, h2, h3⟩ := pAnd_iff.1 hK
     exact ⟨_, _, _, callR_pure hb (fun H' hh => A.sound H H' args a pr rd hd h1 hh) (h a h2), h3 _ rfl⟩
   . cases hq
 . unfold pureE at hq
   split at hq
   . injection hq with hq
     subst hq
     obtain ⟨h1, h2, h3⟩ := pAnd_iff.1 hK
     exact pAnd_iff.2 ⟨h1, h2, fun s hs => hKK _ _ _ (h3 s hs)⟩
   . cases hq
def resN (kd : Option Nat) (rest : Option (List EV)) (nm : Nat) : FV :=
 match kd, rest with
 | some n, none => one (.os nm 0 n)
 | some n, some l => .tup (.c (.os nm 0 n) :: l)
 | none, none => one (.ptr nm 0 0 false)
 | none, some l => .tup (.c (.ptr nm 0 0 false) :: l)
def NF (x : CV) : Prop := ∀ r r' X W w v, x.rel r X W w v -> x.rel r' X W w v
def NFE (x : EV) : Prop := ∀ r r' X W w v, x.rel r X W w v -> x.rel r' X W w v
theorem nf_int {k : IntKind} {a : Int} : NF (.int k a) := fun _ _ _ _ _ _ h => h
theorem nf_bool {a : Bool} : NF (.bool a) := fun _ _ _ _ _ _ h => h
theorem nf_sl {sh : Bool} {n sz : Nat} {f : Nat -> Nat -> CV} (h : ∀ i, i < n -> ∀ j, j < sz -> NF (f i j)) : NF (.sl sh n sz f) := by
 rintro r r' X W w v ⟨a, cap, rfl, h1, h2⟩
 refine ⟨a, cap, rfl, h1, fun h0 => ?_⟩
 obtain ⟨ad, rfl, hs, ho, hX, hlt, hc⟩ := h2 h0
 refine ⟨ad, rfl, hs, ho, hX, hlt, fun i hi j hj => ?_⟩
 obtain ⟨u, hu, hr⟩ := hc i hi j hj
 exact ⟨u, hu, h i hi j hj _ _ _ _ _ _ hr⟩
theorem nfE_c {x : CV} (h : NF x) : NFE (.c x) := h
def at0 (o : Option Bi) : Ren := fun k => if k = 0 then o else none
def orB (X : Nat -> Prop) (o : Option Bi) (b : Nat) : Prop := X b \/ ∃ x, o = some x /\ x.b = b
def NewOk (P : Program) (f : FuncId) (args : List FV) (kd : Option Nat) (rest : Option (List EV)) (e' : Ent) : Prop :=
 ∀ X w (vals : Array Value), RelL (fun _ => none) X (fun _ => False) w args vals -> Xw X w -> Calls P f vals w fun e w' => ∃ v o, e = .returned v /\ Below w.heap.size w w' /\ (∀ x, o = some x -> w.heap.size <= x.b /\ x.b < w'.heap.size) /\
   EntIn (fun _ => none) X (orB X o) w' e' o w'.heap /\ (resN kd rest 0).rel (at0 o) X (orB X o) w' v
structure FinN (kd : Option Nat) (rest : Option (List EV)) (e' : Ent) (x : FV) (H : Hp) : Prop where
 ex : ∃ rho, LeF ⟨H, [(0, some e')], [(0, rho)], 1, true⟩ x (resN kd rest 0) /\ WkE ⟨H, [(0, some e')], [(0, rho)], 1, true⟩ e' rho
section
variable {P : Program} {T : Tys} {Q : Qs} {wd : Nat}
theorem new_intro (hwd : 0 < wd) (hT : TysOk P T) (hQ : QsOk P Q) (hm : P.follows .mixedOrders = true) {f : FuncId} {fn : Func} {c : Code} (hf : P.funcs[f]? = some fn) (hb : fn.body = some c) (args : List FV) (hn : args.length <= fn.ntmps) {kd : Option Nat} {rest : Option (List EV)} {e' : Ent}
 (hnf : ∀ i, i < e'.n -> ∀ j, j < e'.sz -> NF (e'.f i j)) (h : exec T Q wd fn.ntmps 0 c (argFr args 0) [] 0 (endH T fn.results.toList fun x H _ => FinN kd rest e' x H)) : NewOk P f args kd rest e' := by
 intro X w vals hrel hX
 have hrel' : RelL (fun _ => none) X (wr (fun _ => none) []) w args vals := by rw [wr_nil]; exact hrel
 refine (fn_run hwd hT hQ hm hf hb hn h (fun _ _ h => by cases h) (st_start hX) hrel' (fun _ _ => ⟨rfl, rfl⟩)).mono fun e w' he => ?_
 obtain ⟨v, r', x, Hf, nf, rfl, ⟨rho, hfin, hent⟩, st, _, hx, _⟩ := he
 have hsrc : ∀ k, Wc.src ⟨Hf, [(0, some e')], [(0, rho)], 1, true⟩ k = if k = 0 then rho else none := fun k => by
  unfold Wc.src
  simp only [lookR]
  by_cases hk : k = 0
  . subst hk; simp
  . have h1 : Nat.beq k 0 = false := by
     cases hb : Nat.beq k 0 with
     | false => rfl
     | true => exact absurd (Nat.eq_of_beq_eq_true hb) hk
    have h2 : Nat.blt k 1 = false := by
     cases hb : Nat.blt k 1 with
     | false => rfl
     | true => have := Nat.le_of_ble_eq_true hb; omega
    simp [h1, h2, hk]
 have hren : Wc.ren ⟨Hf, [(0, some e')], [(0, rho)], 1, true⟩ r' = at0 (rho.bind r') := by
  funext k
  unfold Wc.ren at0
  rw [hsrc]
  by_cases hk : k = 0
  . rw [if_pos hk, if_pos hk]; cases rho <;> rfl
  . rw [if_neg hk, if_neg hk]
 have hlive : Wc.Live ⟨Hf, [(0, some e')], [(0, rho)], 1, true⟩ := fun k e1 he1 k0 hk0 => by
  rw [hsrc] at hk0
  split at hk0
  . subst hk0
    unfold WkE at hent
    simp only at hent
    split at hent
    . rename_i e2 hh; exact ⟨e2, hh⟩
    . exact hent.elim
  . cases hk0
 have hwr : ∀ b, orB X (rho.bind r') b -> Wc.wr ⟨Hf, [(0, some e')], [(0, rho)], 1, true⟩ ⟨w, fun _ => False, fun _ => False, X, fun _ => none⟩ r' b := fun b hb => by
  rcases hb with hb | ⟨y, hy, hyb⟩
  . exact .inr ⟨rfl, hb⟩
  . refine .inl ⟨0, e', y, look_cons_eq _ _ _ _, ?_, hyb⟩
    rw [hren]; show (if 0 = 0 then _ else _) = _; rw [if_pos rfl]; exact hy
 refine ⟨v, rho.bind r', rfl, ⟨st.os, st.tape, st.output, st.size, fun b hb => st.kept b hb id⟩, fun y hy => ?_, ?_, ?_⟩
 . cases rho with
   | none => cases hy
   | some j =>
     have hy' : r' j = some y := hy
     obtain ⟨d1, d2, _⟩ := st.dom j y hy'
     exact ⟨d2.resolve_right id, d1⟩
 . cases rho with
   | none =>
     obtain ⟨g1, g2, g3⟩ := hent
     exact ⟨g3, (fun h => by rw [g2] at h; cases h), .inl ⟨rfl, g1⟩⟩
   | some j =>
     unfold WkE at hent
     simp only at hent
     split at hent
     . rename_i e2 hh
       exact (st.blk j e2 hh).map hent.t hent.n hent.sz hent.v rfl (fun _ _ => rfl) fun i hi j' hj u hu => by
        have h1 := hent.f i hi j' hj hlive _ r' w' u st hu
        exact CV.rel_w hwr _ _ (hnf i (by rw [<- hent.n]; exact hi) j' (by rw [<- hent.sz]; exact hj) _ _ _ _ _ _ h1)
     . exact hent.elim
 . have h1 := hfin hlive _ r' w' v st hx
   rw [hren] at h1
   exact FV.rel_w hwr _ _ h1
end
theorem resN_into {kd : Option Nat} {rest : Option (List EV)} {o : Option Bi} {nm : Nat} {r : Ren} {X' X W : Nat -> Prop} {w : World} {v : Value} (hr : r nm = o) (hrest : ∀ l, rest = some l -> ∀ x ∈ l, NFE x) (hX : ∀ b, X b -> orB X' o b) (hW : ∀ b, W b -> orB X' o b) (h : (resN kd rest 0).rel (at0 o) X' (orB X' o) w v) : (resN kd rest nm).rel r X W w v := by
 have hos : ∀ n u, (CV.os 0 0 n).rel (at0 o) X' (orB X' o) w u -> (CV.os nm 0 n).rel r X W w u := by
  rintro n u ⟨a, cap, rfl, h1, h2⟩
  refine ⟨a, cap, rfl, h1, fun h0 => ?_⟩
  obtain ⟨x, hx, h3⟩ := h2 h0
  exact ⟨x, ⟨by rw [hr]; exact hx.1, hx.2⟩, h3⟩
 have hpt : ∀ u, (CV.ptr 0 0 0 false).rel (at0 o) X' (orB X' o) w u -> (CV.ptr nm 0 0 false).rel r X W w u := by
  rintro u ⟨x, hx, rfl⟩
  exact ⟨x, ⟨by rw [hr]; exact hx.1, hx.2⟩, rfl⟩
 have htup : ∀ (a b : CV) l, rest = some l -> (∀ u, a.rel (at0 o) X' (orB X' o) w u -> b.rel r X W w u) -> (FV.tup (.c a :: l)).rel (at0 o) X' (orB X' o) w v -> (FV.tup (.c b :: l)).rel r X W w v := by
  rintro a b l hl hab ⟨vs, rfl, h1, h2⟩
  refine ⟨vs, rfl, by simpa using h1, fun i x u hx hu => ?_⟩
  cases i with
  | zero =>
    simp only [List.getElem?_cons_zero, Option.some.injEq] at hx
    subst hx
    exact hab u (h2 0 _ u rfl hu)
  | succ i =>
    have hx' : l[i]? = some x := by simpa using hx
    have := hrest l hl x (List.mem_of_getElem? hx') _ (fun _ => none) _ _ _ _ (h2 (i + 1) x u (by simpa using hx) hu)
    exact EV.rel_into hX hW _ _ this
 cases kd with
 | some n =>
   cases rest with
   | none => exact hos n v h
   | some l => exact htup _ _ l rfl (hos n) h
 | none =>
   cases rest with
   | none => exact hpt v h
   | some l => exact htup _ _ l rfl hpt h
theorem callR_new {P : Program} {f : FuncId} (hb : hasBody P f) {args args' : List FV} {H : Hp} {rd : List Nat} {nm wd : Nat} (hwd : 0 < wd) {kd : Option Nat} {rest : Option (List EV)} {e' : Ent} (hrest : ∀ l, rest = some l -> ∀ x ∈ l, NFE x)
 (hbo : ∀ H', (∀ k ∈ rd, hget H k = hget H' k) -> BoL H' rd args args') (h : NewOk P f args' kd rest e') : CallR P f args H nm wd ⟨none, resN kd rest nm, [(nm, some e')], rd⟩ := by
 refine ⟨hb, fun H' hh cx r w vals st hfr _ hrel => ?_⟩
 obtain ⟨h1, h2⟩ := hbo H' hh
 refine (h (fun b => cx.X b \/ wr r H' b) w vals ⟨hrel.1.trans h1, fun i y u hy hu => ?_⟩ (st_xw st)).mono fun e w' he => ?_
 . have hi : i < args.length := by rw [h1]; exact (List.getElem?_eq_some_iff.1 hy).1
   exact FV.rel_w (fun _ h => h.elim) _ _ (h2 i _ y (List.getElem?_eq_getElem hi) hy cx r w u st (hrel.2 i _ u (List.getElem?_eq_getElem hi) hu))
 . obtain ⟨v, o, rfl, hbel, ho, hent, hv⟩ := he
   obtain ⟨hr0, hh0⟩ := hfr nm (Nat.le_refl _) (by omega)
   have hr2 : ∀ k x, r k = some x -> (if k = nm then o else r k) = some x := fun k x hx => by
    by_cases hk : k = nm
    . subst hk; rw [hr0] at hx; cases hx
    . rw [if_neg hk]; exact hx
   have hl0 : hget ((nm, some e') :: H') nm = some e' := look_cons_eq _ _ _ _
   have hl : ∀ k, k ≠ nm -> hget ((nm, some e') :: H') k = hget H' k := fun k hk => look_cons_ne _ _ _ hk
   have hwr2 : ∀ b, wr (fun k => if k = nm then o else r k) ((nm, some e') :: H') b -> orB (fun b => cx.X b \/ wr r H' b) o b := by
    rintro b ⟨k, e, x, he, hx, hxb⟩
    by_cases hk : k = nm
    . subst hk
      have hx' : (if k = k then o else r k) = some x := hx
      rw [if_pos rfl] at hx'
      exact .inr ⟨x, hx', hxb⟩
    . have hx' : (if k = nm then o else r k) = some x := hx
      rw [if_neg hk] at hx'
      rw [hl k hk] at he
      exact .inl (.inr ⟨k, e, x, he, hx', hxb⟩)
   obtain ⟨g1, g2⟩ := st.below hbel
   have hdomo : ∀ x, o = some x -> x.b < w'.heap.size /\ cx.w0.heap.size <= x.b /\ ¬ cx.X x.b := fun x hx => by
    obtain ⟨a1, a2⟩ := ho x hx
    refine ⟨a2, Nat.le_trans st.size a1, fun hX => ?_⟩
    have := Nat.lt_of_lt_of_le (st.xlt.lt _ hX) st.size
    omega
   have hE : Ext r (wr r H') w (fun k => if k = nm then o else r k) (wr (fun k => if k = nm then o else r k) ((nm, some e') :: H')) w' := by
    refine ⟨hr2, hbel.size, fun b hb _ => hbel.block b hb, fun b hb hw => ?_⟩
    rcases hwr2 b hw with (hX | hw) | ⟨x, hx, hxb⟩
    . obtain ⟨k, e, x, he, hx, hxb⟩ := hw
      by_cases hk : k = nm
      . subst hk
        have hx' : (if k = k then o else r k) = some x := hx
        rw [if_pos rfl] at hx'
        obtain ⟨a1, a2⟩ := ho x hx'
        omega
      . have hx' : (if k = nm then o else r k) = some x := hx
        rw [if_neg hk] at hx'
        rw [hl k hk] at he
        exact ⟨k, e, x, he, hx', hxb⟩
    . exact hw
    . obtain ⟨a1, a2⟩ := ho x hx; omega
   refine ⟨v, rfl, fun k => if k = nm then o else r k, hE, ⟨g2.os, g2.tape, g2.output, g2.size, g2.kept, g2.xlt, fun k x hx => ?_, fun k e x he hx => ?_, fun n m e1 e2 x y hn hm hx hy hxy => ?_, fun k b hk => hr2 k b (g2.pin k b hk), fun k e he => ?_⟩, fun k hk => if_neg (by omega), fun k e he => ?_, ?_⟩
   . by_cases hk : k = nm
     . simp only [if_pos hk] at hx
       obtain ⟨a1, a2, a3⟩ := hdomo x hx
       exact ⟨a1, .inl a2, a3⟩
     . simp only [if_neg hk] at hx
       exact g2.dom k x hx
   . by_cases hk : k = nm
     . simp only [if_pos hk] at hx
       exact .inl (hdomo x hx).2.1
     . simp only [if_neg hk] at hx
       have he' : hget ((nm, some e') :: H') k = some e := he
       rw [hl k hk] at he'
       exact g2.ow k e x he' hx
   . have lt : ∀ k x, k ≠ nm -> (if k = nm then o else r k) = some x -> x.b < w.heap.size := fun k x hk hx => by rw [if_neg hk] at hx; exact (st.dom k x hx).1
     have ge : ∀ x, (if nm = nm then o else r nm) = some x -> w.heap.size <= x.b := fun x hx => by rw [if_pos rfl] at hx; exact (ho x hx).1
     by_cases h : n = nm
     . by_cases h' : m = nm
       . omega
       . have := lt m y h' hy; subst h; have := ge x hx; omega
     . by_cases h' : m = nm
       . have := lt n x h hx; subst h'; have := ge y hy; omega
       . have hn' : hget ((nm, some e') :: H') n = some e1 := hn
         have hm' : hget ((nm, some e') :: H') m = some e2 := hm
         rw [hl n h] at hn'; rw [hl m h'] at hm'
         simp only [if_neg h] at hx; simp only [if_neg h'] at hy
         exact st.inj n m e1 e2 x y hn' hm' hx hy hxy
   . have he' : hget ((nm, some e') :: H') k = some e := he
     by_cases hk : k = nm
     . subst hk
       rw [hl0] at he'; injection he' with he'; subst he'
       simp only [if_true]
       exact hent.map rfl rfl rfl rfl rfl (fun _ _ => rfl) fun i _ j _ u hu => CV.rel_into (fun b hb => .inl (.inl hb)) hwr2 _ _ hu
     . rw [hl k hk] at he'
       simp only [if_neg hk]
       have hold := st.old he' rfl (w' := w') fun x hx => hbel.block _ (st.dom k x hx).1
       exact hold.ext hE
   . have he' : hget ((nm, some e') :: H') k = some e := he
     by_cases hk : k = nm
     . exact .inl ⟨.inl (by omega), by omega⟩
     . rw [hl k hk] at he'; exact .inr ⟨e, he'⟩
   . exact resN_into (if_pos rfl) hrest (fun b hb => .inl (.inl hb)) hwr2 hv
def newE {α R : Type} (A : AC α) (p : α -> Prop) (F : α -> R) (kd : R -> Option Nat) (rest : R -> Option (List EV)) (ent : R -> Ent) : Entry := fun args H nm _ =>
 match A.dec H args with
 | some (a, q, rd) => some fun K => pAnd q (p a /\ ∀ s, s = F a -> K (resN (kd s) (rest s) nm) [(nm, some (ent s))] rd)
 | none => none
theorem newE_ok {α R : Type} {A : AC α} {p : α -> Prop} {F : α -> R} {kd : R -> Option Nat} {rest : R -> Option (List EV)} {ent : R -> Ent} {P : Program} {f : FuncId} (hb : hasBody P f) (hrest : ∀ s l, rest s = some l -> ∀ x ∈ l, NFE x) (h : ∀ a, p a -> NewOk P f (A.enc a) (kd (F a)) (rest (F a)) (ent (F a))) : EntOk P f (newE A p F kd rest ent) := by
 refine ⟨fun args H nm wd q hwd hq K hK => ?_, fun args H nm wd q hq K K' hKK hK => ?_⟩
 . unfold newE at hq
   split at hq
   . rename_i a pr rd hd
     injection hq with hq
     subst hq
     obtain ⟨h1, h2, h3⟩ := pAnd_iff.1 hK
     exact ⟨_, _, _, callR_new hb hwd (hrest _) (fun H' hh => A.sound H H' args a pr rd hd h1 hh) (h a h2), h3 _ rfl⟩
   . cases hq
 . unfold newE at hq
   split at hq
   . injection hq with hq
     subst hq
     obtain ⟨h1, h2, h3⟩ := pAnd_iff.1 hK
     exact pAnd_iff.2 ⟨h1, h2, fun s hs => hKK _ _ _ (h3 s hs)⟩
   . cases hq
theorem CV.rel_sub {X W X' W' : Nat -> Prop} {r : Ren} {w : World} (hX : ∀ b, X' b -> X b \/ W b) (hW : ∀ b, W' b -> W b) : ∀ (x : CV) (v : Value), x.rel r X W w v -> x.rel r X' W' w v := by
 intro x
 induction x with
 | top => intro v h; exact h
 | int => intro v h; exact h
 | bool => intro v h; exact h
 | ptr nm i j s => intro v h; exact h
 | nilp => intro v h; exact h
 | nils => intro v h; exact h
 | mp nm => intro v h; exact h
 | sl sh n sz f ih =>
   rintro v ⟨a, cap, rfl, h1, h2⟩
   refine ⟨a, cap, rfl, h1, fun h0 => ?_⟩
   obtain ⟨ad, rfl, hs, ho, hx, hlt, hc⟩ := h2 h0
   refine ⟨ad, rfl, hs, fun h => ho (hW _ h), fun e h => (hX _ h).elim (hx e) ho, hlt, fun i hi j hj => ?_⟩
   obtain ⟨u, hu, hr⟩ := hc i hi j hj
   exact ⟨u, hu, ih i j u hr⟩
 | rp sh m g ih =>
   rintro v ⟨ad, rfl, hs, ho, hx, hlt, hc⟩
   refine ⟨ad, rfl, hs, fun h => ho (hW _ h), fun e h => (hX _ h).elim (hx e) ho, hlt, fun j hj => ?_⟩
   obtain ⟨u, hu, hr⟩ := hc j hj
   exact ⟨u, hu, ih j u hr⟩
 | os nm i n => intro v h; exact h
 | oa nm i j n es => intro v h; exact h
 | fn f n m a ih =>
   rintro v ⟨fs, cs, rfl, h1, h2, h3, h4⟩
   exact ⟨fs, cs, rfl, h1, h2, fun k u hu => ih k u (h3 k u hu), fun k u hu => ih _ u (h4 k u hu)⟩
def MethOk (P : Program) (f : FuncId) (rest : List FV) (e : Ent) (val : FV) (e' : Ent) : Prop :=
 ∀ X w (x : Bi) (vals : Array Value), x.b < w.heap.size -> ¬ X x.b -> Xw (fun b => X b \/ b = x.b) w -> EntIn (fun _ => none) X (fun b => b = x.b) w e (some x) w.heap -> RelL (at0 (some x)) X (fun b => b = x.b) w (.e (.c (.ptr 0 0 0 false)) :: rest) vals ->
   Calls P f vals w fun en w' => ∃ v, en = .returned v /\ w'.os = w.os /\ w'.tape = w.tape /\ w'.output = w.output /\ w.heap.size <= w'.heap.size /\ (∀ b, b < w.heap.size -> b ≠ x.b -> w'.heap[b]? = w.heap[b]?) /\
    EntIn (fun _ => none) X (orB X (some x)) w' e' (some x) w'.heap /\ val.rel (fun _ => none) X (orB X (some x)) w' v
structure FinM (val : FV) (e' : Ent) (x : FV) (H : Hp) : Prop where
 le : LeF ⟨H, [(0, some e')], [], 1, true⟩ x val
 ent : WkE ⟨H, [(0, some e')], [], 1, true⟩ e' (some 0)
def NFF (x : FV) : Prop := ∀ r r' X W w v, x.rel r X W w v -> x.rel r' X W w v
section
variable {P : Program} {T : Tys} {Q : Qs} {wd : Nat}
theorem meth_intro (hwd : 0 < wd) (hT : TysOk P T) (hQ : QsOk P Q) (hm : P.follows .mixedOrders = true) {f : FuncId} {fn : Func} {c : Code} (hf : P.funcs[f]? = some fn) (hb : fn.body = some c) (rest : List FV) (hn : rest.length + 1 <= fn.ntmps) {e e' : Ent} {val : FV}
 (hval : NFF val) (hnf : ∀ i, i < e'.n -> ∀ j, j < e'.sz -> NF (e'.f i j)) (h : exec T Q wd fn.ntmps 1 c (argFr (.e (.c (.ptr 0 0 0 false)) :: rest) 0) [(0, some e)] 1 (endH T fn.results.toList fun x H _ => FinM val e' x H)) : MethOk P f rest e val e' := by
 intro X w x vals hxb hxX hX hent hrel
 have hwr : wr (at0 (some x)) [(0, some e)] = fun b => b = x.b := by
  funext b
  apply propext
  constructor
  . rintro ⟨k, e1, y, _, hy, rfl⟩
    unfold at0 at hy
    split at hy
    . injection hy with hy; rw [hy]
    . cases hy
  . rintro rfl
    exact ⟨0, e, x, look_cons_eq _ _ _ _, if_pos rfl, rfl⟩
 have hk0 : ∀ k e1, hget [(0, some e)] k = some e1 -> k = 0 /\ e1 = e := fun k e1 h => by
  by_cases hk : k = 0
  . subst hk
    have : hget [(0, some e)] 0 = some e := look_cons_eq _ _ _ _
    rw [this] at h; injection h with h; exact ⟨rfl, h.symm⟩
  . have : hget [(0, some e)] k = none := look_cons_ne _ _ _ hk
    rw [this] at h; cases h
 have st0 : St ⟨w, fun b => b = x.b, fun b => b = x.b, X, at0 (some x)⟩ (at0 (some x)) [(0, some e)] w := by
  refine ⟨rfl, rfl, rfl, Nat.le_refl _, fun _ _ _ => rfl, ⟨fun b hb => hX.1 b (.inl hb), glob_more hX.2 fun p _ h => h.elim .inl fun h => h.elim .inr .inr⟩, fun k y hy => ?_, fun k e1 y _ hy => ?_, fun n m e1 e2 y z h1 h2 _ _ _ => ?_, fun k b hk => hk, fun k e1 he1 => ?_⟩
  . unfold at0 at hy
    split at hy
    . injection hy with hy; subst hy; exact ⟨hxb, .inr rfl, hxX⟩
    . cases hy
  . unfold at0 at hy
    split at hy
    . injection hy with hy; subst hy; exact .inr rfl
    . cases hy
  . rw [(hk0 n e1 h1).1, (hk0 m e2 h2).1]
  . obtain ⟨rfl, rfl⟩ := hk0 k e1 he1
    rw [hwr]
    exact hent.map rfl rfl rfl rfl (if_pos rfl).symm (fun _ _ => rfl) fun i _ j _ u hu => CV.rel_ext ⟨fun _ _ h => (by cases h), Nat.le_refl _, fun _ _ _ => rfl, fun _ _ h => h⟩ _ _ hu
 refine (fn_run (np := 1) hwd hT hQ hm hf hb (by simpa using hn) h (fun k b hk => by
  have hk' : (if k = 0 then some x else none) = some b := hk
  split at hk'
  . omega
  . cases hk') st0 (by rw [hwr]; exact hrel) (fun k hk => ⟨if_neg (by omega), look_cons_ne _ _ _ (by omega)⟩)).mono fun en w' he => ?_
 obtain ⟨v, r', y, Hf, nf, rfl, ⟨hfin, hent'⟩, st, _, hy, _⟩ := he
 have hr0 : r' 0 = some x := st.pin 0 x (show (if 0 = 0 then some x else none) = some x from if_pos rfl)
 have hren : ∀ k, Wc.ren ⟨Hf, [(0, some e')], [], 1, true⟩ r' k = at0 (some x) k := fun k => by
  unfold Wc.ren Wc.src at0
  simp only [lookR]
  by_cases hk : k = 0
  . subst hk
    have h2 : Nat.blt 0 1 = true := rfl
    simp [h2, hr0]
  . have h2 : Nat.blt k 1 = false := by
     cases hb : Nat.blt k 1 with
     | false => rfl
     | true => have := Nat.le_of_ble_eq_true hb; omega
    simp [h2, hk]
 have hren : Wc.ren ⟨Hf, [(0, some e')], [], 1, true⟩ r' = at0 (some x) := funext hren
 unfold WkE at hent'
 simp only at hent'
 split at hent'
 . rename_i e2 hh
   have hlive : Wc.Live ⟨Hf, [(0, some e')], [], 1, true⟩ := fun k e1 he1 k0 hk0' => by
    have hk : k = 0 := by
     by_cases hk : k = 0
     . exact hk
     . have : hget [(0, some e')] k = none := look_cons_ne _ _ _ hk
       have he1' : hget [(0, some e')] k = some e1 := he1
       rw [this] at he1'; cases he1'
    subst hk
    have : Wc.src ⟨Hf, [(0, some e')], [], 1, true⟩ 0 = some 0 := rfl
    rw [this] at hk0'; injection hk0' with hk0'; subst hk0'
    exact ⟨e2, hh⟩
   have hwr2 : ∀ b, orB X (some x) b -> Wc.wr ⟨Hf, [(0, some e')], [], 1, true⟩ ⟨w, fun b => b = x.b, fun b => b = x.b, X, at0 (some x)⟩ r' b := fun b hb => by
    rcases hb with hb | ⟨z, hz, hzb⟩
    . exact .inr ⟨rfl, hb⟩
    . injection hz with hz; subst hz
      exact .inl ⟨0, e', x, look_cons_eq _ _ _ _, by rw [hren]; exact if_pos rfl, hzb⟩
   refine ⟨v, rfl, st.os, st.tape, st.output, st.size, fun b hb hne => st.kept b hb hne, ?_, ?_⟩
   . exact (st.blk 0 e2 hh).map hent'.t hent'.n hent'.sz hent'.v hr0 (fun _ _ => rfl) fun i hi j' hj u hu => by
      have h1 := hent'.f i hi j' hj hlive _ r' w' u st hu
      exact CV.rel_w hwr2 _ _ (hnf i (by rw [<- hent'.n]; exact hi) j' (by rw [<- hent'.sz]; exact hj) _ _ _ _ _ _ h1)
   . have h1 := hfin hlive _ r' w' v st hy
     exact FV.rel_w hwr2 _ _ (hval _ _ _ _ _ _ h1)
 . exact hent'.elim
end
theorem xw_more {X Y : Nat -> Prop} {w : World} (h : Xw X w) (hY : ∀ b, Y b -> X b) : Xw Y w := ⟨fun b hb => h.1 b (hY b hb), glob_more h.2 fun p _ hp => hY _ hp⟩
theorem callR_meth {P : Program} {f : FuncId} (hb : hasBody P f) {k : Nat} {s : Bool} {rest rest' : List FV} {H : Hp} {rd : List Nat} {nm wd : Nat} {e e' : Ent} {val : FV} (hk : hget H k = some e) (hv : e.v = true) (hkr : k ∉ rd) (hnf : ∀ i, i < e.n -> ∀ j, j < e.sz -> NF (e.f i j))
 (hbo : ∀ H', (∀ k ∈ rd, hget H k = hget H' k) -> BoL H' rd rest rest') (h : MethOk P f rest' e val e') (he' : e'.v = true) : CallR P f (.e (.c (.ptr k 0 0 s)) :: rest) H nm wd ⟨none, val, [(k, some e')], k :: rd⟩ := by
 refine ⟨hb, fun H' hh cx r w vals st hfr _ hrel => ?_⟩
 obtain ⟨h1, h2⟩ := hbo H' (fun k hk => hh k (List.mem_cons_of_mem _ hk))
 have hk' : hget H' k = some e := by rw [<- hh k (List.mem_cons_self ..)]; exact hk
 obtain ⟨g1, g2, g3⟩ := st.blk k e hk'
 rcases g3 with ⟨_, g4⟩ | ⟨x, cs, c1, c2, c3, c4, c5, c6⟩ | ⟨hfit, _⟩
 . have := g2 hv; omega
 . obtain ⟨d1, d2, d3⟩ := st.dom k x c1
   have hXx : ¬ (cx.X x.b \/ wrBut r H' [k] x.b) := by
    rintro (hX | ⟨k2, e2, y, he2, hy, hyb, hne⟩)
    . exact d3 hX
    . have := st.inj k2 k e2 e y x he2 hk' hy c1 hyb
      exact hne (by rw [this]; exact List.mem_singleton.2 rfl)
   have hsubX : ∀ b, (cx.X b \/ wrBut r H' [k] b) -> cx.X b \/ wr r H' b := by
    rintro b (hX | ⟨k2, e2, y, he2, hy, hyb, _⟩)
    . exact .inl hX
    . exact .inr ⟨k2, e2, y, he2, hy, hyb⟩
   have hsubW : ∀ b, b = x.b -> wr r H' b := fun b hb => ⟨k, e, x, hk', c1, hb.symm⟩
   have hXlt : Xw (fun b => (cx.X b \/ wrBut r H' [k] b) \/ b = x.b) w := xw_more (st_xw st) fun b hb => hb.elim (hsubX b) fun h => .inr (hsubW b h)
   refine (h (fun b => cx.X b \/ wrBut r H' [k] b) w x vals d1 hXx hXlt ?_ ⟨by rw [hrel.1]; simp [h1], fun i y u hy hu => ?_⟩).mono fun en w' he => ?_
   . refine ⟨g1, g2, .inr (.inl ⟨x, cs, rfl, c2, c3, c4, c5, fun i hi j hj u hu => ?_⟩)⟩
     exact CV.rel_sub hsubX hsubW _ _ (hnf i hi j hj _ _ _ _ _ _ (c6 i hi j hj u hu))
   . cases i with
     | zero =>
       simp only [List.getElem?_cons_zero, Option.some.injEq] at hy
       subst hy
       obtain ⟨z, hz, hzv⟩ := hrel.2 0 _ u rfl hu
       have hz1 := hz.1
       rw [c1] at hz1; injection hz1 with hz1; subst hz1
       exact ⟨x, ⟨if_pos rfl, hz.2⟩, hzv⟩
     | succ i =>
       have hy' : rest'[i]? = some y := by simpa using hy
       have hi : i < rest.length := by rw [h1]; exact (List.getElem?_eq_some_iff.1 hy').1
       have h3 := h2 i _ y (List.getElem?_eq_getElem hi) hy' cx r w u st (hrel.2 (i + 1) _ u (by simp [List.getElem?_eq_getElem hi]) hu)
       have h4 : y.rel (at0 (some x)) (fun b => cx.X b \/ wr r H' b) (wrBut r H' rd) w u := FV.rel_ext ⟨fun _ _ h => (by cases h), Nat.le_refl _, fun _ _ _ => rfl, fun _ _ h => h⟩ _ _ h3
       have h5 : y.rel (at0 (some x)) (fun b => cx.X b \/ wr r H' b) (fun b => b = x.b) w u := FV.rel_w (fun b hb => ⟨k, e, x, hk', c1, hb.symm, hkr⟩) _ _ h4
       cases y with
       | top => trivial
       | e y =>
         cases y with
         | c y => exact CV.rel_sub (fun b hb => .inl (hsubX b hb)) (fun b hb => hb) _ _ h5
         | agg n g => obtain ⟨cs', e1, e2, e3⟩ := h5; exact ⟨cs', e1, e2, fun i u hu => CV.rel_sub (fun b hb => .inl (hsubX b hb)) (fun b hb => hb) _ _ (e3 i u hu)⟩
       | tup l =>
         obtain ⟨vs, e1, e2, e3⟩ := h5
         refine ⟨vs, e1, e2, fun i z u hz hu => ?_⟩
         have := e3 i z u hz hu
         cases z with
         | c z => exact CV.rel_sub (fun b hb => .inl (hsubX b hb)) (fun b hb => hb) _ _ this
         | agg n g => obtain ⟨cs', e1, e2, e3⟩ := this; exact ⟨cs', e1, e2, fun i u hu => CV.rel_sub (fun b hb => .inl (hsubX b hb)) (fun b hb => hb) _ _ (e3 i u hu)⟩
   . obtain ⟨v, rfl, o1, o2, o3, o4, o5, o6, o7⟩ := he
     have hY : ∀ b, cx.X b \/ wr r H' b -> orB (fun b => cx.X b \/ wrBut r H' [k] b) (some x) b := by
      rintro b (hX | ⟨k2, e2, y, he2, hy, hyb⟩)
      . exact .inl (.inl hX)
      . by_cases hk2 : k2 = k
        . subst hk2; rw [c1] at hy; injection hy with hy; subst hy; exact .inr ⟨x, rfl, hyb⟩
        . exact .inl (.inr ⟨k2, e2, y, he2, hy, hyb, fun hm => hk2 (List.mem_singleton.1 hm)⟩)
     have hl0 : hget ((k, some e') :: H') k = some e' := look_cons_eq _ _ _ _
     have hl : ∀ j, j ≠ k -> hget ((k, some e') :: H') j = hget H' j := fun j hj => look_cons_ne _ _ _ hj
     have live : ∀ j e1, hget ((k, some e') :: H') j = some e1 -> ∃ e2, hget H' j = some e2 := fun j e1 hj => by
      by_cases hjk : j = k
      . subst hjk; exact ⟨e, hk'⟩
      . rw [hl j hjk] at hj; exact ⟨e1, hj⟩
     have hwr2 : ∀ b, wr r ((k, some e') :: H') b -> wr r H' b := by
      rintro b ⟨j, e1, y, h1, h2, h3⟩
      obtain ⟨e2, h1⟩ := live j e1 h1
      exact ⟨j, e2, y, h1, h2, h3⟩
     have hE : Ext r (wr r H') w r (wr r ((k, some e') :: H')) w' := ⟨fun _ _ h => h, o4, fun b hb hw => o5 b hb fun hbx => hw ⟨k, e, x, hk', c1, hbx.symm⟩, fun b _ hb => hwr2 b hb⟩
     refine ⟨v, rfl, r, hE, ⟨o1.trans st.os, o2.trans st.tape, o3.trans st.output, Nat.le_trans st.size o4, fun b hb hne => ?_, st.xlt, fun j y hy => ?_, fun j e1 y hj hy => ?_, fun n m e1 e2 y z h1 h2 hy hz hyz => ?_, st.pin, fun j e1 hj => ?_⟩, fun _ _ => rfl, fun j e1 hj => .inr (live j e1 hj), ?_⟩
     . rw [<- st.kept b hb hne]
       refine o5 b (Nat.lt_of_lt_of_le hb st.size) fun hbx => ?_
       rcases st.ow k e x hk' c1 with h | h
       . omega
       . exact hne (hbx ▸ h)
     . obtain ⟨a1, a2, a3⟩ := st.dom j y hy
       exact ⟨Nat.lt_of_lt_of_le a1 o4, a2, a3⟩
     . obtain ⟨e2, hj⟩ := live j e1 hj
       exact st.ow j e2 y hj hy
     . obtain ⟨e1', h1⟩ := live n e1 h1
       obtain ⟨e2', h2⟩ := live m e2 h2
       exact st.inj n m e1' e2' y z h1 h2 hy hz hyz
     . have hj' : hget ((k, some e') :: H') j = some e1 := hj
       by_cases hjk : j = k
       . subst hjk
         rw [hl0] at hj'; injection hj' with hj'; subst hj'
         rw [c1]
         exact o6.map rfl rfl rfl rfl rfl (fun _ _ => rfl) fun i _ q _ u hu => CV.rel_into (fun b hb => hY b (.inl hb)) (fun b hb => hY b (.inr (hwr2 b hb))) _ _ hu
       . rw [hl j hjk] at hj'
         have hold := st.old hj' rfl (w' := w') fun y hy => o5 _ (st.dom j y hy).1 fun hyx => hjk (st.inj j k e1 e y x hj' hk' hy c1 hyx)
         exact hold.ext hE
     . exact FV.rel_into (fun b hb => hY b (.inl hb)) (fun b hb => hY b (.inr (hwr2 b hb))) _ _ o7
 . have hf : e.v = false := hfit.1
   rw [hv] at hf; cases hf
def valI : CV -> Int
 | .int _ n => n
 | _ => 0
def valB : CV -> Bool
 | .bool b => b
 | _ => false
def isK (k : IntKind) : CV -> Bool
 | .int k' _ => kindEq k k'
 | _ => false
def isB : CV -> Bool
 | .bool _ => true
 | _ => false
theorem isK_eq {k : IntKind} {x : CV} (h : isK k x = true) : x = .int k (valI x) := by
 unfold isK at h
 split at h
 . rename_i k' n
   have : k = k' := by simpa [kindEq] using h
   subst this; rfl
 . cases h
theorem isB_eq {x : CV} (h : isB x = true) : x = .bool (valB x) := by
 unfold isB at h
 split at h
 . rfl
 . cases h
def okA (k : IntKind) (g : Nat -> CV) (o : Nat) : Nat -> Bool
 | 0 => true
 | n + 1 => isK k (g (o + n)) && okA k g o n
theorem okA_at {k : IntKind} {g : Nat -> CV} {o : Nat} : ∀ {n : Nat}, okA k g o n = true -> ∀ i, i < n -> g (o + i) = .int k (valI (g (o + i))) := by
 intro n
 induction n with
 | zero => intro _ i h; omega
 | succ n ih =>
   intro h i hi
   simp only [okA, Bool.and_eq_true] at h
   by_cases he : i = n
   . subst he; exact isK_eq h.1
   . exact ih h.2 i (by omega)
def gi (k : IntKind) : CV -> Option Int
 | .int k' n => bif kindEq k k' then some n else none
 | _ => none
theorem gi_eq {k : IntKind} {x : CV} {n : Int} (h : gi k x = some n) : x = .int k n := by
 unfold gi at h
 split at h
 . rename_i k' m
   cases hk : kindEq k k' with
   | false => rw [hk] at h; cases h
   | true =>
     rw [hk, cond_true] at h
     injection h with h
     have : k = k' := by simpa [kindEq] using hk
     rw [h, this]
 . cases h
def gb : CV -> Option Bool
 | .bool b => some b
 | _ => none
theorem gb_eq {x : CV} {b : Bool} (h : gb x = some b) : x = .bool b := by
 unfold gb at h
 split at h
 . injection h with h; rw [h]
 . cases h
def gc : FV -> Option CV
 | .e (.c x) => some x
 | _ => none
theorem gc_eq {x : FV} {y : CV} (h : gc x = some y) : x = .e (.c y) := by
 unfold gc at h
 split at h
 . injection h with h; rw [h]
 . cases h
def ga (m : Nat) : FV -> Option (Nat -> CV)
 | .e (.agg n f) => bif Nat.beq n m then some f else none
 | _ => none
theorem ga_eq {m : Nat} {x : FV} {f : Nat -> CV} (h : ga m x = some f) : x = .e (.agg m f) := by
 unfold ga at h
 split at h
 . rename_i n g
   cases hb : Nat.beq n m with
   | false => rw [hb] at h; cases h
   | true =>
     rw [hb, cond_true] at h
     injection h with h
     rw [h, Nat.eq_of_beq_eq_true hb]
 . cases h
theorem bind_some {α β : Type} {x : Option α} {f : α -> Option β} {b : β} (h : (x.bind f) = some b) : ∃ a, x = some a /\ f a = some b := by
 cases x with
 | none => cases h
 | some a => exact ⟨a, rfl, h⟩
def FlatC (x : CV) : Prop := ∀ r r' X X' W W' w w' v, x.rel r X W w v -> x.rel r' X' W' w' v
theorem flat_int {k : IntKind} {a : Int} : FlatC (.int k a) := fun _ _ _ _ _ _ _ _ _ h => h
theorem flat_bool {a : Bool} : FlatC (.bool a) := fun _ _ _ _ _ _ _ _ _ h => h
theorem FlatC.nf {x : CV} (h : FlatC x) : NF x := fun r r' X W w v hx => h _ _ _ _ _ _ _ _ _ hx
theorem FlatC.cl {x : CV} (h : FlatC x) : Cl x := fun c _ _ cx r w v _ hx => h _ _ _ _ _ _ _ _ _ hx
theorem FlatC.le {c : Wc} {x : CV} (h : FlatC x) : LeC c x x := fun _ cx r w v _ hx => h _ _ _ _ _ _ _ _ _ hx
structure Elem (α : Type) where
 sz : Nat
 cell : α -> Nat -> CV
 rd : (Nat -> CV) -> α
 ok : (Nat -> CV) -> Bool
 ok_eq : ∀ g, ok g = true -> ∀ j, j < sz -> g j = cell (rd g) j
 flat : ∀ a j, FlatC (cell a j)
def eI (k : IntKind) : Elem Int where
 sz := 1
 cell a _ := .int k a
 rd g := valI (g 0)
 ok g := isK k (g 0)
 ok_eq g h j hj := by have : j = 0 := by omega
                      subst this; exact isK_eq h
 flat _ _ := flat_int
def vget {n : Nat} (a : Fin n -> Int) (j : Nat) : Int := if h : j < n then a ⟨j, h⟩ else 0
theorem vget_lt {n : Nat} (a : Fin n -> Int) {j : Nat} (h : j < n) : vget a j = a ⟨j, h⟩ := dif_pos h
def eA (k : IntKind) (n : Nat) : Elem (Fin n -> Int) where
 sz := n
 cell a j := .int k (vget a j)
 rd g := fun q => valI (g q.1)
 ok g := okA k g 0 n
 ok_eq g h j hj := by
  have := okA_at h j hj
  rw [Nat.zero_add] at this
  rw [vget_lt _ hj]
  exact this
 flat _ _ := flat_int
theorem eA_rd {k : IntKind} {n : Nat} (a : Fin n -> Int) : (eA k n).rd ((eA k n).cell a) = a := by
 funext q
 exact vget_lt a q.2
theorem selC_out {c : Wc} {b : Bool} {x y z : CV} (hb : b = false) (h : LeC c y z) : LeC c (selC b x y) z := by rw [selC_eq, hb]; exact h
theorem selC_in {c : Wc} {b : Bool} {x y z : CV} (hb : b = true) (h : LeC c x z) : LeC c (selC b x y) z := by rw [selC_eq, hb]; exact h
theorem cond_out {c : Wc} {b : Bool} {x y z : CV} (hb : b = false) (h : LeC c y z) : LeC c (bif b then x else y) z := by rw [hb]; exact h
theorem rng_out {i j n : Nat} (h : j < i \/ i + n <= j) : (Nat.ble i j && Nat.blt j (i + n)) = false := by
 cases hb : (Nat.ble i j && Nat.blt j (i + n)) with
 | false => rfl
 | true =>
   simp only [Bool.and_eq_true] at hb
   have := Nat.le_of_ble_eq_true hb.1
   have := Nat.le_of_ble_eq_true hb.2
   omega
theorem rng_in {i j n : Nat} (h : i <= j /\ j < i + n) : (Nat.ble i j && Nat.blt j (i + n)) = true := by
 simp only [Bool.and_eq_true]; exact ⟨Nat.ble_eq_true_of_le h.1, Nat.ble_eq_true_of_le h.2⟩
def cI (k : IntKind) : Codec Int where
 enc n := .e (.c (.int k n))
 dec _ x := (gc x).bind fun y => (gi k y).bind fun n => some (n, none, [])
 sound H H' x a p rd h _ _ := by
  obtain ⟨y, h1, h⟩ := bind_some h
  obtain ⟨n, h2, h⟩ := bind_some h
  injection h with h
  injection h with h h'
  injection h' with h' h''
  subst h h''
  rw [gc_eq h1, gi_eq h2]
  exact fun cx r w v _ hx => hx
def cB : Codec Bool where
 enc n := .e (.c (.bool n))
 dec _ x := (gc x).bind fun y => (gb y).bind fun n => some (n, none, [])
 sound H H' x a p rd h _ _ := by
  obtain ⟨y, h1, h⟩ := bind_some h
  obtain ⟨n, h2, h⟩ := bind_some h
  injection h with h
  injection h with h h'
  injection h' with h' h''
  subst h h''
  rw [gc_eq h1, gb_eq h2]
  exact fun cx r w v _ hx => hx
theorem bo_agg {H : Hp} {rd : List Nat} {n : Nat} {f g : Nat -> CV} (hg : ∀ j, j < n -> f j = g j) (hf : ∀ j, FlatC (g j)) : Bo H rd (.e (.agg n f)) (.e (.agg n g)) := by
 rintro cx r w v _ ⟨cs, rfl, h1, h2⟩
 refine ⟨cs, rfl, h1, fun i u hu => ?_⟩
 have hi : i < n := by rw [<- h1]; exact (Array.getElem?_eq_some_iff.1 hu).1
 have := h2 i u hu
 rw [hg i hi] at this
 exact hf i _ _ _ _ _ _ _ _ _ this
def cE {α : Type} (E : Elem α) : Codec α where
 enc a := .e (.agg E.sz (E.cell a))
 dec _ x := (ga E.sz x).bind fun f => bif E.ok f then some (E.rd f, none, []) else none
 sound H H' x a p rd h _ _ := by
  obtain ⟨f, h1, h⟩ := bind_some h
  obtain ⟨hk, h⟩ := cond_some h
  injection h with h h'
  injection h' with h' h''
  subst h h''
  rw [ga_eq h1]
  exact bo_agg (E.ok_eq f hk) (E.flat _)
def rowF {α : Type} [Inhabited α] (E : Elem α) (l : List α) (i j : Nat) : CV := E.cell (l.getD i default) j
def toL {α : Type} (E : Elem α) (n : Nat) (g : Nat -> Nat -> CV) : List α := (List.range n).map fun i => E.rd (g i)
theorem toL_len {α : Type} (E : Elem α) (n : Nat) (g : Nat -> Nat -> CV) : (toL E n g).length = n := by simp [toL]
theorem toL_get {α : Type} [Inhabited α] {E : Elem α} {n : Nat} {g : Nat -> Nat -> CV} {i : Nat} (h : i < n) : (toL E n g).getD i default = E.rd (g i) := by simp [toL, h]
theorem bo_sl {α : Type} [Inhabited α] {E : Elem α} {H : Hp} {x : FV} {n : Nat} {g : Nat -> Nat -> CV} {p : Option Prop} {rd : List Nat} (hsz : 0 < E.sz) (h : srcOf H E.sz x = some ⟨n, g, p, rd⟩) (hp : preOk p) (hok : ∀ i, i < n -> E.ok (g i) = true) :
 Bo H rd x (.e (.c (.sl false (toL E n g).length E.sz (rowF E (toL E n g))))) := by
 intro cx r w v st hx
 rw [toL_len]
 have key : ∀ i, i < n -> ∀ j, j < E.sz -> rowF E (toL E n g) i j = g i j := fun i hi j hj => by
  unfold rowF
  rw [toL_get hi]
  exact (E.ok_eq _ (hok i hi) j hj).symm
 unfold srcOf at h
 split at h
 . rename_i sh n' s f
   obtain ⟨hb, h⟩ := cond_some h
   injection h with h1 h2 h3 h4
   subst h1 h2 h3 h4
   obtain ⟨a, cap, rfl, c1, c2⟩ := hx
   refine ⟨a, cap, rfl, c1, fun h0 => ?_⟩
   obtain ⟨ad, rfl, hs, ho, hX, hlt, hc⟩ := c2 h0
   refine ⟨ad, rfl, hs, fun ⟨k, e, x, q1, q2, q3, _⟩ => ho ⟨k, e, x, q1, q2, q3⟩, (fun h => by cases h), hlt, fun i hi j hj => ?_⟩
   have hsE : s = E.sz := Nat.eq_of_beq_eq_true hb
   subst hsE
   obtain ⟨u, hu, hr⟩ := hc i hi j hj
   refine ⟨u, hu, ?_⟩
   rw [<- key i hi j hj] at hr
   exact E.flat _ _ _ _ _ _ _ _ _ _ _ hr
 . injection h with h
   injection h with h1 h2 h3 h4
   subst h1 h2 h3 h4
   have : v = .slice none 0 0 := hx
   subst this
   exact ⟨none, 0, rfl, Nat.le_refl _, fun h => absurd h (Nat.lt_irrefl _)⟩
 . rename_i k i n'
   split at h
   . rename_i et en es ev f he
     obtain ⟨hb, h⟩ := cond_some h
     injection h with h1 h2 h3 h4
     subst h1 h2 h3 h4
     have hsE : es = E.sz := Nat.eq_of_beq_eq_true hb
     subst hsE
     obtain ⟨a, cap, rfl, c1, c2⟩ := hx
     refine ⟨a, cap, rfl, c1, fun h0 => ?_⟩
     obtain ⟨x, hx, rfl, _⟩ := c2 (by omega)
     have hp' : i + n' <= en := hp
     obtain ⟨_, _, hxs, _⟩ := blk_at st he hx
     simp only at hxs
     refine ⟨⟨x.b, i * x.sz, none⟩, rfl, rfl, ?_, (fun h => by cases h), (st.dom k x hx.1).1, fun q hq j hj => ?_⟩
     . rintro ⟨k2, e2, y, q1, q2, q3, q4⟩
       have := st.inj k2 k e2 _ y x q1 he q2 hx.1 q3
       exact q4 (by rw [this]; exact List.mem_singleton.2 rfl)
     . obtain ⟨u, hu, hr⟩ := blk_cell st he hx (i := i + q) (j := j) (show i + q < en by omega) hj
       refine ⟨u, ?_, ?_⟩
       . rw [<- hu]
         show w.cell? ⟨x.b, i * x.sz + (q * E.sz + j), none⟩ = _
         rw [show i * x.sz + (q * E.sz + j) = (i + q) * x.sz + j by rw [hxs, Nat.add_mul]; omega]
       . have := key q hq j hj
         rw [this]
         have hr' : (f (i + q) j).rel r cx.X (wr r H) w u := hr
         have e2 : f (i + q) j = E.cell (E.rd (f (i + q))) j := E.ok_eq _ (hok q hq) j hj
         rw [e2] at hr'
         show CV.rel _ _ _ w (f (i + q) j) u
         rw [e2]
         exact E.flat _ _ _ _ _ _ _ _ _ _ _ hr'
   . cases h
 . rename_i k i j0 n' s
   split at h
   . rename_i et en es ev f he
     obtain ⟨hb, h⟩ := cond_some h
     injection h with h1 h2 h3 h4
     subst h1 h2 h3 h4
     have hsE : s = E.sz := Nat.eq_of_beq_eq_true hb
     subst hsE
     obtain ⟨a, cap, rfl, c1, c2⟩ := hx
     refine ⟨a, cap, rfl, c1, fun h0 => ?_⟩
     obtain ⟨x, hx, rfl⟩ := c2 h0
     have hp' : i < en /\ j0 + n' * E.sz <= es := hp
     refine ⟨⟨x.b, i * x.sz + j0, none⟩, rfl, rfl, ?_, (fun h => by cases h), (st.dom k x hx.1).1, fun q hq j hj => ?_⟩
     . rintro ⟨k2, e2, y, q1, q2, q3, q4⟩
       have := st.inj k2 k e2 _ y x q1 he q2 hx.1 q3
       exact q4 (by rw [this]; exact List.mem_singleton.2 rfl)
     . have hlt : q * E.sz + j < n' * E.sz := by have := row_lt (sz := E.sz) hq; omega
       obtain ⟨u, hu, hr⟩ := blk_cell st he hx (i := i) (j := j0 + (q * E.sz + j)) (show i < en from hp'.1) (show j0 + (q * E.sz + j) < es by omega)
       refine ⟨u, ?_, ?_⟩
       . rw [<- hu]
         show w.cell? ⟨x.b, i * x.sz + j0 + (q * E.sz + j), none⟩ = _
         rw [Nat.add_assoc]
       . have := key q hq j hj
         rw [this]
         have hr' : (f i (j0 + (q * E.sz + j))).rel r cx.X (wr r H) w u := hr
         have e2 : f i (j0 + (q * E.sz + j)) = E.cell (E.rd fun t => f i (j0 + (q * E.sz + t))) j := E.ok_eq _ (hok q hq) j hj
         rw [e2] at hr'
         show CV.rel _ _ _ w (f i (j0 + (q * E.sz + j))) u
         rw [e2]
         exact E.flat _ _ _ _ _ _ _ _ _ _ _ hr'
   . cases h
 . cases h
def cSl {α : Type} [Inhabited α] (E : Elem α) (hsz : 0 < E.sz) : Codec (List α) where
 enc l := .e (.c (.sl false l.length E.sz (rowF E l)))
 dec H x := match srcOf H E.sz x with
  | some ⟨n, g, p, rd⟩ => some (toL E n g, both p (some (∀ i, i < n -> E.ok (g i) = true)), rd)
  | none => none
 sound H H' x a p rd h hp hh := by
  split at h
  . rename_i n g q rd' hs
    injection h with h
    injection h with h h'
    injection h' with h' h''
    subst h h' h''
    obtain ⟨h1, h2⟩ := both_ok.1 hp
    exact bo_sl hsz (srcOf_congr hs hh) h1 h2
  . cases h
def slR {α : Type} [Inhabited α] (E : Elem α) (l : List α) : CV := .sl true l.length E.sz (rowF E l)
def ents {α : Type} [Inhabited α] (E : Elem α) (t : TypeId) (l : List α) : Ent := ⟨t, l.length, E.sz, false, rowF E l⟩
theorem toL_row {α : Type} [Inhabited α] {E : Elem α} (hE : ∀ a, E.rd (E.cell a) = a) (l : List α) : toL E l.length (rowF E l) = l := by
 apply List.ext_getElem
 . simp [toL]
 . intro i h1 h2
   simp only [toL, List.getElem_map, List.getElem_range]
   have : rowF E l i = E.cell (l.getD i default) := rfl
   rw [this, hE]
   simp [List.getD_eq_getElem?_getD, List.getElem?_eq_getElem h2]
theorem row_nf {α : Type} [Inhabited α] (E : Elem α) (l : List α) (i j : Nat) : NF (rowF E l i j) := (E.flat _ _).nf
theorem cl_slB {α : Type} [Inhabited α] (E : Elem α) (l : List α) : Cl (.sl false l.length E.sz (rowF E l)) := cl_sl fun i _ j _ => (E.flat _ _).cl
theorem cl_slR {α : Type} [Inhabited α] (E : Elem α) (l : List α) : Cl (.sl true l.length E.sz (rowF E l)) := cl_sl fun i _ j _ => (E.flat _ _).cl
end Go.Proofs.Ytjknkfjhcapocaa.AX
namespace Go.Proofs.Ytjknkfjhcapocaa.AX
def tyO : List (Nat × Option TI) := [
 (1, some ⟨.other, 1, [.top], [], 8⟩),
 (2, some ⟨.int .i64, 1, [.int .i64 0], [], 8⟩),
 (3, some ⟨.int .i64, 1, [.int .i64 0], [], 8⟩),
 (4, some ⟨.bool, 1, [.bool false], [], 1⟩),
 (5, some ⟨.int .u8, 1, [.int .u8 0], [], 1⟩),
 (6, some ⟨.int .u8, 1, [.int .u8 0], [], 1⟩),
 (7, some ⟨.struct [(0, 1, some false), (1, 1, some false), (2, 1, some false), (3, 1, some false)], 4, [.int .i64 0, .int .i64 0, .bool false, .int .u8 0], [], 24⟩),
 (8, some ⟨.struct [(0, 1, some false), (1, 1, some false), (2, 1, some false), (3, 1, some false)], 4, [.int .i64 0, .int .i64 0, .bool false, .int .u8 0], [], 24⟩),
 (12, some ⟨.int .u64, 1, [.int .u64 0], [], 8⟩),
 (13, some ⟨.struct [(0, 1, some false), (1, 1, some false)], 2, [.top, .int .u64 0], [], 24⟩),
 (14, some ⟨.struct [(0, 1, some false), (1, 1, some false)], 2, [.top, .int .u64 0], [], 24⟩),
 (15, some ⟨.ptr 190, 1, [.nilp], [], 8⟩),
 (16, some ⟨.ptr 193, 1, [.nilp], [], 8⟩),
 (17, some ⟨.ptr 201, 1, [.nilp], [], 8⟩),
 (18, some ⟨.struct [(0, 1, some false)], 1, [.nilp], [], 8⟩),
 (19, some ⟨.struct [(0, 1, some false)], 1, [.nilp], [], 8⟩),
 (21, some ⟨.int .i32, 1, [.int .i32 0], [], 4⟩),
 (22, some ⟨.int .u32, 1, [.int .u32 0], [], 4⟩),
 (23, some ⟨.arr 16 5 1 (some false), 16, [.int .u8 0, .int .u8 0, .int .u8 0, .int .u8 0, .int .u8 0, .int .u8 0, .int .u8 0, .int .u8 0, .int .u8 0, .int .u8 0, .int .u8 0, .int .u8 0, .int .u8 0, .int .u8 0, .int .u8 0, .int .u8 0], [false, false, false, false, false, false, false, false, false, false, false, false, false, false, false, false], 16⟩),
 (24, some ⟨.arr 16 5 1 (some false), 16, [.int .u8 0, .int .u8 0, .int .u8 0, .int .u8 0, .int .u8 0, .int .u8 0, .int .u8 0, .int .u8 0, .int .u8 0, .int .u8 0, .int .u8 0, .int .u8 0, .int .u8 0, .int .u8 0, .int .u8 0, .int .u8 0], [false, false, false, false, false, false, false, false, false, false, false, false, false, false, false, false], 16⟩),
 (25, some ⟨.int .u16, 1, [.int .u16 0], [], 2⟩),
 (26, some ⟨.slice 5 1 true, 1, [.nils], [], 24⟩),
 (27, some ⟨.struct [(0, 1, some false), (1, 1, some false), (2, 1, some false), (3, 1, some false), (4, 16, some true), (20, 16, some true), (36, 1, some false), (37, 1, some false), (38, 1, some false)], 39, [.int .u8 0, .int .u32 0, .int .u8 0, .int .u8 0, .int .u8 0, .int .u8 0, .int .u8 0, .int .u8 0, .int .u8 0, .int .u8 0, .int .u8 0, .int .u8 0, .int .u8 0, .int .u8 0, .int .u8 0, .int .u8 0, .int .u8 0, .int .u8 0, .int .u8 0, .int .u8 0, .int .u8 0, .int .u8 0, .int .u8 0, .int .u8 0, .int .u8 0, .int .u8 0, .int .u8 0, .int .u8 0, .int .u8 0, .int .u8 0, .int .u8 0, .int .u8 0, .int .u8 0, .int .u8 0, .int .u8 0, .int .u8 0, .int .u16 0, .int .u16 0, .nils], [], 72⟩),
 (28, some ⟨.struct [(0, 1, some false), (1, 1, some false), (2, 1, some false), (3, 1, some false), (4, 16, some true), (20, 16, some true), (36, 1, some false), (37, 1, some false), (38, 1, some false)], 39, [.int .u8 0, .int .u32 0, .int .u8 0, .int .u8 0, .int .u8 0, .int .u8 0, .int .u8 0, .int .u8 0, .int .u8 0, .int .u8 0, .int .u8 0, .int .u8 0, .int .u8 0, .int .u8 0, .int .u8 0, .int .u8 0, .int .u8 0, .int .u8 0, .int .u8 0, .int .u8 0, .int .u8 0, .int .u8 0, .int .u8 0, .int .u8 0, .int .u8 0, .int .u8 0, .int .u8 0, .int .u8 0, .int .u8 0, .int .u8 0, .int .u8 0, .int .u8 0, .int .u8 0, .int .u8 0, .int .u8 0, .int .u8 0, .int .u16 0, .int .u16 0, .nils], [], 72⟩),
 (29, some ⟨.slice 3 1 true, 1, [.nils], [], 24⟩),
 (30, some ⟨.other, 1, [.top], [], 8⟩),
 (31, some ⟨.other, 1, [.top], [], 8⟩),
 (32, some ⟨.slice 28 39 true, 1, [.nils], [], 24⟩),
 (33, some ⟨.int .i64, 1, [.int .i64 0], [], 8⟩),
 (35, some ⟨.other, 1, [.top], [], 8⟩),
 (36, some ⟨.other, 1, [.top], [], 8⟩),
 (37, some ⟨.other, 1, [.top], [], 8⟩),
 (38, some ⟨.other, 1, [.top], [], 8⟩),
 (39, some ⟨.other, 1, [.top], [], 8⟩),
 (40, some ⟨.other, 1, [.top], [], 8⟩),
 (41, some ⟨.other, 1, [.top], [], 8⟩),
 (42, some ⟨.other, 1, [.top], [], 8⟩),
 (43, some ⟨.other, 1, [.top], [], 8⟩),
 (45, some ⟨.other, 1, [.top], [], 8⟩),
 (46, some ⟨.other, 1, [.top], [], 8⟩),
 (47, some ⟨.other, 1, [.top], [], 8⟩),
 (48, some ⟨.slice 26 1 true, 1, [.nils], [], 24⟩),
 (49, some ⟨.other, 1, [.top], [], 8⟩),
 (50, some ⟨.other, 1, [.top], [], 8⟩),
 (51, some ⟨.other, 1, [.top], [], 8⟩),
 (52, some ⟨.int .u64, 1, [.int .u64 0], [], 8⟩),
 (53, some ⟨.other, 1, [.top], [], 8⟩),
 (54, some ⟨.other, 1, [.top], [], 8⟩),
 (55, some ⟨.int .u16, 1, [.int .u16 0], [], 2⟩),
 (56, some ⟨.int .u64, 1, [.int .u64 0], [], 8⟩),
 (57, some ⟨.int .u64, 1, [.int .u64 0], [], 8⟩),
 (58, some ⟨.struct [(0, 1, some false), (1, 1, some false), (2, 1, some false)], 3, [.int .i64 0, .int .u16 0, .int .u64 0], [false, false, false], 24⟩),
 (59, some ⟨.struct [(0, 1, some false), (1, 1, some false), (2, 1, some false)], 3, [.int .i64 0, .int .u16 0, .int .u64 0], [false, false, false], 24⟩),
 (60, some ⟨.slice 82 20 true, 1, [.nils], [], 24⟩),
 (61, some ⟨.ptr 106, 1, [.nilp], [], 8⟩),
 (62, some ⟨.other, 1, [.top], [], 8⟩),
 (63, some ⟨.other, 1, [.top], [], 8⟩),
 (66, some ⟨.other, 1, [.top], [], 8⟩),
 (67, some ⟨.other, 1, [.top], [], 8⟩),
 (68, some ⟨.other, 1, [.top], [], 8⟩),
 (70, some ⟨.other, 1, [.top], [], 8⟩),
 (71, some ⟨.other, 1, [.top], [], 8⟩),
 (72, some ⟨.struct [(0, 16, some true), (16, 1, some false)], 17, [.int .u8 0, .int .u8 0, .int .u8 0, .int .u8 0, .int .u8 0, .int .u8 0, .int .u8 0, .int .u8 0, .int .u8 0, .int .u8 0, .int .u8 0, .int .u8 0, .int .u8 0, .int .u8 0, .int .u8 0, .int .u8 0, .int .i64 0], [false, false, false, false, false, false, false, false, false, false, false, false, false, false, false, false, false], 24⟩),
 (73, some ⟨.struct [(0, 16, some true), (16, 1, some false)], 17, [.int .u8 0, .int .u8 0, .int .u8 0, .int .u8 0, .int .u8 0, .int .u8 0, .int .u8 0, .int .u8 0, .int .u8 0, .int .u8 0, .int .u8 0, .int .u8 0, .int .u8 0, .int .u8 0, .int .u8 0, .int .u8 0, .int .i64 0], [false, false, false, false, false, false, false, false, false, false, false, false, false, false, false, false, false], 24⟩),
 (76, some ⟨.other, 1, [.top], [], 8⟩),
 (79, some ⟨.other, 1, [.top], [], 8⟩),
 (81, some ⟨.struct [(0, 1, some false), (1, 17, some true), (18, 1, some false), (19, 1, some false)], 20, [.int .i64 0, .int .u8 0, .int .u8 0, .int .u8 0, .int .u8 0, .int .u8 0, .int .u8 0, .int .u8 0, .int .u8 0, .int .u8 0, .int .u8 0, .int .u8 0, .int .u8 0, .int .u8 0, .int .u8 0, .int .u8 0, .int .u8 0, .int .i64 0, .bool false, .int .i64 0], [false, false, false, false, false, false, false, false, false, false, false, false, false, false, false, false, false, false, true, false], 48⟩),
 (82, some ⟨.struct [(0, 1, some false), (1, 17, some true), (18, 1, some false), (19, 1, some false)], 20, [.int .i64 0, .int .u8 0, .int .u8 0, .int .u8 0, .int .u8 0, .int .u8 0, .int .u8 0, .int .u8 0, .int .u8 0, .int .u8 0, .int .u8 0, .int .u8 0, .int .u8 0, .int .u8 0, .int .u8 0, .int .u8 0, .int .u8 0, .int .i64 0, .bool false, .int .i64 0], [false, false, false, false, false, false, false, false, false, false, false, false, false, false, false, false, false, false, true, false], 48⟩),
 (85, some ⟨.other, 1, [.top], [], 8⟩),
 (87, some ⟨.other, 1, [.top], [], 8⟩),
 (88, some ⟨.other, 1, [.top], [], 8⟩),
 (89, some ⟨.other, 1, [.top], [], 8⟩),
 (90, some ⟨.other, 1, [.top], [], 8⟩),
 (91, some ⟨.other, 1, [.top], [], 8⟩),
 (94, some ⟨.other, 1, [.top], [], 8⟩),
 (95, some ⟨.other, 1, [.top], [], 8⟩),
 (99, some ⟨.other, 1, [.top], [], 8⟩),
 (100, some ⟨.other, 1, [.top], [], 8⟩),
 (101, some ⟨.other, 1, [.top], [], 8⟩),
 (102, some ⟨.other, 1, [.top], [], 8⟩),
 (104, some ⟨.other, 1, [.top], [], 8⟩),
 (105, some ⟨.struct [(0, 1, some false), (1, 1, some false)], 2, [.nils, .int .i64 0], [], 32⟩),
 (106, some ⟨.struct [(0, 1, some false), (1, 1, some false)], 2, [.nils, .int .i64 0], [], 32⟩),
 (107, some ⟨.other, 1, [.top], [], 8⟩),
 (108, some ⟨.other, 1, [.top], [], 8⟩),
 (112, some ⟨.other, 1, [.top], [], 8⟩),
 (113, some ⟨.struct [(0, 1, some false), (1, 1, some false), (2, 1, some false), (3, 1, some false)], 4, [.bool false, .int .i64 0, .int .i64 0, .nils], [], 48⟩),
 (114, some ⟨.struct [(0, 1, some false), (1, 1, some false), (2, 1, some false), (3, 1, some false)], 4, [.bool false, .int .i64 0, .int .i64 0, .nils], [], 48⟩),
 (115, some ⟨.other, 1, [.top], [], 8⟩),
 (117, some ⟨.other, 1, [.top], [], 8⟩),
 (118, some ⟨.slice 56 1 true, 1, [.nils], [], 24⟩),
 (119, some ⟨.other, 1, [.top], [], 8⟩),
 (121, some ⟨.other, 1, [.top], [], 8⟩),
 (124, some ⟨.slice 128 34 true, 1, [.nils], [], 24⟩),
 (126, some ⟨.other, 1, [.top], [], 8⟩),
 (128, some ⟨.struct [(0, 16, some true), (16, 16, some true), (32, 1, some false), (33, 1, some false)], 34, [.int .u8 0, .int .u8 0, .int .u8 0, .int .u8 0, .int .u8 0, .int .u8 0, .int .u8 0, .int .u8 0, .int .u8 0, .int .u8 0, .int .u8 0, .int .u8 0, .int .u8 0, .int .u8 0, .int .u8 0, .int .u8 0, .int .u8 0, .int .u8 0, .int .u8 0, .int .u8 0, .int .u8 0, .int .u8 0, .int .u8 0, .int .u8 0, .int .u8 0, .int .u8 0, .int .u8 0, .int .u8 0, .int .u8 0, .int .u8 0, .int .u8 0, .int .u8 0, .int .i64 0, .int .i64 0], [false, false, false, false, false, false, false, false, false, false, false, false, false, false, false, false, false, false, false, false, false, false, false, false, false, false, false, false, false, false, false, false, false, false], 48⟩),
 (130, some ⟨.arr 5 5 1 (some false), 5, [.int .u8 0, .int .u8 0, .int .u8 0, .int .u8 0, .int .u8 0], [false, false, false, false, false], 5⟩),
 (133, some ⟨.struct [(0, 1, some false), (1, 1, some false), (2, 1, some false), (3, 1, some false)], 4, [.bool false, .int .i64 0, .int .i64 0, .nils], [], 48⟩),
 (136, some ⟨.ptr 138, 1, [.nilp], [], 8⟩),
 (137, some ⟨.struct [(0, 1, some false), (1, 1, some false)], 2, [.nils, .int .i64 0], [], 32⟩),
 (138, some ⟨.struct [(0, 1, some false), (1, 1, some false)], 2, [.nils, .int .i64 0], [], 32⟩),
 (142, some ⟨.other, 1, [.top], [], 8⟩),
 (145, some ⟨.other, 1, [.top], [], 8⟩),
 (149, some ⟨.slice 151 2 true, 1, [.nils], [], 24⟩),
 (150, some ⟨.struct [(0, 1, some false), (1, 1, some false)], 2, [.int .u64 0, .int .i64 0], [false, false], 16⟩),
 (151, some ⟨.struct [(0, 1, some false), (1, 1, some false)], 2, [.int .u64 0, .int .i64 0], [false, false], 16⟩),
 (153, some ⟨.other, 1, [.top], [], 8⟩),
 (154, some ⟨.arr 2 5 1 (some false), 2, [.int .u8 0, .int .u8 0], [false, false], 2⟩),
 (160, some ⟨.other, 1, [.top], [], 8⟩),
 (163, some ⟨.other, 1, [.top], [], 8⟩),
 (168, some ⟨.other, 1, [.top], [], 8⟩),
 (169, some ⟨.ptr 171, 1, [.nilp], [], 8⟩),
 (171, some ⟨.struct [(0, 1, some false), (1, 1, some false), (2, 1, some false)], 3, [.nils, .int .i64 0, .int .i64 0], [], 40⟩),
 (174, some ⟨.other, 1, [.top], [], 8⟩),
 (178, some ⟨.other, 1, [.top], [], 8⟩),
 (179, some ⟨.arr 4 56 1 (some false), 4, [.int .u64 0, .int .u64 0, .int .u64 0, .int .u64 0], [false, false, false, false], 32⟩),
 (181, some ⟨.other, 1, [.top], [], 8⟩),
 (182, some ⟨.arr 4 3 1 (some false), 4, [.int .i64 0, .int .i64 0, .int .i64 0, .int .i64 0], [false, false, false, false], 32⟩),
 (184, some ⟨.other, 1, [.top], [], 8⟩),
 (190, some ⟨.struct [(0, 1, some false), (1, 1, some false), (2, 1, some false), (3, 1, some false)], 4, [.nilp, .nilp, .nilp, .top], [], 40⟩),
 (193, some ⟨.struct [(0, 0, some true)], 0, [], [], 0⟩),
 (195, some ⟨.int .u8, 1, [.int .u8 0], [], 1⟩)]
def T : Tys := fun t => look none tyO t
def TysAll (P : Program) : List (Nat × Option TI) -> Prop
 | [] => True
 | (_, none) :: rest => TysAll P rest
 | (t, some ti) :: rest => tyChk P t ti /\ TysAll P rest
theorem TysAll.at {P : Program} : ∀ {l : List (Nat × Option TI)}, TysAll P l -> ∀ t ti, look none l t = some ti -> tyChk P t ti := by
 intro l
 induction l with
 | nil => intro _ t ti h; cases h
 | cons p l ih =>
   obtain ⟨k, x⟩ := p
   intro h t ti ht
   by_cases hk : t = k
   . subst hk
     rw [look_cons_eq] at ht
     subst ht
     exact h.1
   . rw [look_cons_ne _ _ _ hk] at ht
     cases x with
     | none => exact ih h t ti ht
     | some y => exact ih h.2 t ti ht
theorem ty1 : tyChk Try.prog 1 ⟨.other, 1, [.top], [], 8⟩ := ⟨by kernel_rfl, by kernel_rfl, by kernel_rfl⟩
theorem ty2 : tyChk Try.prog 2 ⟨.int .i64, 1, [.int .i64 0], [], 8⟩ := ⟨by kernel_rfl, by kernel_rfl, by kernel_rfl⟩
theorem ty3 : tyChk Try.prog 3 ⟨.int .i64, 1, [.int .i64 0], [], 8⟩ := ⟨by kernel_rfl, by kernel_rfl, by kernel_rfl⟩
theorem ty4 : tyChk Try.prog 4 ⟨.bool, 1, [.bool false], [], 1⟩ := ⟨by kernel_rfl, by kernel_rfl, by kernel_rfl⟩
theorem ty5 : tyChk Try.prog 5 ⟨.int .u8, 1, [.int .u8 0], [], 1⟩ := ⟨by kernel_rfl, by kernel_rfl, by kernel_rfl⟩
theorem ty6 : tyChk Try.prog 6 ⟨.int .u8, 1, [.int .u8 0], [], 1⟩ := ⟨by kernel_rfl, by kernel_rfl, by kernel_rfl⟩
theorem ty7 : tyChk Try.prog 7 ⟨.struct [(0, 1, some false), (1, 1, some false), (2, 1, some false), (3, 1, some false)], 4, [.int .i64 0, .int .i64 0, .bool false, .int .u8 0], [], 24⟩ := ⟨by kernel_rfl, by kernel_rfl, by kernel_rfl⟩
theorem ty8 : tyChk Try.prog 8 ⟨.struct [(0, 1, some false), (1, 1, some false), (2, 1, some false), (3, 1, some false)], 4, [.int .i64 0, .int .i64 0, .bool false, .int .u8 0], [], 24⟩ := ⟨by kernel_rfl, by kernel_rfl, by kernel_rfl⟩
theorem ty12 : tyChk Try.prog 12 ⟨.int .u64, 1, [.int .u64 0], [], 8⟩ := ⟨by kernel_rfl, by kernel_rfl, by kernel_rfl⟩
theorem ty13 : tyChk Try.prog 13 ⟨.struct [(0, 1, some false), (1, 1, some false)], 2, [.top, .int .u64 0], [], 24⟩ := ⟨by kernel_rfl, by kernel_rfl, by kernel_rfl⟩
theorem ty14 : tyChk Try.prog 14 ⟨.struct [(0, 1, some false), (1, 1, some false)], 2, [.top, .int .u64 0], [], 24⟩ := ⟨by kernel_rfl, by kernel_rfl, by kernel_rfl⟩
theorem ty15 : tyChk Try.prog 15 ⟨.ptr 190, 1, [.nilp], [], 8⟩ := ⟨by kernel_rfl, by kernel_rfl, by kernel_rfl⟩
theorem ty16 : tyChk Try.prog 16 ⟨.ptr 193, 1, [.nilp], [], 8⟩ := ⟨by kernel_rfl, by kernel_rfl, by kernel_rfl⟩
theorem ty17 : tyChk Try.prog 17 ⟨.ptr 201, 1, [.nilp], [], 8⟩ := ⟨by kernel_rfl, by kernel_rfl, by kernel_rfl⟩
theorem ty18 : tyChk Try.prog 18 ⟨.struct [(0, 1, some false)], 1, [.nilp], [], 8⟩ := ⟨by kernel_rfl, by kernel_rfl, by kernel_rfl⟩
theorem ty19 : tyChk Try.prog 19 ⟨.struct [(0, 1, some false)], 1, [.nilp], [], 8⟩ := ⟨by kernel_rfl, by kernel_rfl, by kernel_rfl⟩
theorem ty21 : tyChk Try.prog 21 ⟨.int .i32, 1, [.int .i32 0], [], 4⟩ := ⟨by kernel_rfl, by kernel_rfl, by kernel_rfl⟩
theorem ty22 : tyChk Try.prog 22 ⟨.int .u32, 1, [.int .u32 0], [], 4⟩ := ⟨by kernel_rfl, by kernel_rfl, by kernel_rfl⟩
theorem ty23 : tyChk Try.prog 23 ⟨.arr 16 5 1 (some false), 16, [.int .u8 0, .int .u8 0, .int .u8 0, .int .u8 0, .int .u8 0, .int .u8 0, .int .u8 0, .int .u8 0, .int .u8 0, .int .u8 0, .int .u8 0, .int .u8 0, .int .u8 0, .int .u8 0, .int .u8 0, .int .u8 0], [false, false, false, false, false, false, false, false, false, false, false, false, false, false, false, false], 16⟩ := ⟨by kernel_rfl, by kernel_rfl, by kernel_rfl⟩
theorem ty24 : tyChk Try.prog 24 ⟨.arr 16 5 1 (some false), 16, [.int .u8 0, .int .u8 0, .int .u8 0, .int .u8 0, .int .u8 0, .int .u8 0, .int .u8 0, .int .u8 0, .int .u8 0, .int .u8 0, .int .u8 0, .int .u8 0, .int .u8 0, .int .u8 0, .int .u8 0, .int .u8 0], [false, false, false, false, false, false, false, false, false, false, false, false, false, false, false, false], 16⟩ := ⟨by kernel_rfl, by kernel_rfl, by kernel_rfl⟩
theorem ty25 : tyChk Try.prog 25 ⟨.int .u16, 1, [.int .u16 0], [], 2⟩ := ⟨by kernel_rfl, by kernel_rfl, by kernel_rfl⟩
theorem ty26 : tyChk Try.prog 26 ⟨.slice 5 1 true, 1, [.nils], [], 24⟩ := ⟨by kernel_rfl, by kernel_rfl, by kernel_rfl⟩
theorem ty27 : tyChk Try.prog 27 ⟨.struct [(0, 1, some false), (1, 1, some false), (2, 1, some false), (3, 1, some false), (4, 16, some true), (20, 16, some true), (36, 1, some false), (37, 1, some false), (38, 1, some false)], 39, [.int .u8 0, .int .u32 0, .int .u8 0, .int .u8 0, .int .u8 0, .int .u8 0, .int .u8 0, .int .u8 0, .int .u8 0, .int .u8 0, .int .u8 0, .int .u8 0, .int .u8 0, .int .u8 0, .int .u8 0, .int .u8 0, .int .u8 0, .int .u8 0, .int .u8 0, .int .u8 0, .int .u8 0, .int .u8 0, .int .u8 0, .int .u8 0, .int .u8 0, .int .u8 0, .int .u8 0, .int .u8 0, .int .u8 0, .int .u8 0, .int .u8 0, .int .u8 0, .int .u8 0, .int .u8 0, .int .u8 0, .int .u8 0, .int .u16 0, .int .u16 0, .nils], [], 72⟩ := ⟨by kernel_rfl, by kernel_rfl, by kernel_rfl⟩
theorem ty28 : tyChk Try.prog 28 ⟨.struct [(0, 1, some false), (1, 1, some false), (2, 1, some false), (3, 1, some false), (4, 16, some true), (20, 16, some true), (36, 1, some false), (37, 1, some false), (38, 1, some false)], 39, [.int .u8 0, .int .u32 0, .int .u8 0, .int .u8 0, .int .u8 0, .int .u8 0, .int .u8 0, .int .u8 0, .int .u8 0, .int .u8 0, .int .u8 0, .int .u8 0, .int .u8 0, .int .u8 0, .int .u8 0, .int .u8 0, .int .u8 0, .int .u8 0, .int .u8 0, .int .u8 0, .int .u8 0, .int .u8 0, .int .u8 0, .int .u8 0, .int .u8 0, .int .u8 0, .int .u8 0, .int .u8 0, .int .u8 0, .int .u8 0, .int .u8 0, .int .u8 0, .int .u8 0, .int .u8 0, .int .u8 0, .int .u8 0, .int .u16 0, .int .u16 0, .nils], [], 72⟩ := ⟨by kernel_rfl, by kernel_rfl, by kernel_rfl⟩
theorem ty29 : tyChk Try.prog 29 ⟨.slice 3 1 true, 1, [.nils], [], 24⟩ := ⟨by kernel_rfl, by kernel_rfl, by kernel_rfl⟩
theorem ty30 : tyChk Try.prog 30 ⟨.other, 1, [.top], [], 8⟩ := ⟨by kernel_rfl, by kernel_rfl, by kernel_rfl⟩
theorem ty31 : tyChk Try.prog 31 ⟨.other, 1, [.top], [], 8⟩ := ⟨by kernel_rfl, by kernel_rfl, by kernel_rfl⟩
theorem ty32 : tyChk Try.prog 32 ⟨.slice 28 39 true, 1, [.nils], [], 24⟩ := ⟨by kernel_rfl, by kernel_rfl, by kernel_rfl⟩
theorem ty33 : tyChk Try.prog 33 ⟨.int .i64, 1, [.int .i64 0], [], 8⟩ := ⟨by kernel_rfl, by kernel_rfl, by kernel_rfl⟩
theorem ty35 : tyChk Try.prog 35 ⟨.other, 1, [.top], [], 8⟩ := ⟨by kernel_rfl, by kernel_rfl, by kernel_rfl⟩
theorem ty36 : tyChk Try.prog 36 ⟨.other, 1, [.top], [], 8⟩ := ⟨by kernel_rfl, by kernel_rfl, by kernel_rfl⟩
theorem ty37 : tyChk Try.prog 37 ⟨.other, 1, [.top], [], 8⟩ := ⟨by kernel_rfl, by kernel_rfl, by kernel_rfl⟩
theorem ty38 : tyChk Try.prog 38 ⟨.other, 1, [.top], [], 8⟩ := ⟨by kernel_rfl, by kernel_rfl, by kernel_rfl⟩
theorem ty39 : tyChk Try.prog 39 ⟨.other, 1, [.top], [], 8⟩ := ⟨by kernel_rfl, by kernel_rfl, by kernel_rfl⟩
theorem ty40 : tyChk Try.prog 40 ⟨.other, 1, [.top], [], 8⟩ := ⟨by kernel_rfl, by kernel_rfl, by kernel_rfl⟩
theorem ty41 : tyChk Try.prog 41 ⟨.other, 1, [.top], [], 8⟩ := ⟨by kernel_rfl, by kernel_rfl, by kernel_rfl⟩
theorem ty42 : tyChk Try.prog 42 ⟨.other, 1, [.top], [], 8⟩ := ⟨by kernel_rfl, by kernel_rfl, by kernel_rfl⟩
theorem ty43 : tyChk Try.prog 43 ⟨.other, 1, [.top], [], 8⟩ := ⟨by kernel_rfl, by kernel_rfl, by kernel_rfl⟩
theorem ty45 : tyChk Try.prog 45 ⟨.other, 1, [.top], [], 8⟩ := ⟨by kernel_rfl, by kernel_rfl, by kernel_rfl⟩
theorem ty46 : tyChk Try.prog 46 ⟨.other, 1, [.top], [], 8⟩ := ⟨by kernel_rfl, by kernel_rfl, by kernel_rfl⟩
theorem ty47 : tyChk Try.prog 47 ⟨.other, 1, [.top], [], 8⟩ := ⟨by kernel_rfl, by kernel_rfl, by kernel_rfl⟩
theorem ty48 : tyChk Try.prog 48 ⟨.slice 26 1 true, 1, [.nils], [], 24⟩ := ⟨by kernel_rfl, by kernel_rfl, by kernel_rfl⟩
theorem ty49 : tyChk Try.prog 49 ⟨.other, 1, [.top], [], 8⟩ := ⟨by kernel_rfl, by kernel_rfl, by kernel_rfl⟩
theorem ty50 : tyChk Try.prog 50 ⟨.other, 1, [.top], [], 8⟩ := ⟨by kernel_rfl, by kernel_rfl, by kernel_rfl⟩
theorem ty51 : tyChk Try.prog 51 ⟨.other, 1, [.top], [], 8⟩ := ⟨by kernel_rfl, by kernel_rfl, by kernel_rfl⟩
theorem ty52 : tyChk Try.prog 52 ⟨.int .u64, 1, [.int .u64 0], [], 8⟩ := ⟨by kernel_rfl, by kernel_rfl, by kernel_rfl⟩
theorem ty53 : tyChk Try.prog 53 ⟨.other, 1, [.top], [], 8⟩ := ⟨by kernel_rfl, by kernel_rfl, by kernel_rfl⟩
theorem ty54 : tyChk Try.prog 54 ⟨.other, 1, [.top], [], 8⟩ := ⟨by kernel_rfl, by kernel_rfl, by kernel_rfl⟩
theorem ty55 : tyChk Try.prog 55 ⟨.int .u16, 1, [.int .u16 0], [], 2⟩ := ⟨by kernel_rfl, by kernel_rfl, by kernel_rfl⟩
theorem ty56 : tyChk Try.prog 56 ⟨.int .u64, 1, [.int .u64 0], [], 8⟩ := ⟨by kernel_rfl, by kernel_rfl, by kernel_rfl⟩
theorem ty57 : tyChk Try.prog 57 ⟨.int .u64, 1, [.int .u64 0], [], 8⟩ := ⟨by kernel_rfl, by kernel_rfl, by kernel_rfl⟩
theorem ty58 : tyChk Try.prog 58 ⟨.struct [(0, 1, some false), (1, 1, some false), (2, 1, some false)], 3, [.int .i64 0, .int .u16 0, .int .u64 0], [false, false, false], 24⟩ := ⟨by kernel_rfl, by kernel_rfl, by kernel_rfl⟩
theorem ty59 : tyChk Try.prog 59 ⟨.struct [(0, 1, some false), (1, 1, some false), (2, 1, some false)], 3, [.int .i64 0, .int .u16 0, .int .u64 0], [false, false, false], 24⟩ := ⟨by kernel_rfl, by kernel_rfl, by kernel_rfl⟩
theorem ty60 : tyChk Try.prog 60 ⟨.slice 82 20 true, 1, [.nils], [], 24⟩ := ⟨by kernel_rfl, by kernel_rfl, by kernel_rfl⟩
theorem ty61 : tyChk Try.prog 61 ⟨.ptr 106, 1, [.nilp], [], 8⟩ := ⟨by kernel_rfl, by kernel_rfl, by kernel_rfl⟩
theorem ty62 : tyChk Try.prog 62 ⟨.other, 1, [.top], [], 8⟩ := ⟨by kernel_rfl, by kernel_rfl, by kernel_rfl⟩
theorem ty63 : tyChk Try.prog 63 ⟨.other, 1, [.top], [], 8⟩ := ⟨by kernel_rfl, by kernel_rfl, by kernel_rfl⟩
theorem ty66 : tyChk Try.prog 66 ⟨.other, 1, [.top], [], 8⟩ := ⟨by kernel_rfl, by kernel_rfl, by kernel_rfl⟩
theorem ty67 : tyChk Try.prog 67 ⟨.other, 1, [.top], [], 8⟩ := ⟨by kernel_rfl, by kernel_rfl, by kernel_rfl⟩
theorem ty68 : tyChk Try.prog 68 ⟨.other, 1, [.top], [], 8⟩ := ⟨by kernel_rfl, by kernel_rfl, by kernel_rfl⟩
theorem ty70 : tyChk Try.prog 70 ⟨.other, 1, [.top], [], 8⟩ := ⟨by kernel_rfl, by kernel_rfl, by kernel_rfl⟩
theorem ty71 : tyChk Try.prog 71 ⟨.other, 1, [.top], [], 8⟩ := ⟨by kernel_rfl, by kernel_rfl, by kernel_rfl⟩
theorem ty72 : tyChk Try.prog 72 ⟨.struct [(0, 16, some true), (16, 1, some false)], 17, [.int .u8 0, .int .u8 0, .int .u8 0, .int .u8 0, .int .u8 0, .int .u8 0, .int .u8 0, .int .u8 0, .int .u8 0, .int .u8 0, .int .u8 0, .int .u8 0, .int .u8 0, .int .u8 0, .int .u8 0, .int .u8 0, .int .i64 0], [false, false, false, false, false, false, false, false, false, false, false, false, false, false, false, false, false], 24⟩ := ⟨by kernel_rfl, by kernel_rfl, by kernel_rfl⟩
theorem ty73 : tyChk Try.prog 73 ⟨.struct [(0, 16, some true), (16, 1, some false)], 17, [.int .u8 0, .int .u8 0, .int .u8 0, .int .u8 0, .int .u8 0, .int .u8 0, .int .u8 0, .int .u8 0, .int .u8 0, .int .u8 0, .int .u8 0, .int .u8 0, .int .u8 0, .int .u8 0, .int .u8 0, .int .u8 0, .int .i64 0], [false, false, false, false, false, false, false, false, false, false, false, false, false, false, false, false, false], 24⟩ := ⟨by kernel_rfl, by kernel_rfl, by kernel_rfl⟩
theorem ty76 : tyChk Try.prog 76 ⟨.other, 1, [.top], [], 8⟩ := ⟨by kernel_rfl, by kernel_rfl, by kernel_rfl⟩
theorem ty79 : tyChk Try.prog 79 ⟨.other, 1, [.top], [], 8⟩ := ⟨by kernel_rfl, by kernel_rfl, by kernel_rfl⟩
theorem ty81 : tyChk Try.prog 81 ⟨.struct [(0, 1, some false), (1, 17, some true), (18, 1, some false), (19, 1, some false)], 20, [.int .i64 0, .int .u8 0, .int .u8 0, .int .u8 0, .int .u8 0, .int .u8 0, .int .u8 0, .int .u8 0, .int .u8 0, .int .u8 0, .int .u8 0, .int .u8 0, .int .u8 0, .int .u8 0, .int .u8 0, .int .u8 0, .int .u8 0, .int .i64 0, .bool false, .int .i64 0], [false, false, false, false, false, false, false, false, false, false, false, false, false, false, false, false, false, false, true, false], 48⟩ := ⟨by kernel_rfl, by kernel_rfl, by kernel_rfl⟩
theorem ty82 : tyChk Try.prog 82 ⟨.struct [(0, 1, some false), (1, 17, some true), (18, 1, some false), (19, 1, some false)], 20, [.int .i64 0, .int .u8 0, .int .u8 0, .int .u8 0, .int .u8 0, .int .u8 0, .int .u8 0, .int .u8 0, .int .u8 0, .int .u8 0, .int .u8 0, .int .u8 0, .int .u8 0, .int .u8 0, .int .u8 0, .int .u8 0, .int .u8 0, .int .i64 0, .bool false, .int .i64 0], [false, false, false, false, false, false, false, false, false, false, false, false, false, false, false, false, false, false, true, false], 48⟩ := ⟨by kernel_rfl, by kernel_rfl, by kernel_rfl⟩
theorem ty85 : tyChk Try.prog 85 ⟨.other, 1, [.top], [], 8⟩ := ⟨by kernel_rfl, by kernel_rfl, by kernel_rfl⟩
theorem ty87 : tyChk Try.prog 87 ⟨.other, 1, [.top], [], 8⟩ := ⟨by kernel_rfl, by kernel_rfl, by kernel_rfl⟩
theorem ty88 : tyChk Try.prog 88 ⟨.other, 1, [.top], [], 8⟩ := ⟨by kernel_rfl, by kernel_rfl, by kernel_rfl⟩
theorem ty89 : tyChk Try.prog 89 ⟨.other, 1, [.top], [], 8⟩ := ⟨by kernel_rfl, by kernel_rfl, by kernel_rfl⟩
theorem ty90 : tyChk Try.prog 90 ⟨.other, 1, [.top], [], 8⟩ := ⟨by kernel_rfl, by kernel_rfl, by kernel_rfl⟩
theorem ty91 : tyChk Try.prog 91 ⟨.other, 1, [.top], [], 8⟩ := ⟨by kernel_rfl, by kernel_rfl, by kernel_rfl⟩
theorem ty94 : tyChk Try.prog 94 ⟨.other, 1, [.top], [], 8⟩ := ⟨by kernel_rfl, by kernel_rfl, by kernel_rfl⟩
theorem ty95 : tyChk Try.prog 95 ⟨.other, 1, [.top], [], 8⟩ := ⟨by kernel_rfl, by kernel_rfl, by kernel_rfl⟩
theorem ty99 : tyChk Try.prog 99 ⟨.other, 1, [.top], [], 8⟩ := ⟨by kernel_rfl, by kernel_rfl, by kernel_rfl⟩
theorem ty100 : tyChk Try.prog 100 ⟨.other, 1, [.top], [], 8⟩ := ⟨by kernel_rfl, by kernel_rfl, by kernel_rfl⟩
theorem ty101 : tyChk Try.prog 101 ⟨.other, 1, [.top], [], 8⟩ := ⟨by kernel_rfl, by kernel_rfl, by kernel_rfl⟩
theorem ty102 : tyChk Try.prog 102 ⟨.other, 1, [.top], [], 8⟩ := ⟨by kernel_rfl, by kernel_rfl, by kernel_rfl⟩
theorem ty104 : tyChk Try.prog 104 ⟨.other, 1, [.top], [], 8⟩ := ⟨by kernel_rfl, by kernel_rfl, by kernel_rfl⟩
theorem ty105 : tyChk Try.prog 105 ⟨.struct [(0, 1, some false), (1, 1, some false)], 2, [.nils, .int .i64 0], [], 32⟩ := ⟨by kernel_rfl, by kernel_rfl, by kernel_rfl⟩
theorem ty106 : tyChk Try.prog 106 ⟨.struct [(0, 1, some false), (1, 1, some false)], 2, [.nils, .int .i64 0], [], 32⟩ := ⟨by kernel_rfl, by kernel_rfl, by kernel_rfl⟩
theorem ty107 : tyChk Try.prog 107 ⟨.other, 1, [.top], [], 8⟩ := ⟨by kernel_rfl, by kernel_rfl, by kernel_rfl⟩
theorem ty108 : tyChk Try.prog 108 ⟨.other, 1, [.top], [], 8⟩ := ⟨by kernel_rfl, by kernel_rfl, by kernel_rfl⟩
theorem ty112 : tyChk Try.prog 112 ⟨.other, 1, [.top], [], 8⟩ := ⟨by kernel_rfl, by kernel_rfl, by kernel_rfl⟩
theorem ty113 : tyChk Try.prog 113 ⟨.struct [(0, 1, some false), (1, 1, some false), (2, 1, some false), (3, 1, some false)], 4, [.bool false, .int .i64 0, .int .i64 0, .nils], [], 48⟩ := ⟨by kernel_rfl, by kernel_rfl, by kernel_rfl⟩
theorem ty114 : tyChk Try.prog 114 ⟨.struct [(0, 1, some false), (1, 1, some false), (2, 1, some false), (3, 1, some false)], 4, [.bool false, .int .i64 0, .int .i64 0, .nils], [], 48⟩ := ⟨by kernel_rfl, by kernel_rfl, by kernel_rfl⟩
theorem ty115 : tyChk Try.prog 115 ⟨.other, 1, [.top], [], 8⟩ := ⟨by kernel_rfl, by kernel_rfl, by kernel_rfl⟩
theorem ty117 : tyChk Try.prog 117 ⟨.other, 1, [.top], [], 8⟩ := ⟨by kernel_rfl, by kernel_rfl, by kernel_rfl⟩
theorem ty118 : tyChk Try.prog 118 ⟨.slice 56 1 true, 1, [.nils], [], 24⟩ := ⟨by kernel_rfl, by kernel_rfl, by kernel_rfl⟩
theorem ty119 : tyChk Try.prog 119 ⟨.other, 1, [.top], [], 8⟩ := ⟨by kernel_rfl, by kernel_rfl, by kernel_rfl⟩
theorem ty121 : tyChk Try.prog 121 ⟨.other, 1, [.top], [], 8⟩ := ⟨by kernel_rfl, by kernel_rfl, by kernel_rfl⟩
theorem ty124 : tyChk Try.prog 124 ⟨.slice 128 34 true, 1, [.nils], [], 24⟩ := ⟨by kernel_rfl, by kernel_rfl, by kernel_rfl⟩
theorem ty126 : tyChk Try.prog 126 ⟨.other, 1, [.top], [], 8⟩ := ⟨by kernel_rfl, by kernel_rfl, by kernel_rfl⟩
theorem ty128 : tyChk Try.prog 128 ⟨.struct [(0, 16, some true), (16, 16, some true), (32, 1, some false), (33, 1, some false)], 34, [.int .u8 0, .int .u8 0, .int .u8 0, .int .u8 0, .int .u8 0, .int .u8 0, .int .u8 0, .int .u8 0, .int .u8 0, .int .u8 0, .int .u8 0, .int .u8 0, .int .u8 0, .int .u8 0, .int .u8 0, .int .u8 0, .int .u8 0, .int .u8 0, .int .u8 0, .int .u8 0, .int .u8 0, .int .u8 0, .int .u8 0, .int .u8 0, .int .u8 0, .int .u8 0, .int .u8 0, .int .u8 0, .int .u8 0, .int .u8 0, .int .u8 0, .int .u8 0, .int .i64 0, .int .i64 0], [false, false, false, false, false, false, false, false, false, false, false, false, false, false, false, false, false, false, false, false, false, false, false, false, false, false, false, false, false, false, false, false, false, false], 48⟩ := ⟨by kernel_rfl, by kernel_rfl, by kernel_rfl⟩
theorem ty130 : tyChk Try.prog 130 ⟨.arr 5 5 1 (some false), 5, [.int .u8 0, .int .u8 0, .int .u8 0, .int .u8 0, .int .u8 0], [false, false, false, false, false], 5⟩ := ⟨by kernel_rfl, by kernel_rfl, by kernel_rfl⟩
theorem ty133 : tyChk Try.prog 133 ⟨.struct [(0, 1, some false), (1, 1, some false), (2, 1, some false), (3, 1, some false)], 4, [.bool false, .int .i64 0, .int .i64 0, .nils], [], 48⟩ := ⟨by kernel_rfl, by kernel_rfl, by kernel_rfl⟩
theorem ty136 : tyChk Try.prog 136 ⟨.ptr 138, 1, [.nilp], [], 8⟩ := ⟨by kernel_rfl, by kernel_rfl, by kernel_rfl⟩
theorem ty137 : tyChk Try.prog 137 ⟨.struct [(0, 1, some false), (1, 1, some false)], 2, [.nils, .int .i64 0], [], 32⟩ := ⟨by kernel_rfl, by kernel_rfl, by kernel_rfl⟩
theorem ty138 : tyChk Try.prog 138 ⟨.struct [(0, 1, some false), (1, 1, some false)], 2, [.nils, .int .i64 0], [], 32⟩ := ⟨by kernel_rfl, by kernel_rfl, by kernel_rfl⟩
theorem ty142 : tyChk Try.prog 142 ⟨.other, 1, [.top], [], 8⟩ := ⟨by kernel_rfl, by kernel_rfl, by kernel_rfl⟩
theorem ty145 : tyChk Try.prog 145 ⟨.other, 1, [.top], [], 8⟩ := ⟨by kernel_rfl, by kernel_rfl, by kernel_rfl⟩
theorem ty149 : tyChk Try.prog 149 ⟨.slice 151 2 true, 1, [.nils], [], 24⟩ := ⟨by kernel_rfl, by kernel_rfl, by kernel_rfl⟩
theorem ty150 : tyChk Try.prog 150 ⟨.struct [(0, 1, some false), (1, 1, some false)], 2, [.int .u64 0, .int .i64 0], [false, false], 16⟩ := ⟨by kernel_rfl, by kernel_rfl, by kernel_rfl⟩
theorem ty151 : tyChk Try.prog 151 ⟨.struct [(0, 1, some false), (1, 1, some false)], 2, [.int .u64 0, .int .i64 0], [false, false], 16⟩ := ⟨by kernel_rfl, by kernel_rfl, by kernel_rfl⟩
theorem ty153 : tyChk Try.prog 153 ⟨.other, 1, [.top], [], 8⟩ := ⟨by kernel_rfl, by kernel_rfl, by kernel_rfl⟩
theorem ty154 : tyChk Try.prog 154 ⟨.arr 2 5 1 (some false), 2, [.int .u8 0, .int .u8 0], [false, false], 2⟩ := ⟨by kernel_rfl, by kernel_rfl, by kernel_rfl⟩
theorem ty160 : tyChk Try.prog 160 ⟨.other, 1, [.top], [], 8⟩ := ⟨by kernel_rfl, by kernel_rfl, by kernel_rfl⟩
theorem ty163 : tyChk Try.prog 163 ⟨.other, 1, [.top], [], 8⟩ := ⟨by kernel_rfl, by kernel_rfl, by kernel_rfl⟩
theorem ty168 : tyChk Try.prog 168 ⟨.other, 1, [.top], [], 8⟩ := ⟨by kernel_rfl, by kernel_rfl, by kernel_rfl⟩
theorem ty169 : tyChk Try.prog 169 ⟨.ptr 171, 1, [.nilp], [], 8⟩ := ⟨by kernel_rfl, by kernel_rfl, by kernel_rfl⟩
theorem ty171 : tyChk Try.prog 171 ⟨.struct [(0, 1, some false), (1, 1, some false), (2, 1, some false)], 3, [.nils, .int .i64 0, .int .i64 0], [], 40⟩ := ⟨by kernel_rfl, by kernel_rfl, by kernel_rfl⟩
theorem ty174 : tyChk Try.prog 174 ⟨.other, 1, [.top], [], 8⟩ := ⟨by kernel_rfl, by kernel_rfl, by kernel_rfl⟩
theorem ty178 : tyChk Try.prog 178 ⟨.other, 1, [.top], [], 8⟩ := ⟨by kernel_rfl, by kernel_rfl, by kernel_rfl⟩
theorem ty179 : tyChk Try.prog 179 ⟨.arr 4 56 1 (some false), 4, [.int .u64 0, .int .u64 0, .int .u64 0, .int .u64 0], [false, false, false, false], 32⟩ := ⟨by kernel_rfl, by kernel_rfl, by kernel_rfl⟩
theorem ty181 : tyChk Try.prog 181 ⟨.other, 1, [.top], [], 8⟩ := ⟨by kernel_rfl, by kernel_rfl, by kernel_rfl⟩
theorem ty182 : tyChk Try.prog 182 ⟨.arr 4 3 1 (some false), 4, [.int .i64 0, .int .i64 0, .int .i64 0, .int .i64 0], [false, false, false, false], 32⟩ := ⟨by kernel_rfl, by kernel_rfl, by kernel_rfl⟩
theorem ty184 : tyChk Try.prog 184 ⟨.other, 1, [.top], [], 8⟩ := ⟨by kernel_rfl, by kernel_rfl, by kernel_rfl⟩
theorem ty190 : tyChk Try.prog 190 ⟨.struct [(0, 1, some false), (1, 1, some false), (2, 1, some false), (3, 1, some false)], 4, [.nilp, .nilp, .nilp, .top], [], 40⟩ := ⟨by kernel_rfl, by kernel_rfl, by kernel_rfl⟩
theorem ty193 : tyChk Try.prog 193 ⟨.struct [(0, 0, some true)], 0, [], [], 0⟩ := ⟨by kernel_rfl, by kernel_rfl, by kernel_rfl⟩
theorem ty195 : tyChk Try.prog 195 ⟨.int .u8, 1, [.int .u8 0], [], 1⟩ := ⟨by kernel_rfl, by kernel_rfl, by kernel_rfl⟩
theorem tysOk : TysOk Try.prog T := (show TysAll Try.prog tyO from ⟨ty1, ty2, ty3, ty4, ty5, ty6, ty7, ty8, ty12, ty13, ty14, ty15, ty16, ty17, ty18, ty19, ty21, ty22, ty23, ty24, ty25, ty26, ty27, ty28, ty29, ty30, ty31, ty32, ty33, ty35, ty36, ty37, ty38, ty39, ty40, ty41, ty42, ty43, ty45, ty46, ty47, ty48, ty49, ty50, ty51, ty52, ty53, ty54, ty55, ty56, ty57, ty58, ty59, ty60, ty61, ty62, ty63, ty66, ty67, ty68, ty70, ty71, ty72, ty73, ty76, ty79, ty81, ty82, ty85, ty87, ty88, ty89, ty90, ty91, ty94, ty95, ty99, ty100, ty101, ty102, ty104, ty105, ty106, ty107, ty108, ty112, ty113, ty114, ty115, ty117, ty118, ty119, ty121, ty124, ty126, ty128, ty130, ty133, ty136, ty137, ty138, ty142, ty145, ty149, ty150, ty151, ty153, ty154, ty160, ty163, ty168, ty169, ty171, ty174, ty178, ty179, ty181, ty182, ty184, ty190, ty193, ty195, trivial⟩).at
theorem mixed : Try.prog.follows .mixedOrders = true := by kernel_rfl
end Go.Proofs.Ytjknkfjhcapocaa.AX
namespace Go.Proofs.Ytjknkfjhcapocaa.AX
open Go.RowKit
def LE0 : CsL := []
theorem LE0_ok : AllOk Try.prog LE0 := trivial
theorem eqFrom_iff {f g : Nat -> CV} : ∀ {n off : Nat}, eqFrom f g n off = true ↔ ∀ i, i < n -> eqCell (f (off + i)) (g (off + i)) = true := by
 intro n
 induction n with
 | zero => intro off; simp [eqFrom]
 | succ n ih =>
   intro off
   simp only [eqFrom, Bool.and_eq_true, ih]
   constructor
   . rintro ⟨h1, h2⟩ i hi
     cases i with
     | zero => exact h1
     | succ i => have := h2 i (by omega); rw [show off + 1 + i = off + (i + 1) by omega] at this; exact this
   . intro h
     refine ⟨h 0 (by omega), fun i hi => ?_⟩
     have := h (i + 1) (by omega)
     rw [show off + 1 + i = off + (i + 1) by omega]; exact this
theorem leC_eq {c : Wc} {x y z : CV} (h : LeC c x y) (e : y = z) : LeC c x z := e ▸ h
theorem drop_at {α : Type} [Inhabited α] {l : List α} {i : Nat} (h : i < l.length) : l.drop i = l.getD i default :: l.drop (i + 1) := by
 rw [List.drop_eq_getElem_cons h, List.getD_eq_getElem?_getD, List.getElem?_eq_getElem h]
 rfl
theorem blt_self (n : Nat) : Nat.blt n n = false := by
 cases hb : Nat.blt n n with
 | false => rfl
 | true => have := Nat.le_of_ble_eq_true hb; omega
theorem leN_snoc {c : Wc} {t : TypeId} {α : Type} [Inhabited α] {E : Elem α} {L : List α} {x : α} {n : Nat} {f : Nat -> Nat -> CV} (hn : n = L.length + 1) (h1 : ∀ i, i < L.length -> ∀ j, j < E.sz -> LeC c (f i j) (rowF E L i j)) (h2 : allLt E.sz fun j => LeC c (f L.length j) (E.cell x j)) :
 LeN c ⟨t, n, E.sz, false, f⟩ (ents E t (L ++ [x])) := by
 refine ⟨rfl, by simp [ents, hn], rfl, rfl, fun i hi j hj => ?_⟩
 have hi' : i < n := hi
 show LeC c (f i j) (E.cell ((L ++ [x]).getD i default) j)
 by_cases h : i < L.length
 . have : (L ++ [x]).getD i default = L.getD i default := by
    simp [List.getD_eq_getElem?_getD, List.getElem?_append_left h]
   rw [this]
   exact h1 i h j hj
 . have hi2 : i = L.length := by omega
   subst hi2
   have : (L ++ [x]).getD L.length default = x := by simp [List.getD_eq_getElem?_getD]
   rw [this]
   exact allLt_at h2 j hj
theorem leC_row_fin {c : Wc} {k : Nat} {t : TypeId} {α : Type} [Inhabited α] {E : Elem α} {L : List α} (he : hget c.H k = some (ents E t L)) (hd : c.dead k = true) : LeC c (.os k 0 L.length) (slR E L) :=
 leC_os_sl he hd rfl rfl (by simp [ents]) fun q _ j _ => by rw [Nat.zero_add]; exact (E.flat _ _).le
theorem leN_ents {c : Wc} {t : TypeId} {α : Type} [Inhabited α] {E : Elem α} {L : List α} : LeN c (ents E t L) (ents E t L) := leN_row rfl fun _ _ _ _ => (E.flat _ _).le
theorem beq_of {a b : Nat} (h : a = b) : Nat.beq a b = true := by subst h; simp
theorem beq_ne {a b : Nat} (h : a ≠ b) : Nat.beq a b = false := by
 cases hb : Nat.beq a b with
 | false => rfl
 | true => exact absurd (Nat.eq_of_beq_eq_true hb) h
theorem leC_cell {c : Wc} {α : Type} {E : Elem α} {a b : α} {j : Nat} (h : a = b) : LeC c (E.cell a j) (E.cell b j) := by rw [h]; exact (E.flat _ _).le
theorem blt_lt {a b : Nat} (h : a < b) : Nat.blt a b = true := Nat.ble_eq_true_of_le h
theorem ovrO {f g : Nat -> CV} {off n j : Nat} (h : j < off \/ off + n <= j) : ovr f off n g j = f j := by
 unfold ovr; rw [rng_out h]; rfl
theorem ovrI {f g : Nat -> CV} {off n j : Nat} (h : off <= j /\ j < off + n) : ovr f off n g j = g (j - off) := by
 unfold ovr; rw [rng_in h]; rfl
theorem blt_zero (n : Nat) : Nat.blt n 0 = false := rfl
def tapeN (n : Nat) (f : Nat -> Nat -> CV) (q : Int) : Ent := ⟨106, 1, 2, true, fun _ j => bif Nat.beq j 0 then .sl true n 1 f else .int .i64 q⟩
abbrev rI (l : List Int) : Nat -> Nat -> CV := rowF (eI .i64) l
def rngL (l : List Int) : Prop := ∀ i, -9223372036854775808 <= l.getD i default /\ l.getD i default <= 9223372036854775807
structure TapeOk (n : Nat) (f : Nat -> Nat -> CV) (q : Int) : Prop where
 len : n <= 400
 lo : 0 <= q
 hi : q <= n
 row : ∃ l : List Int, f = rI l /\ rngL l
theorem TapeOk.at {n : Nat} {f : Nat -> Nat -> CV} {q q' : Int} (h : TapeOk n f q) (h1 : 0 <= q') (h2 : q' <= n) : TapeOk n f q' := ⟨h.len, h1, h2, h.row⟩
theorem tapeN_le {c : Wc} {n : Nat} {l : List Int} {q : Int} : LeN c (tapeN n (rI l) q) (tapeN n (rI l) q) :=
 leN_var ⟨⟨trivial, leC_sl (fun _ => rfl) rfl rfl fun i _ j _ => leC_int rfl⟩, leC_int rfl⟩
theorem TapeOk.le {c : Wc} {n : Nat} {f : Nat -> Nat -> CV} {q : Int} (h : TapeOk n f q) : LeN c (tapeN n f q) (tapeN n f q) := by
 obtain ⟨_, _, _, l, rfl, _⟩ := h
 exact tapeN_le
theorem tapeN_nf {n : Nat} {l : List Int} {q : Int} : ∀ i, i < (tapeN n (rI l) q).n -> ∀ j, j < (tapeN n (rI l) q).sz -> NF ((tapeN n (rI l) q).f i j) := by
 intro i _ j _
 show NF (bif Nat.beq j 0 then _ else _)
 cases Nat.beq j 0 with
 | true => exact nf_sl fun i _ j _ => nf_int
 | false => exact nf_int
theorem tape_congr {P : Program} {fid : FuncId} {rest : List FV} {n : Nat} {f : Nat -> Nat -> CV} {q : Int} {g : Nat -> Nat -> CV} {val : FV} {e' : Ent} (h0 : g 0 0 = .sl true n 1 f) (h1 : g 0 1 = .int .i64 q) (h : MethOk P fid rest (tapeN n f q) val e') : MethOk P fid rest ⟨106, 1, 2, true, g⟩ val e' := by
 intro X w x vals a1 a2 a3 hent hrel
 refine h X w x vals a1 a2 a3 ?_ hrel
 refine hent.map rfl rfl rfl rfl rfl (fun _ _ => rfl) fun i hi j hj u hu => ?_
 have hi' : i < 1 := hi
 have hj' : j < 2 := hj
 have e0 : i = 0 := by omega
 subst e0
 rcases (show j = 0 \/ j = 1 by omega) with rfl | rfl
 . have t : (CV.sl true n 1 f).rel (fun _ => none) X (fun b => b = x.b) w u := by rw [<- h0]; exact hu
   exact t
 . have t : (CV.int .i64 q).rel (fun _ => none) X (fun b => b = x.b) w u := by rw [<- h1]; exact hu
   exact t
def tapeE {α R : Type} (A : AC α) (p : α -> Prop) (S : α -> R -> Prop) (enc : R -> FV) : Entry := fun args H _ _ =>
 match args with
 | .e (.c (.ptr k 0 0 _)) :: rest =>
   match hget H k with
   | some ⟨t, en, es, v, g⟩ =>
     match g 0 0, g 0 1 with
     | .sl true n s f, .int .i64 q =>
       match A.dec H rest with
       | some (a, pq, rd) => bif Nat.beq t 106 && Nat.beq en 1 && Nat.beq es 2 && v && Nat.beq s 1 && !(rd.any (Nat.beq k)) then
          some fun K => pAnd pq ((TapeOk n f q /\ p a) /\ ∀ r, S a r -> ∀ q', TapeOk n f q' -> K (enc r) [(k, some (tapeN n f q'))] (k :: rd)) else none
       | none => none
     | _, _ => none
   | none => none
 | _ => none
theorem tapeE_ok {α R : Type} {A : AC α} {p : α -> Prop} {S : α -> R -> Prop} {enc : R -> FV} {P : Program} {f : FuncId} (hb : hasBody P f)
 (h : ∀ n l q a, TapeOk n (rI l) q -> p a -> ∃ r q', S a r /\ TapeOk n (rI l) q' /\ MethOk P f (A.enc a) (tapeN n (rI l) q) (enc r) (tapeN n (rI l) q')) : EntOk P f (tapeE A p S enc) := by
 refine ⟨fun args H nm wd q _ hq K hK => ?_, fun args H nm wd q hq K K' hKK hK => ?_⟩
 . unfold tapeE at hq
   split at hq
   . rename_i k s rest
     split at hq
     . rename_i t en es v g he
       split at hq
       . rename_i n s f q0 hg0 hg1
         split at hq
         . rename_i a pr rd hd
           obtain ⟨hc, hq⟩ := cond_some hq
           subst hq
           simp only [Bool.and_eq_true, Bool.not_eq_true'] at hc
           obtain ⟨⟨⟨⟨⟨c1, c2⟩, c3⟩, c4⟩, c5⟩, c6⟩ := hc
           have c1 := Nat.eq_of_beq_eq_true c1
           have c2 := Nat.eq_of_beq_eq_true c2
           have c3 := Nat.eq_of_beq_eq_true c3
           have c5 := Nat.eq_of_beq_eq_true c5
           subst c1 c2 c3 c4 c5
           have hkr : k ∉ rd := fun hm => by
            have : rd.any (Nat.beq k) = true := List.any_eq_true.2 ⟨k, hm, by simp⟩
            rw [c6] at this; cases this
           obtain ⟨h1, ⟨h2, h2'⟩, h3⟩ := pAnd_iff.1 hK
           obtain ⟨l, rfl, hl⟩ := h2.row
           obtain ⟨r, q', g1, g2, g3⟩ := h n l q0 a h2 h2'
           refine ⟨_, _, _, callR_meth hb he rfl hkr ?_ (fun H' hh => A.sound H H' rest a pr rd hd h1 hh) (tape_congr hg0 hg1 g3) rfl, h3 _ g1 _ g2⟩
           intro i hi j hj
           have hi' : i < 1 := hi
           have hj' : j < 2 := hj
           have e0 : i = 0 := by omega
           subst e0
           rcases (show j = 0 \/ j = 1 by omega) with rfl | rfl
           . show NF (g 0 0); rw [hg0]; exact nf_sl fun i _ j _ => nf_int
           . show NF (g 0 1); rw [hg1]; exact nf_int
         . cases hq
       . cases hq
     . cases hq
   . cases hq
 . unfold tapeE at hq
   split at hq
   . split at hq
     . split at hq
       . split at hq
         . obtain ⟨hc, hq⟩ := cond_some hq
           subst hq
           obtain ⟨h1, h2, h3⟩ := pAnd_iff.1 hK
           exact pAnd_iff.2 ⟨h1, h2, fun r hr q' hq' => hKK _ _ _ (h3 r hr q' hq')⟩
         . cases hq
       . cases hq
     . cases hq
   . cases hq
section
variable {P : Program} {T : Tys} {Q : Qs} {wd : Nat}
theorem tape_intro (hwd : 0 < wd) (hT : TysOk P T) (hQ : QsOk P Q) (hm : P.follows .mixedOrders = true) {f : FuncId} {fn : Func} {c : Code} (hf : P.funcs[f]? = some fn) (hb : fn.body = some c) (rest : List FV) (hn : rest.length + 1 <= fn.ntmps) {n : Nat} {l : List Int} {q : Int} {R : Type} {S : R -> Prop} {enc : R -> FV} (hnf : ∀ r, NFF (enc r))
 (h : exec T Q wd fn.ntmps 1 c (argFr (.e (.c (.ptr 0 0 0 false)) :: rest) 0) [(0, some (tapeN n (rI l) q))] 1 (endH T fn.results.toList fun x H _ => ∃ r : R × Int, (S r.1 /\ TapeOk n (rI l) r.2) /\ FinM (enc r.1) (tapeN n (rI l) r.2) x H)) :
 ∃ r q', S r /\ TapeOk n (rI l) q' /\ MethOk P f rest (tapeN n (rI l) q) (enc r) (tapeN n (rI l) q') := by
 obtain ⟨⟨r, q'⟩, h1, h2⟩ := exec_some (α := R × Int) (post := fun a x H _ => FinM (enc a.1) (tapeN n (rI l) a.2) x H) (S := fun a => S a.1 /\ TapeOk n (rI l) a.2) hwd hQ h
 exact ⟨r, q', h1.1, h1.2, meth_intro hwd hT (QR_ok P) hm hf hb rest hn (hnf r) tapeN_nf h2⟩
end
theorem nff_int {k : IntKind} {a : Int} : NFF (.e (.c (.int k a))) := fun _ _ _ _ _ _ h => h
theorem nff_bool {a : Bool} : NFF (.e (.c (.bool a))) := fun _ _ _ _ _ _ h => h
theorem nff_c {x : CV} (h : NF x) : NFF (.e (.c x)) := h
theorem nff_elem {α : Type} (E : Elem α) (a : α) : NFF (.e (.agg E.sz (E.cell a))) := by
 rintro r r' X W w v ⟨cs, rfl, h1, h2⟩
 exact ⟨cs, rfl, h1, fun i u hu => (E.flat _ _).nf _ _ _ _ _ _ (h2 i u hu)⟩
theorem tmod_facts (x m : Int) (h : 1 <= m) : -m < x.tmod m /\ x.tmod m < m := by
 have h1 := Int.tmod_lt_of_pos x (show 0 < m by omega)
 have h2 := Int.tmod_lt_of_pos (-x) (show 0 < m by omega)
 rw [Int.neg_tmod] at h2
 omega
theorem next_ok (n : Nat) (l : List Int) (q m : Int) (ht : TapeOk n (rI l) q) (h1 : 1 <= m) (h2 : m <= 4611686018427387904) :
 ∃ r q', (0 <= r /\ r < m) /\ TapeOk n (rI l) q' /\ MethOk Try.prog 37 [(cI .i64).enc m] (tapeN n (rI l) q) ((cI .i64).enc r) (tapeN n (rI l) q') := by
 refine tape_intro (wd := 1) (Q := mkQ LE0) (by decide) tysOk (q_of LE0_ok) mixed Try.func37 rfl _ (by show 1 + 1 <= _; decide) (fun _ => nff_int) ?_
 have a1 := ht.len
 have a2 := ht.lo
 have a3 := ht.hi
 have a5 := tmod_facts (l.getD q.toNat default) m h1
 repeat' (first | (apply And.intro <;> intro hc <;> (first | exact Bool.noConfusion hc | (simp only [zb0] at hc) | skip)) | (refine And.intro zp0 ?_) | (apply And.intro) | (intro s hs))
 . exact ⟨(0, q), ⟨⟨by omega, by omega⟩, ht⟩, ⟨leF_int rfl, tapeN_le⟩⟩
 . refine ⟨((l.getD q.toNat default).tmod m + m, q + 1), ⟨⟨by omega, by omega⟩, ht.at (by omega) (by omega)⟩, ⟨leF_int ?_, leN_var ⟨⟨trivial, leC_sl (fun _ => rfl) rfl rfl fun i _ j _ => leC_int rfl⟩, leC_int ?_⟩⟩⟩
   . exact IntWalk.i64_in _ (by omega)
   . exact IntWalk.i64_in _ (by omega)
 . refine ⟨((l.getD q.toNat default).tmod m, q + 1), ⟨⟨by omega, by omega⟩, ht.at (by omega) (by omega)⟩, ⟨leF_int ?_, leN_var ⟨⟨trivial, leC_sl (fun _ => rfl) rfl rfl fun i _ j _ => leC_int rfl⟩, leC_int ?_⟩⟩⟩
   . rfl
   . exact IntWalk.i64_in _ (by omega)
def modF (v n : Int) : Int := if v.tmod n < 0 then v.tmod n + n else v.tmod n
theorem modF_lt {v n : Int} (h : 1 <= n) : 0 <= modF v n /\ modF v n < n := by
 have := tmod_facts v n h
 unfold modF
 split <;> omega
theorem mod_ok (v n : Int) (h1 : 1 <= n) (h2 : n <= 4611686018427387904) : PureOk Try.prog 18 [(cI .i64).enc v, (cI .i64).enc n] ((cI .i64).enc (modF v n)) := by
 have a5 := tmod_facts v n h1
 refine pure_intro (wd := 1) (Q := mkQ LE0) (by decide) tysOk (q_of LE0_ok) mixed Try.func18 rfl _ (by show 2 <= _; decide) _ ?_
 repeat' (first | (apply And.intro <;> intro hc <;> (first | exact Bool.noConfusion hc | (simp only [zb0] at hc) | skip)) | (refine And.intro zp0 ?_) | (apply And.intro) | (intro s hs))
 . refine Done.mk (leF_int ?_)
   rw [modF, if_pos hc]
   exact IntWalk.i64_in _ (by omega)
 . refine Done.mk (leF_int ?_)
   rw [modF, if_neg hc]
abbrev nextE : Entry := tapeE (AC.cons (cI .i64) AC.nil) (fun a => 1 <= a.1 /\ a.1 <= 4611686018427387904) (fun a (r : Int) => 0 <= r /\ r < a.1) (cI .i64).enc
def LT0 : CsL := (37, some nextE) :: (18, some (pureE (AC.cons (cI .i64) (AC.cons (cI .i64) AC.nil)) (fun a => 1 <= a.2.1 /\ a.2.1 <= 4611686018427387904) (fun a => modF a.1 a.2.1) (cI .i64).enc)) :: []
theorem LT0_ok : AllOk Try.prog LT0 := ⟨tapeE_ok ⟨_, Try.func37, rfl, by kernel_rfl⟩ fun n l q a ht hp => next_ok n l q a.1 ht hp.1 hp.2, pureE_ok ⟨_, Try.func18, rfl, by kernel_rfl⟩ fun a h => mod_ok a.1 a.2.1 h.1 h.2, trivial⟩
theorem bool_ok (n : Nat) (l : List Int) (q m : Int) (ht : TapeOk n (rI l) q) (h1 : 1 <= m) (h2 : m <= 4611686018427387904) :
 ∃ (r : Bool) (q' : Int), True /\ TapeOk n (rI l) q' /\ MethOk Try.prog 75 [(cI .i64).enc m] (tapeN n (rI l) q) (cB.enc r) (tapeN n (rI l) q') := by
 refine tape_intro (wd := 1) (Q := mkQ LT0) (by decide) tysOk (q_of LT0_ok) mixed Try.func75 rfl _ (by show 1 + 1 <= _; decide) (fun _ => nff_bool) ?_
 repeat' (first | (apply And.intro <;> intro hc <;> (first | exact Bool.noConfusion hc | (simp only [zb0] at hc) | skip)) | (refine And.intro zp1 ?_) | (apply And.intro) | (intro s hs))
 . exact ⟨(_, _), ⟨trivial, by assumption⟩, ⟨leF_bool rfl, tapeN_le⟩⟩
theorem bo_shI {H : Hp} {n : Nat} {l : List Int} : Bo H [] (.e (.c (.sl true n 1 (rI l)))) (.e (.c (.sl true n 1 (rI l)))) := by
 rintro cx r w v st ⟨a, cap, rfl, h1, h2⟩
 refine ⟨a, cap, rfl, h1, fun h0 => ?_⟩
 obtain ⟨ad, rfl, hs, ho, hX, hlt, hc⟩ := h2 h0
 refine ⟨ad, rfl, hs, fun ⟨k, e, x, q1, q2, q3, _⟩ => ho ⟨k, e, x, q1, q2, q3⟩, fun _ h => h.elim (hX rfl) ho, hlt, fun i hi j hj => ?_⟩
 obtain ⟨u, hu, hr⟩ := hc i hi j hj
 exact ⟨u, hu, hr⟩
theorem new_ok (n : Nat) (l : List Int) : NewOk Try.prog 33 [.e (.c (.sl true n 1 (rI l)))] none none (tapeN (min n 400) (rI l) 0) := by
 refine new_intro (wd := 1) (Q := mkQ LE0) (by decide) tysOk (q_of LE0_ok) mixed Try.func33 rfl _ (by show 1 <= _; decide) tapeN_nf ?_
 repeat' (first | (apply And.intro <;> intro hc <;> (first | exact Bool.noConfusion hc | (simp only [zb0] at hc) | skip)) | (refine And.intro zp0 ?_) | (apply And.intro) | (intro s hs))
 . refine ⟨⟨some 9, leF_ptr rfl, ?_⟩⟩
   exact leN_var ⟨⟨trivial, leC_sl (fun _ => rfl) (by show 400 - 0 = min n 400; omega) rfl fun i _ j _ => leC_int (by rw [Nat.zero_add])⟩, leC_int rfl⟩
 . refine ⟨⟨some 6, leF_ptr rfl, ?_⟩⟩
   exact leN_var ⟨⟨trivial, leC_sl (fun _ => rfl) (by omega) rfl fun i _ j _ => leC_int rfl⟩, leC_int rfl⟩
def newTapeE : Entry := fun args H nm _ =>
 match args with
 | [.e (.c (.sl true n s f))] => bif Nat.beq s 1 then some fun K => (∃ l, f = rI l /\ rngL l) /\ ∀ m, ∀ q, TapeOk m f q -> K (one (.ptr nm 0 0 false)) [(nm, some (tapeN m f q))] [] else none
 | _ => none
theorem newTapeE_ok : EntOk Try.prog 33 newTapeE := by
 refine ⟨fun args H nm wd q hwd hq K hK => ?_, fun args H nm wd q hq K K' hKK hK => ?_⟩
 . unfold newTapeE at hq
   split at hq
   . rename_i n s f
     obtain ⟨hb, hq⟩ := cond_some hq
     subst hq
     have hb := Nat.eq_of_beq_eq_true hb
     subst hb
     obtain ⟨⟨l, rfl, hl⟩, hK⟩ := hK
     refine ⟨_, _, _, callR_new (args' := [.e (.c (.sl true n 1 (rI l)))]) (rd := []) ⟨_, Try.func33, rfl, by kernel_rfl⟩ hwd (kd := none) (rest := none) (fun l h => by cases h) (fun H' _ => ⟨rfl, fun i x y hx hy => ?_⟩) (new_ok n l), hK (min n 400) 0 ⟨by omega, by omega, by omega, l, rfl, hl⟩⟩
     cases i with
     | zero => simp only [List.getElem?_cons_zero, Option.some.injEq] at hx hy; subst hx hy; exact bo_shI
     | succ i => cases i <;> cases hx
   . cases hq
 . unfold newTapeE at hq
   split at hq
   . obtain ⟨hb, hq⟩ := cond_some hq
     subst hq
     exact ⟨hK.1, fun m q h => hKK _ _ _ (hK.2 m q h)⟩
   . cases hq
abbrev boolE : Entry := tapeE (AC.cons (cI .i64) AC.nil) (fun a => 1 <= a.1 /\ a.1 <= 4611686018427387904) (fun a (r : Bool) => True) cB.enc
theorem spot_none {w : World} {a : Addr} {u : Value} (h : w.cell? a = some u) : a.spot = none := by
 unfold World.cell? at h
 split at h
 . split at h
   . cases h
   . rename_i hs; simpa using hs
 . cases h
theorem row_rel {w : World} {a : Option Addr} {len cap : Nat} {zs : List Int} (h : IsRow .i64 w a len cap zs) :
 (FV.e (.c (CV.sl true len 1 (rI zs)))).rel (fun _ => none) (fun _ => False) (fun _ => False) w (.slice a len cap) := by
 rcases h with ⟨rfl, rfl, rfl, rfl⟩ | ⟨ad, rfl, hl, hm, hz, hcell, hwz⟩
 . exact ⟨none, 0, rfl, Nat.le_refl _, fun h => absurd h (Nat.lt_irrefl _)⟩
 . refine ⟨some ad, cap, rfl, hl, fun h0 => ?_⟩
   have h1 := hcell 0 (by omega)
   rw [add_zero_] at h1
   have hsp : ad.spot = none := spot_none h1
   refine ⟨ad, rfl, hsp, fun h => h, fun _ h => h, cell_lt h1, fun i hi j hj => ?_⟩
   have : j = 0 := by omega
   subst this
   have h2 := hcell i (by omega)
   rw [addS hsp] at h2
   exact ⟨_, by rw [show i * 1 + 0 = i by omega]; exact h2, rfl⟩
theorem wf_i64 {n : Int} (h : (Lit.int .i64 n).wf = true) : -9223372036854775808 <= n /\ n <= 9223372036854775807 := by
 simp [Lit.wf, IntKind.min, IntKind.max, IntKind.bits, IntKind.signed] at h
 omega
theorem rng_of {w : World} {a : Option Addr} {len cap : Nat} {zs : List Int} (h : IsRow .i64 w a len cap zs) : rngL zs := by
 have hall : ∀ z ∈ zs, (Lit.int .i64 z).wf = true := by
  rcases h with ⟨rfl, rfl, rfl, rfl⟩ | ⟨ad, rfl, hl, hm, hz, hcell, hwz⟩
  . intro z hz; cases hz
  . exact hwz
 intro i
 by_cases hi : i < zs.length
 . have e : zs.getD i default = zs[i] := by simp [List.getD_eq_getElem?_getD, List.getElem?_eq_getElem hi]
   rw [e]
   exact wf_i64 (hall _ (List.getElem_mem hi))
 . have e : zs.getD i default = 0 := by simp [List.getD_eq_getElem?_getD, List.getElem?_eq_none (by omega : zs.length <= i)]
   rw [e]; omega
theorem relL1 {r : Ren} {X W : Nat -> Prop} {w : World} {x : FV} {v : Value} (h : x.rel r X W w v) : RelL r X W w [x] #[v] :=
 ⟨rfl, fun i y u hy hu => by
   match i, hy, hu with
   | 0, hy, hu => injection hy with hy; injection hu with hu; subst hy hu; exact h⟩
theorem relL_cons {r : Ren} {X W : Nat -> Prop} {w : World} {x : FV} {v : Value} {xs : List FV} {vs : List Value} (h : x.rel r X W w v) (ht : RelL r X W w xs vs.toArray) : RelL r X W w (x :: xs) (v :: vs).toArray := by
 refine ⟨by have := ht.1; simp at this ⊢; omega, fun i y u hy hu => ?_⟩
 cases i with
 | zero => simp at hy hu; subst hy hu; exact h
 | succ i => exact ht.2 i y u (by simpa using hy) (by simpa using hu)
theorem walk_of {P : Program} {f : FuncId} {args : List FV} {vals : Array Value} {w : World} (h : PureOk P f args (.e (.c (.bool true)))) (hr : RelL (fun _ => none) (fun _ => False) (fun _ => False) w args vals) (hg : GlobOk (fun _ => False) w := by exact fun p hp => by cases hp) :
 Calls P f vals w fun e w' => e = .returned (.bool true) /\ Below w.heap.size w w' :=
 (h (fun _ => False) w vals hr ⟨fun _ h => h.elim, hg⟩).mono fun e w' ⟨v, he, hb, hv⟩ => by
   have hv' : v = .bool true := hv
   subst hv'
   exact ⟨he, hb⟩
end Go.Proofs.Ytjknkfjhcapocaa.AX
namespace Go.Proofs.Ytjknkfjhcapocaa
open Go.ChangeShapes Go.WideShapes Go.RowKit AX
def KOk : Option IntKind -> Value -> Prop
 | some k, v => ∃ n, v = .int k n /\ (Lit.int k n).wf = true
 | none, v => ∃ b, v = .bool b
def Mt : List (Option IntKind) -> List Value -> Prop
 | [], [] => True
 | k :: ks, v :: vs => KOk k v /\ Mt ks vs
 | _, _ => False
theorem Mt.append {a b : List (Option IntKind)} {x y : List Value} (h : Mt a x) (h' : Mt b y) : Mt (a ++ b) (x ++ y) := by
 induction a generalizing x with
 | nil =>
   cases x with
   | nil => exact h'
   | cons => exact h.elim
 | cons k ks ih =>
   cases x with
   | nil => exact h.elim
   | cons v vs => exact ⟨h.1, ih h.2⟩
theorem Mt.len {a : List (Option IntKind)} {x : List Value} (h : Mt a x) : x.length = a.length := by
 induction a generalizing x with
 | nil =>
   cases x with
   | nil => rfl
   | cons => exact h.elim
 | cons k ks ih =>
   cases x with
   | nil => exact h.elim
   | cons v vs => simp [ih h.2]
def flatFs (P : Program) (g : TypeId -> Option (List (Option IntKind))) : List Field -> Nat -> Option (List (Option IntKind))
 | [], _ => some []
 | fd :: rest, off =>
   match g fd.type with
   | some l => bif Nat.beq fd.offset off && Nat.beq (P.cellsOf fd.type) l.length then (flatFs P g rest (off + l.length)).map (l ++ ·) else none
   | none => none
def flat (P : Program) : Nat -> TypeId -> Option (List (Option IntKind))
 | 0, _ => none
 | f + 1, t =>
   match P.underlying t with
   | some .bool => some [none]
   | some (.int k) => some [some k]
   | some (.struct fs) =>
     match flatFs P (flat P f) fs.toList 0 with
     | some l => bif Nat.beq (P.cellsOf t) l.length then some l else none
     | none => none
   | some (.array n e) =>
     match flat P f e with
     | some l => bif Nat.beq (P.cellsOf e) l.length && Nat.beq (P.cellsOf t) (n * l.length) then some (List.replicate n l).flatten else none
     | none => none
   | _ => none
section
variable {H : Type} {enc : TypeId × Value -> H} {P : Program} {w : World} {base : Nat} {spare : Nat -> Bool} {held : Bool}
theorem flatFs_mt {g : TypeId -> Option (List (Option IntKind))} {cs : List Value} : ∀ (fs : List Field) (off : Nat) (ks : List (Option IntKind)), flatFs P g fs off = some ks ->
 (∀ fd ∈ fs, ∀ l, g fd.type = some l -> Mt l ((cs.drop fd.offset).take (P.cellsOf fd.type))) -> cs.length = off + ks.length -> Mt ks (cs.drop off) := by
 intro fs
 induction fs with
 | nil =>
   intro off ks h _ hl
   simp only [flatFs, Option.some.injEq] at h
   subst h
   rw [List.drop_eq_nil_of_le (by simp at hl; omega)]
   trivial
 | cons fd rest ih =>
   intro off ks h hm hl
   simp only [flatFs] at h
   split at h
   . rename_i l hg
     cases hb : (Nat.beq fd.offset off && Nat.beq (P.cellsOf fd.type) l.length) with
     | false => rw [hb] at h; cases h
     | true =>
       rw [hb, cond_true] at h
       simp only [Bool.and_eq_true] at hb
       have h1 := Nat.eq_of_beq_eq_true hb.1
       have h2 := Nat.eq_of_beq_eq_true hb.2
       cases hr : flatFs P g rest (off + l.length) with
       | none => rw [hr] at h; cases h
       | some l' =>
         rw [hr] at h
         simp only [Option.map_some, Option.some.injEq] at h
         subst h
         have m1 := hm fd (by simp) l hg
         rw [h1, h2] at m1
         have m2 := ih _ _ hr (fun fd' hfd l hl => hm fd' (by simp [hfd]) l hl) (by simp at hl; omega)
         rw [show cs.drop off = (cs.drop off).take l.length ++ cs.drop (off + l.length) by
          rw [<- List.drop_drop, List.take_append_drop]]
         exact m1.append m2
   . cases h
theorem flat_mt : ∀ (f : Nat) (t : TypeId) (ks : List (Option IntKind)) (fuel : Nat) (cs : List Value) (x : DataW H × List MemPlace), flat P f t = some ks -> DataW.trod enc P w base spare held fuel t cs = some x -> Mt ks cs := by
 intro f
 induction f with
 | zero => intro t ks fuel cs x h; cases h
 | succ f ih =>
   intro t ks fuel cs x h hd
   simp only [flat] at h
   split at h
   . rename_i ht
     simp only [Option.some.injEq] at h
     subst h
     cases fuel with
     | zero => simp [DataW.trod] at hd
     | succ m =>
       unfold DataW.trod at hd
       rw [ht] at hd
       split at hd <;> simp_all
       exact ⟨⟨_, rfl⟩, trivial⟩
   . rename_i k ht
     simp only [Option.some.injEq] at h
     subst h
     obtain ⟨n, rfl, hx, hw⟩ := DataW.trod_int ht hd
     exact ⟨⟨n, rfl, hw⟩, trivial⟩
   . rename_i fs ht
     split at h
     . rename_i l hfl
       cases hb : Nat.beq (P.cellsOf t) l.length with
       | false => rw [hb] at h; cases h
       | true =>
         rw [hb] at h
         simp only [cond_true, Option.some.injEq] at h
         subst h
         obtain ⟨ys, m, _, _, hlen, hyl, hf⟩ := DataW.trod_struct ht hd
         have := flatFs_mt (cs := cs) fs.toList 0 l hfl (fun fd hfd l' hg => ?_) (by rw [hlen, Nat.eq_of_beq_eq_true hb]; omega)
         . simpa using this
         . obtain ⟨i, hi, hfi⟩ := List.getElem_of_mem hfd
           have hi' : i < fs.size := by simpa using hi
           have e1 : fs[i]? = some fd := by
            rw [Array.getElem?_eq_getElem hi']
            simpa using hfi
           have hfd' := hf i fd e1
           have hy : ys[i]? = some ys[i] := List.getElem?_eq_getElem (by omega)
           rw [hy] at hfd'
           exact ih _ _ _ _ _ hg hfd'
     . cases h
   . rename_i n e ht
     split at h
     . rename_i l hfl
       cases hb : (Nat.beq (P.cellsOf e) l.length && Nat.beq (P.cellsOf t) (n * l.length)) with
       | false => rw [hb] at h; cases h
       | true =>
         rw [hb] at h
         simp only [cond_true, Option.some.injEq] at h
         subst h
         simp only [Bool.and_eq_true] at hb
         have h1 := Nat.eq_of_beq_eq_true hb.1
         have h2 := Nat.eq_of_beq_eq_true hb.2
         obtain ⟨xs, m, _, _, hlen, hxl, hel⟩ := DataW.trod_array ht hd
         have key : ∀ j, j <= n -> Mt (List.replicate j l).flatten (cs.drop ((n - j) * l.length)) := by
          intro j
          induction j with
          | zero =>
            intro _
            rw [List.drop_eq_nil_of_le (by rw [hlen, h2]; simp)]
            trivial
          | succ j ihj =>
            intro hj
            have hi := hel (n - (j + 1)) (by omega)
            rw [h1] at hi
            have hsome : ∃ y, xs[n - (j + 1)]? = some y := ⟨_, List.getElem?_eq_getElem (by omega)⟩
            obtain ⟨y, hy⟩ := hsome
            rw [hy] at hi
            have m1 := ih _ _ _ _ _ hfl hi
            have m2 := ihj (by omega)
            rw [List.replicate_succ, List.flatten_cons]
            rw [show cs.drop ((n - (j + 1)) * l.length) = (cs.drop ((n - (j + 1)) * l.length)).take l.length ++ cs.drop ((n - j) * l.length) by
             rw [show (n - j) * l.length = (n - (j + 1)) * l.length + l.length by rw [show n - j = (n - (j + 1)) + 1 by omega, Nat.add_mul, Nat.one_mul], <- List.drop_drop, List.take_append_drop]]
            exact m1.append m2
         simpa using key n (Nat.le_refl _)
     . cases h
   . cases h
theorem open_flat {r : Reach} {b0 f : Nat} {t : TypeId} {v : Value} {d : DataW H} {ps : List MemPlace} {ks : List (Option IntKind)} (hs : (∃ fs, P.underlying t = some (.struct fs)) \/ ∃ n e, P.underlying t = some (.array n e)) (hf : flat P f t = some ks) (hval : Value.okWide P w r b0 t v) (hd : DataW.Trod enc P w base spare held t v d ps) :
 ∃ cs : Array Value, v = .agg cs /\ Mt ks cs.toList := by
 have hv : ∃ cs, v = .agg cs := by
  unfold Value.okWide at hval
  rcases hs with ⟨fs, h⟩ | ⟨n, e, h⟩
  . rw [h] at hval; obtain ⟨cs, rfl, _⟩ := hval; exact ⟨cs, rfl⟩
  . rw [h] at hval; obtain ⟨cs, rfl, _⟩ := hval; exact ⟨cs, rfl⟩
 obtain ⟨cs, rfl⟩ := hv
 obtain ⟨fuel, hd⟩ := hd
 exact ⟨cs, rfl, flat_mt f t ks fuel _ _ hf hd⟩
end
def cvOf : Value -> CV
 | .int k n => .int k n
 | .bool b => .bool b
 | _ => .top
def KOkC : Option IntKind -> CV -> Prop
 | some k, x => ∃ n, x = .int k n /\ (Lit.int k n).wf = true
 | none, x => ∃ b, x = .bool b
def MtC (ks : List (Option IntKind)) (g : Nat -> CV) : Prop := ∀ j k, ks[j]? = some k -> KOkC k (g j)
theorem KOk.cv {k : Option IntKind} {v : Value} (h : KOk k v) : KOkC k (cvOf v) /\ ∀ r X W w, (cvOf v).rel r X W w v := by
 cases k with
 | some k => obtain ⟨n, rfl, h⟩ := h; exact ⟨⟨n, rfl, h⟩, fun _ _ _ _ => rfl⟩
 | none => obtain ⟨b, rfl⟩ := h; exact ⟨⟨b, rfl⟩, fun _ _ _ _ => rfl⟩
theorem Mt.at : ∀ {ks : List (Option IntKind)} {vs : List Value}, Mt ks vs -> ∀ (j : Nat) k, ks[j]? = some k -> ∃ v, vs[j]? = some v /\ KOk k v := by
 intro ks
 induction ks with
 | nil => intro vs _ j k h; simp at h
 | cons k0 ks ih =>
   intro vs h j k hk
   cases vs with
   | nil => exact h.elim
   | cons v vs =>
     cases j with
     | zero => simp at hk; subst hk; exact ⟨v, rfl, h.1⟩
     | succ j => simpa using ih h.2 j k (by simpa using hk)
def gOf (cs : List Value) (j : Nat) : CV := cvOf (cs.getD j undef)
theorem Mt.g {ks : List (Option IntKind)} {vs : List Value} (h : Mt ks vs) : MtC ks (gOf vs) /\ ∀ r X W w (j : Nat) u, vs[j]? = some u -> (gOf vs j).rel r X W w u := by
 have hlen := h.len
 refine ⟨fun j k hk => ?_, fun r X W w j u hu => ?_⟩
 . obtain ⟨v, hv, hko⟩ := h.at j k hk
   have : gOf vs j = cvOf v := by simp [gOf, List.getD_eq_getElem?_getD, hv]
   rw [this]; exact hko.cv.1
 . have hj : j < ks.length := by rw [<- hlen]; exact (List.getElem?_eq_some_iff.1 hu).1
   obtain ⟨v, hv, hko⟩ := h.at j _ (List.getElem?_eq_getElem hj)
   rw [hu] at hv; injection hv with hv; subst hv
   have : gOf vs j = cvOf u := by simp [gOf, List.getD_eq_getElem?_getD, hu]
   rw [this]; exact hko.cv.2 r X W w
theorem flat_rel {ks : List (Option IntKind)} {cs : Array Value} (h : Mt ks cs.toList) {w : World} {α : Type} {E : Elem α} (hsz : E.sz = ks.length) (hok : ∀ g, MtC ks g -> E.ok g = true) :
 ∃ a : α, (∃ g, MtC ks g /\ a = E.rd g) /\ ((cE E).enc a).rel (fun _ => none) (fun _ => False) (fun _ => False) w (.agg cs) := by
 obtain ⟨h1, h2⟩ := h.g
 have hn : cs.size = E.sz := by rw [hsz]; have := h.len; simpa using this
 refine ⟨E.rd (gOf cs.toList), ⟨_, h1, rfl⟩, cs, rfl, hn, fun i u hu => ?_⟩
 rw [<- E.ok_eq _ (hok _ h1) i (by rw [<- hn]; exact (Array.getElem?_eq_some_iff.1 hu).1)]
 exact h2 _ _ _ _ i u (by simpa using hu)
section
variable {H : Type} {enc : TypeId × Value -> H} {P : Program} {w : World} {base : Nat} {spare : Nat -> Bool} {held : Bool}
def IsRows (w : World) (ks : List (Option IntKind)) (a : Option Addr) (len cap : Nat) : Prop :=
 len <= cap /\ (0 < len -> ∃ ad, a = some ad /\ ad.spot = none /\ ∀ i, i < len -> ∃ cs : List Value, Mt ks cs /\ ∀ j u, cs[j]? = some u -> w.cell? ⟨ad.block, ad.off + (i * ks.length + j), none⟩ = some u)
theorem cells_lt {ad : Addr} {w : World} {u : Value} (h : w.cell? ad = some u) : ad.block < w.heap.size := cell_lt h
theorem open_rows {r : Reach} {b0 f : Nat} {t e : TypeId} {v : Value} {d : DataW H} {ps : List MemPlace} {ks : List (Option IntKind)} (ht : P.underlying t = some (.slice e)) (hf : flat P f e = some ks) (hc : P.cellsOf e = ks.length) (h0 : 0 < ks.length) (hval : Value.okWide P w r b0 t v) (hd : DataW.Trod enc P w base spare held t v d ps) :
 ∃ a len cap, v = .slice a len cap /\ IsRows w ks a len cap /\ (d = .nil /\ cap = 0 \/ ∃ elems rest, d = .slice elems rest /\ len <= elems.length) := by
 obtain ⟨a, len, cap, rfl⟩ := okWide_slice ht hval
 obtain ⟨fuel, hd⟩ := hd
 rcases Go.Deep.open_slice ht hd with ⟨hcs, hx⟩ | ⟨a', len', cap', m, n, D, Pl, hcs, hb, hl, hm, hmm, hx, hel⟩
 . simp [Value.cells] at hcs
   obtain ⟨rfl, rfl, rfl⟩ := hcs
   injection hx with hx _
   exact ⟨none, 0, 0, rfl, ⟨Nat.le_refl _, fun h => absurd h (Nat.lt_irrefl _)⟩, .inl ⟨hx, rfl⟩⟩
 . simp [Value.cells] at hcs
   obtain ⟨rfl, rfl, rfl⟩ := hcs
   injection hx with hx _
   have hlm : len <= m := by rw [hmm]; split <;> omega
   refine ⟨some a', len, cap, rfl, ⟨hl, fun hpos => ?_⟩, .inr ⟨_, _, hx, by simp⟩⟩
   have hsp : a'.spot = none := by
    obtain ⟨cs0, g1, g2⟩ := hel 0 (by omega)
    have hmt := flat_mt f e ks n _ _ hf g2
    obtain ⟨_, g3, g4⟩ := World.cells?_some g1
    have := g4 0 (by rw [hc]; exact h0)
    rw [Nat.zero_mul, add_zero_, add_zero_] at this
    cases hc0 : cs0[0]? with
    | none => rw [List.getElem?_eq_none_iff] at hc0; have := hmt.len; omega
    | some u => rw [hc0] at this; exact spot_none this
   refine ⟨a', rfl, hsp, fun i hi => ?_⟩
   obtain ⟨cs', g1, g2⟩ := hel i (by omega)
   have hmt := flat_mt f e ks n _ _ hf g2
   obtain ⟨_, g3, g4⟩ := World.cells?_some g1
   refine ⟨cs', hmt, fun j u hu => ?_⟩
   have hj : j < cs'.length := (List.getElem?_eq_some_iff.1 hu).1
   have := g4 j (by omega)
   rw [Go.Deep.add_add, addS hsp, hu, hc] at this
   exact this
end
theorem rows_rel {w : World} {ks : List (Option IntKind)} {a : Option Addr} {len cap : Nat} (h : IsRows w ks a len cap) {α : Type} [Inhabited α] {E : Elem α} (h0 : 0 < ks.length) (hsz : E.sz = ks.length) (hok : ∀ g, MtC ks g -> E.ok g = true) :
 ∃ l : List α, l.length = len /\ (∀ c ∈ l, ∃ g, MtC ks g /\ c = E.rd g) /\ (FV.e (.c (slR E l))).rel (fun _ => none) (fun _ => False) (fun _ => False) w (.slice a len cap) := by
 obtain ⟨hl, hx⟩ := h
 by_cases hpos : 0 < len
 . obtain ⟨ad, rfl, hsp, hel⟩ := hx hpos
   obtain ⟨F, hF⟩ := Go.Deep.choose_lt (α := List Value) (p := fun i cs => Mt ks cs /\ ∀ j u, cs[j]? = some u -> w.cell? ⟨ad.block, ad.off + (i * ks.length + j), none⟩ = some u) hel
   have hg : ∀ i, i < len -> MtC ks (gOf (F i)) := fun i hi => (hF i hi).1.g.1
   have cell : ∀ i, i < len -> ∀ j, j < ks.length -> ∃ u, (F i)[j]? = some u := fun i hi j hj => ⟨_, List.getElem?_eq_getElem (by rw [(hF i hi).1.len]; exact hj)⟩
   refine ⟨toL E len (fun i => gOf (F i)), toL_len _ _ _, fun c hc => ?_, ?_⟩
   . simp only [toL, List.mem_map, List.mem_range] at hc
     obtain ⟨i, hi, rfl⟩ := hc
     exact ⟨_, hg i hi, rfl⟩
   . unfold slR
     rw [toL_len]
     obtain ⟨u0, hu0⟩ := cell 0 hpos 0 h0
     have hlt := cells_lt ((hF 0 hpos).2 0 u0 hu0)
     refine ⟨some ad, cap, rfl, hl, fun _ => ⟨ad, rfl, hsp, fun h => h, fun _ h => h, hlt, fun i hi j hj => ?_⟩⟩
     rw [hsz] at hj
     obtain ⟨u, hu⟩ := cell i hi j hj
     refine ⟨u, by rw [hsz]; exact (hF i hi).2 j u hu, ?_⟩
     have e1 : rowF E (toL E len fun i => gOf (F i)) i j = gOf (F i) j := by
      unfold rowF
      rw [toL_get hi]
      exact (E.ok_eq _ (hok _ (hg i hi)) j (by rw [hsz]; exact hj)).symm
     rw [e1]
     exact (hF i hi).1.g.2 _ _ _ _ j u hu
 . have : len = 0 := by omega
   subst this
   exact ⟨[], rfl, (fun c h => by cases h), ⟨a, cap, rfl, hl, fun h => absurd h (Nat.lt_irrefl _)⟩⟩
theorem okA_of {k : IntKind} {g : Nat -> CV} {o : Nat} : ∀ {n : Nat}, (∀ i, i < n -> isK k (g (o + i)) = true) -> okA k g o n = true := by
 intro n
 induction n with
 | zero => intro _; rfl
 | succ n ih => intro h; simp only [okA, Bool.and_eq_true]; exact ⟨h n (by omega), ih fun i hi => h i (by omega)⟩
theorem MtC.k {ks : List (Option IntKind)} {g : Nat -> CV} (h : MtC ks g) {j : Nat} {k : IntKind} (hj : ks[j]? = some (some k)) : isK k (g j) = true := by
 obtain ⟨n, hn, _⟩ := h j _ hj
 rw [hn]; simp [isK, kindEq]
theorem MtC.b {ks : List (Option IntKind)} {g : Nat -> CV} (h : MtC ks g) {j : Nat} (hj : ks[j]? = some none) : isB (g j) = true := by
 obtain ⟨n, hn⟩ := h j _ hj
 rw [hn]; rfl
theorem MtC.wf {ks : List (Option IntKind)} {g : Nat -> CV} (h : MtC ks g) {j : Nat} {k : IntKind} (hj : ks[j]? = some (some k)) : (Lit.int k (valI (g j))).wf = true := by
 obtain ⟨n, hn, hw⟩ := h j _ hj
 rw [hn]; exact hw
end Go.Proofs.Ytjknkfjhcapocaa
namespace Go.Proofs.Ytjknkfjhcapocaa.AX
open Go.RowKit
def tailC {α : Type} (E : Elem α) (a : α) (last : CV) (j : Nat) : CV := bif Nat.blt j E.sz then E.cell a j else last
theorem tailC_lt {α : Type} {E : Elem α} {a : α} {last : CV} {j : Nat} (h : j < E.sz) : tailC E a last j = E.cell a j := by unfold tailC; rw [blt_lt h]; rfl
theorem tailC_end {α : Type} {E : Elem α} {a : α} {last : CV} : tailC E a last E.sz = last := by unfold tailC; rw [blt_self]; rfl
def cTail {α β : Type} [Inhabited β] (E : Elem α) (F : Elem β) (hsz : 0 < F.sz) : Codec (α × List β) where
 enc a := .e (.agg (E.sz + 1) (tailC E a.1 (.sl false a.2.length F.sz (rowF F a.2))))
 dec H x := (ga (E.sz + 1) x).bind fun f => bif E.ok f then
  match srcOf H F.sz (.e (.c (f E.sz))) with
  | some ⟨n, g, p, rd⟩ => some ((E.rd f, toL F n g), both p (some (∀ i, i < n -> F.ok (g i) = true)), rd)
  | none => none
  else none
 sound H H' x a p rd h hp hh := by
  obtain ⟨f, h1, h⟩ := bind_some h
  obtain ⟨hk, h⟩ : E.ok f = true /\ _ = some (a, p, rd) := by
   cases hb : E.ok f with
   | true => rw [hb] at h; exact ⟨rfl, h⟩
   | false => rw [hb] at h; cases h
  split at h
  . rename_i n g q rd' hs
    injection h with h
    injection h with h h'
    injection h' with h' h''
    subst h h' h''
    obtain ⟨q1, q2⟩ := both_ok.1 hp
    rw [ga_eq h1]
    have hl := bo_sl hsz (srcOf_congr hs hh) q1 q2
    rintro cx r w v st ⟨cs, rfl, c1, c2⟩
    refine ⟨cs, rfl, c1, fun i u hu => ?_⟩
    have hi : i < E.sz + 1 := by rw [<- c1]; exact (Array.getElem?_eq_some_iff.1 hu).1
    have h3 := c2 i u hu
    by_cases he : i = E.sz
    . subst he
      rw [tailC_end]
      exact hl cx r w u st h3
    . rw [tailC_lt (by omega)]
      rw [E.ok_eq f hk i (by omega)] at h3
      exact E.flat _ _ _ _ _ _ _ _ _ _ _ h3
  . cases h
def tailR {α β : Type} [Inhabited β] (E : Elem α) (F : Elem β) (a : α × List β) : EV := .agg (E.sz + 1) (tailC E a.1 (slR F a.2))
theorem leE_tail {c : Wc} {α : Type} {E : Elem α} {g : Nat -> CV} {a : α} {last : CV} {n : Nat} (hn : n = E.sz + 1) (h1 : ∀ j, j < E.sz -> LeC c (g j) (E.cell a j)) (h2 : LeC c (g E.sz) last) : LeE c (.agg n g) (.agg (E.sz + 1) (tailC E a last)) := by
 subst hn
 refine leE_agg rfl fun i hi => ?_
 by_cases he : i = E.sz
 . subst he; rw [tailC_end]; exact h2
 . rw [tailC_lt (by omega)]; exact h1 i (by omega)
theorem nfE_tail {α β : Type} [Inhabited β] {E : Elem α} {F : Elem β} {a : α × List β} : NFE (tailR E F a) := by
 rintro r r' X W w v ⟨cs, rfl, h1, h2⟩
 refine ⟨cs, rfl, h1, fun i u hu => ?_⟩
 have h3 := h2 i u hu
 have hi : i < E.sz + 1 := by rw [<- h1]; exact (Array.getElem?_eq_some_iff.1 hu).1
 by_cases he : i = E.sz
 . subst he
   rw [tailC_end] at h3 ⊢
   exact nf_sl (fun i _ j _ => (F.flat _ _).nf) _ _ _ _ _ _ h3
 . rw [tailC_lt (by omega)] at h3 ⊢
   exact (E.flat _ _).nf _ _ _ _ _ _ h3
def rowFF {β : Type} [Inhabited β] (F : Elem β) (L : List (List β)) (i _j : Nat) : CV := .sl false (L.getD i []).length F.sz (rowF F (L.getD i []))
def readLL {β : Type} (F : Elem β) (H : Hp) (f : Nat -> CV) : Nat -> Nat -> Option (List (List β) × Option Prop × List Nat)
 | 0, _ => some ([], none, [])
 | n + 1, q =>
   match srcOf H F.sz (.e (.c (f q))) with
   | some ⟨m, g, p, rd⟩ =>
     match readLL F H f n (q + 1) with
     | some (L, p', rd') => some (toL F m g :: L, both (both p (some (∀ i, i < m -> F.ok (g i) = true))) p', rd ++ rd')
     | none => none
   | none => none
theorem readLL_ok {β : Type} [Inhabited β] {F : Elem β} (hsz : 0 < F.sz) {H H' : Hp} {f : Nat -> CV} : ∀ (n q : Nat) (L : List (List β)) (p : Option Prop) (rd : List Nat), readLL F H f n q = some (L, p, rd) -> preOk p -> (∀ k ∈ rd, hget H k = hget H' k) ->
 L.length = n /\ ∀ i, i < n -> Bo H' rd (.e (.c (f (q + i)))) (.e (.c (rowFF F L i 0))) := by
 intro n
 induction n with
 | zero => intro q L p rd h _ _; injection h with h; injection h with h _; subst h; exact ⟨rfl, fun i hi => by omega⟩
 | succ n ih =>
   intro q L p rd h hp hh
   unfold readLL at h
   split at h
   . rename_i m g p0 rd0 hs
     split at h
     . rename_i L' p' rd' hL
       injection h with h
       injection h with h1 h2
       injection h2 with h2 h3
       subst h1 h2 h3
       obtain ⟨a1, a2⟩ := both_ok.1 hp
       obtain ⟨b1, b2⟩ := both_ok.1 a1
       obtain ⟨c1, c2⟩ := ih (q + 1) L' p' rd' hL a2 (fun k hk => hh k (List.mem_append_right _ hk))
       refine ⟨by simp [c1], fun i hi => ?_⟩
       cases i with
       | zero => exact (bo_sl hsz (srcOf_congr hs (fun k hk => hh k (List.mem_append_left _ hk))) b1 b2).more fun k hk => List.mem_append_left _ hk
       | succ i =>
         have := (c2 i (by omega)).more (rd' := rd0 ++ rd') fun k hk => List.mem_append_right _ hk
         rw [show q + (i + 1) = q + 1 + i by omega]
         exact this
     . cases h
   . cases h
def cLL {β : Type} [Inhabited β] (F : Elem β) (hsz : 0 < F.sz) : Codec (List (List β)) where
 enc L := .e (.c (.sl false L.length 1 (rowFF F L)))
 dec H x :=
  match srcOf H 1 x with
  | some ⟨n, g, p, rd⟩ =>
    match readLL F H (fun i => g i 0) n 0 with
    | some (L, p', rd') => some (L, both p p', rd ++ rd')
    | none => none
  | none => none
 sound H H' x a p rd h hp hh := by
  split at h
  . rename_i n g p0 rd0 hs
    split at h
    . rename_i L p' rd' hL
      injection h with h
      injection h with h1 h2
      injection h2 with h2 h3
      subst h1 h2 h3
      obtain ⟨a1, a2⟩ := both_ok.1 hp
      obtain ⟨c1, c2⟩ := readLL_ok hsz n 0 L p' rd' hL a2 (fun k hk => hh k (List.mem_append_right _ hk))
      have hs' := srcOf_congr hs (H' := H') (fun k hk => hh k (List.mem_append_left _ hk))
      have key : ∀ i, i < n -> ∀ cx r w u, St cx r H' w -> (g i 0).rel r cx.X (wr r H') w u -> (rowFF F L i 0).rel (fun _ => none) (fun b => cx.X b \/ wr r H' b) (wrBut r H' (rd0 ++ rd')) w u := fun i hi cx r w u st hu => by
       have := (c2 i hi).more (rd' := rd0 ++ rd') (fun k hk => List.mem_append_right _ hk)
       rw [Nat.zero_add] at this
       exact this cx r w u st hu
      intro cx r w v st hx
      refine (?_ : CV.rel (fun _ => none) (fun b => cx.X b \/ wr r H' b) (wrBut r H' (rd0 ++ rd')) w (.sl false L.length 1 (rowFF F L)) v)
      rw [c1]
      unfold srcOf at hs'
      split at hs'
      . rename_i sh n' s f
        obtain ⟨hb, hs'⟩ := cond_some hs'
        injection hs' with h1 h2 h3 h4
        subst h1 h2 h3 h4
        obtain ⟨a, cap, rfl, d1, d2⟩ := hx
        refine ⟨a, cap, rfl, d1, fun h0 => ?_⟩
        obtain ⟨ad, rfl, hsp, ho, hX, hlt, hc⟩ := d2 h0
        refine ⟨ad, rfl, hsp, fun ⟨k, e, x, q1, q2, q3, _⟩ => ho ⟨k, e, x, q1, q2, q3⟩, (fun h => by cases h), hlt, fun i hi j hj => ?_⟩
        have hsE : s = 1 := Nat.eq_of_beq_eq_true hb
        subst hsE
        have hj0 : j = 0 := by omega
        subst hj0
        obtain ⟨u, hu, hr⟩ := hc i hi 0 hj
        exact ⟨u, hu, key i hi cx r w u st hr⟩
      . injection hs' with hs'
        injection hs' with h1 h2 h3 h4
        subst h1 h2 h3 h4
        have : v = .slice none 0 0 := hx
        subst this
        exact ⟨none, 0, rfl, Nat.le_refl _, fun h => absurd h (Nat.lt_irrefl _)⟩
      . rename_i k i n'
        split at hs'
        . rename_i et en es ev f he
          obtain ⟨hb, hs'⟩ := cond_some hs'
          injection hs' with h1 h2 h3 h4
          subst h1 h2 h3 h4
          have hsE : es = 1 := Nat.eq_of_beq_eq_true hb
          subst hsE
          obtain ⟨a, cap, rfl, d1, d2⟩ := hx
          refine ⟨a, cap, rfl, d1, fun h0 => ?_⟩
          obtain ⟨x, hx, rfl, _⟩ := d2 (by omega)
          have hp' : i + n' <= en := a1
          obtain ⟨_, _, hxs, _⟩ := blk_at st he hx
          simp only at hxs
          refine ⟨⟨x.b, i * x.sz, none⟩, rfl, rfl, ?_, (fun h => by cases h), (st.dom k x hx.1).1, fun q hq j hj => ?_⟩
          . rintro ⟨k2, e2, y, q1, q2, q3, q4⟩
            have := st.inj k2 k e2 _ y x q1 he q2 hx.1 q3
            exact q4 (by rw [this]; exact List.mem_append_left _ (List.mem_singleton.2 rfl))
          . have hj0 : j = 0 := by omega
            subst hj0
            obtain ⟨u, hu, hr⟩ := blk_cell st he hx (i := i + q) (j := 0) (show i + q < en by omega) (show 0 < 1 by omega)
            refine ⟨u, ?_, key q hq cx r w u st hr⟩
            rw [<- hu]
            show w.cell? ⟨x.b, i * x.sz + (q * 1 + 0), none⟩ = _
            rw [show i * x.sz + (q * 1 + 0) = (i + q) * x.sz + 0 by rw [hxs]; omega]
        . cases hs'
      . rename_i k i j0 n' s
        split at hs'
        . rename_i et en es ev f he
          obtain ⟨hb, hs'⟩ := cond_some hs'
          injection hs' with h1 h2 h3 h4
          subst h1 h2 h3 h4
          have hsE : s = 1 := Nat.eq_of_beq_eq_true hb
          subst hsE
          obtain ⟨a, cap, rfl, d1, d2⟩ := hx
          refine ⟨a, cap, rfl, d1, fun h0 => ?_⟩
          obtain ⟨x, hx, rfl⟩ := d2 h0
          have hp' : i < en /\ j0 + n' * 1 <= es := a1
          refine ⟨⟨x.b, i * x.sz + j0, none⟩, rfl, rfl, ?_, (fun h => by cases h), (st.dom k x hx.1).1, fun q hq j hj => ?_⟩
          . rintro ⟨k2, e2, y, q1, q2, q3, q4⟩
            have := st.inj k2 k e2 _ y x q1 he q2 hx.1 q3
            exact q4 (by rw [this]; exact List.mem_append_left _ (List.mem_singleton.2 rfl))
          . have hj0 : j = 0 := by omega
            subst hj0
            obtain ⟨u, hu, hr⟩ := blk_cell st he hx (i := i) (j := j0 + (q * 1 + 0)) (show i < en from hp'.1) (show j0 + (q * 1 + 0) < es by omega)
            refine ⟨u, ?_, key q hq cx r w u st hr⟩
            rw [<- hu]
            show w.cell? ⟨x.b, i * x.sz + j0 + (q * 1 + 0), none⟩ = _
            rw [Nat.add_assoc]
        . cases hs'
      . cases hs'
    . cases h
  . cases h
theorem cl_ll {β : Type} [Inhabited β] (F : Elem β) (L : List (List β)) : Cl (.sl false L.length 1 (rowFF F L)) := cl_sl fun i _ j _ => cl_sl fun i' _ j' _ => (F.flat _ _).cl
end Go.Proofs.Ytjknkfjhcapocaa.AX
namespace Go.Proofs.Ytjknkfjhcapocaa
def foldN (n : Nat) : Nat := if n = 0 then 0 else (n - 1) % 65535 + 1
theorem foldN_small {n : Nat} (h : n <= 65535) : foldN n = n := by
 unfold foldN; split <;> omega
theorem foldN_le (n : Nat) : foldN n <= 65535 := by
 unfold foldN; split <;> omega
theorem foldN_step {n : Nat} (h : 65535 < n) : foldN (n % 65536 + n / 65536) = foldN n := by
 unfold foldN
 rw [if_neg (by omega), if_neg (by omega)]
 omega
theorem foldN_add (a b : Nat) : foldN (foldN a + b) = foldN (a + b) := by
 unfold foldN
 by_cases ha : a = 0
 . simp [ha]
 . rw [if_neg ha, if_neg (by omega), if_neg (by omega)]
   omega
def tot : Bool -> List UInt8 -> Nat
 | _, [] => 0
 | true, c :: l => c.toNat * 256 + tot false l
 | false, c :: l => c.toNat + tot true l
def side (hi : Bool) (l : List UInt8) : Bool := hi ^^ decide (l.length % 2 = 1)
theorem side_cons (hi : Bool) (c : UInt8) (l : List UInt8) : side hi (c :: l) = side (!hi) l := by
 unfold side
 rcases Nat.mod_two_eq_zero_or_one l.length with h | h
 . have : (l.length + 1) % 2 = 1 := by omega
   cases hi <;> simp [h, this]
 . have : (l.length + 1) % 2 = 0 := by omega
   cases hi <;> simp [h, this]
theorem tot_append (l m : List UInt8) : ∀ hi, tot hi (l ++ m) = tot hi l + tot (side hi l) m := by
 induction l with
 | nil => intro hi; simp [tot, side]
 | cons c l ih =>
   intro hi
   rw [side_cons, List.cons_append]
   cases hi <;> simp [tot, ih] <;> omega
theorem tot_le2 (l : List UInt8) : 2 * tot true l <= 65535 * l.length + 65025 /\ 2 * tot false l <= 65535 * l.length := by
 induction l with
 | nil => simp [tot]
 | cons c l ih =>
   have := c.toNat_lt
   simp [tot]
   omega
theorem tot_le (l : List UInt8) : tot true l <= 32768 * l.length + 32768 := by have := tot_le2 l; omega
theorem tot_snoc (l : List UInt8) (c : UInt8) : tot true (l ++ [c]) = tot true l + if side true l = true then c.toNat * 256 else c.toNat := by
 rw [tot_append]
 cases side true l <;> simp [tot]
structure BL (l : List Int) : Prop where
 m : ∀ x ∈ l, 0 <= x /\ x < 256
theorem BL.nil : BL [] := ⟨fun x h => by cases h⟩
theorem BL.cons {x : Int} {l : List Int} (hx : 0 <= x /\ x < 256) (h : BL l) : BL (x :: l) := ⟨fun y hy => by
 rcases List.mem_cons.1 hy with rfl | hy
 . exact hx
 . exact h.m y hy⟩
theorem BL.append {l m : List Int} (h : BL l) (k : BL m) : BL (l ++ m) := ⟨fun y hy => by
 rcases List.mem_append.1 hy with hy | hy
 . exact h.m y hy
 . exact k.m y hy⟩
theorem BL.take {l : List Int} (h : BL l) (n : Nat) : BL (l.take n) := ⟨fun y hy => h.m y (List.mem_of_mem_take hy)⟩
theorem BL.drop {l : List Int} (h : BL l) (n : Nat) : BL (l.drop n) := ⟨fun y hy => h.m y (List.mem_of_mem_drop hy)⟩
theorem BL.get {l : List Int} (h : BL l) (i : Nat) : 0 <= l.getD i default /\ l.getD i default < 256 := by
 rcases Nat.lt_or_ge i l.length with hi | hi
 . rw [List.getD_eq_getElem?_getD, List.getElem?_eq_getElem hi]
   exact h.m _ (List.getElem_mem hi)
 . rw [List.getD_eq_getElem?_getD, List.getElem?_eq_none hi]
   exact ⟨Int.le_refl _, by decide⟩
def beN (v : Int) : Nat -> List Int
 | 0 => []
 | n + 1 => v / 256 ^ n % 256 :: beN v n
theorem beN_len (v : Int) : ∀ n, (beN v n).length = n := by
 intro n
 induction n with
 | zero => rfl
 | succ n ih => simp [beN, ih]
theorem beN_BL (v : Int) : ∀ n, BL (beN v n) := by
 intro n
 induction n with
 | zero => exact BL.nil
 | succ n ih => exact BL.cons ⟨Int.emod_nonneg _ (by omega), Int.emod_lt_of_pos _ (by omega)⟩ ih
def beVal (l : List Int) : Int := l.foldl (fun a c => a * 256 + c) 0
theorem beVal_snoc (l : List Int) (c : Int) : beVal (l ++ [c]) = beVal l * 256 + c := by unfold beVal; rw [List.foldl_append]; rfl
end Go.Proofs.Ytjknkfjhcapocaa
