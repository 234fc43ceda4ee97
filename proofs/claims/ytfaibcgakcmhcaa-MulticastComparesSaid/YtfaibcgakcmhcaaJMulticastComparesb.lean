/- Texts of one's own in one file: BSel, BReg, BAny, BLit, BExec, BLib, BLoop, BDet, BFn, BMeth, BCod, Tys, Ge, Tp, Lr, Fl, Mn, Trk, TrkLem. -/
import Derived.Test.YtfaibcgakcmhcaaJMulticastComparesa
import Derived.LoopN
import Derived.Test.YtfaibcgakcmhcaaChecked
import Derived.IntWalk
import Derived.Deep.Slices
import Derived.OpenShut
import Derived.DataReads
import Derived.ChangeArms
set_option linter.unusedVariables false
set_option linter.unusedSimpArgs false
set_option maxHeartbeats 16000000
set_option maxRecDepth 20000
namespace Go.Proofs.Ytfaibcgakcmhcaa.AX
section
variable {α : Type}
def ZV (e : List (Nat × α)) (t : Nat) : Bool:=e.any λp=>Nat.beq p.1 t
theorem QX (k : Nat) (v : α) (e : List (Nat × α)) (t : Nat) : ZV ((k,v) :: e) t = (Nat.beq k t || ZV e t):=rfl
theorem zEF (a b : Nat) : Nat.beq a b = Nat.beq b a:=by
 cases h : Nat.beq a b with
 | true=>have:=Nat.eq_of_beq_eq_true h;subst this;exact h.symm
 | false=>
   cases h2 : Nat.beq b a with
   | false=>rfl
   | true=>have:=Nat.eq_of_beq_eq_true h2;subst this;rw [h] at h2;exact h2
theorem qB (d : α) : ∀ (e b : List (Nat × α)) (t : Nat),qu d (e ++ b) t = bif ZV e t then qu d e t else qu d b t:=by
 intro e;induction e with
 | nil=>intro b t;rfl
 | cons p e ih=>
   intro b t;obtain ⟨k,v⟩:=p;rw [QX,List.cons_append,qu,qu,ih,zEF k t];cases Nat.beq t k<;>simp
def qT (S : Nat -> Bool) : List (List (Nat × α)) -> Nat -> List (Nat × α) -> List (Nat × α)
 | [],_,b=>b
 | e :: es,k,b=>qT S es (k + 1) (bif S k then e ++ b else b)
theorem qv (d : α) (t : Nat) (S S' : Nat -> Bool) : ∀ (es : List (List (Nat × α))) (k : Nat) (b b' : List (Nat × α)),qu d b t = qu d b' t ->
 (∀ j e,es[j]? = some e -> ZV e t = true -> S (k + j) = S' (k + j)) -> qu d (qT S es k b) t = qu d (qT S' es k b') t:=by
 intro es;induction es with
 | nil=>intro k b b' h _;exact h
 | cons e es ih=>
   intro k b b' h hs;rw [qT,qT];refine ih _ _ _ ?_ λj e' he hk=>?_
   . cases hk : ZV e t with
     | true=>
       have h0:=hs 0 e rfl hk;rw [Nat.add_zero] at h0;rw [<- h0];cases S k with
       | true=>rw [cond_true,cond_true,qB,qB,hk];rfl
       | false=>exact h
     | false=>
       have : ∀ (c : Bool) (x : List (Nat × α)),qu d (bif c then e ++ x else x) t = qu d x t:=λc x=>by
        cases c with
        | true=>rw [cond_true,qB,hk];rfl
        | false=>rfl
       rw [this,this,h]
   . have:=hs (j + 1) e' (by simpa using he) hk;rw [show k + 1 + j = k + (j + 1) by omega];exact this
theorem sel_over (d : α) (S : Nat -> Bool) (E : List (Nat × α)) : ∀ (es : List (List (Nat × α))) (k : Nat) (b : List (Nat × α)) (t : Nat),
 (∀ j e,es[j]? = some e -> S (k + j) = true -> ∀ t,ZV E t = true -> ZV e t = false) -> qu d (qT S es k (E ++ b)) t = qu d (E ++ qT S es k b) t:=by
 intro es k b t h;cases hE : ZV E t with
 | true=>
   rw [qB,hE,cond_true];have h1 : qu d (qT S es k (E ++ b)) t = qu d (qT (λ_=>false) es k (E ++ b)) t:=qv d t _ _ es k _ _ rfl λj e he hk=>by
    cases hS : S (k + j) with
    | false=>rfl
    | true=>rw [h j e he hS t hE] at hk;cases hk
   rw [h1];have h2 : ∀ (es : List (List (Nat × α))) (k : Nat) (x : List (Nat × α)),qT (λ_=>false) es k x = x:=by
    intro es;induction es with
    | nil=>intro k x;rfl
    | cons e es ih=>intro k x;rw [qT];exact ih _ _
   rw [h2,qB,hE];rfl
 | false=>
   rw [qB,hE,cond_false];exact qv d t _ _ es k _ _ (by rw [qB,hE];rfl) λ_ _ _ _=>rfl
theorem zDd (d : α) (S : Nat -> Bool) : ∀ (es : List (List (Nat × α))) (k : Nat) (b : List (Nat × α)) (m : Nat) (E : List (Nat × α)) (t : Nat),es[m]? = some E -> S (k + m) = false ->
 (∀ j e,m < j -> es[j]? = some e -> S (k + j) = true -> ∀ t,ZV E t = true -> ZV e t = false) ->
 qu d (qT (λx=>x == k + m || S x) es k b) t = qu d (E ++ qT S es k b) t:=by
 intro es;induction es with
 | nil=>intro k b m E t h;cases m<;>cases h
 | cons e es ih=>
   intro k b m E t he hS hj;cases m with
   | zero=>
     simp only [List.getElem?_cons_zero,Option.some.injEq] at he;subst he;simp only [Nat.add_zero] at hS;rw [qT,qT];simp only [Nat.add_zero,beq_self_eq_true,Bool.true_or,cond_true,hS,cond_false];have h1 : qu d (qT (λx=>x == k || S x) es (k + 1) (e ++ b)) t = qu d (qT S es (k + 1) (e ++ b)) t:=qv d t _ _ es _ _ _ rfl λj _ _ _=>by
      have : (k + 1 + j == k) = false:=by simp;omega
      simp [this]
     rw [h1];exact sel_over d S e es (k + 1) b t λj e' he' hS' t ht=>hj (j + 1) e' (by omega) (by simpa using he') (by rw [show k + (j + 1) = k + 1 + j by omega];exact hS') t ht
   | succ m=>
     have he' : es[m]? = some E:=by simpa using he
     have hk : (k == k + (m + 1)) = false:=by simp
     rw [qT,qT];simp only [hk,Bool.false_or];have:=ih (k + 1) (bif S k then e ++ b else b) m E t he' (by rw [show k + 1 + m = k + (m + 1) by omega];exact hS) (λj e' hmj hej hSj=>hj (j + 1) e' (by omega) (by simpa using hej) (by rw [show k + (j + 1) = k + 1 + j by omega];exact hSj));rw [show k + 1 + m = k + (m + 1) by omega] at this;exact this
theorem zBP : ∀ (es : List (List (Nat × α))) (k m : Nat) (b : List (Nat × α)),qT (λx=>decide (x < k + m)) es k b = qT (λ_=>true) (es.take m) k b:=by
 intro es;induction es with
 | nil=>intro k m b;simp [qT]
 | cons e es ih=>
   intro k m b;cases m with
   | zero=>
     rw [List.take_zero];simp only [Nat.add_zero];have : ∀ (es : List (List (Nat × α))) (q : Nat) (x : List (Nat × α)),k <= q -> qT (λx=>decide (x < k)) es q x = x:=by
      intro es;induction es with
      | nil=>intro q x _;rfl
      | cons e es ih=>intro q x hq;rw [qT,decide_eq_false (by omega),cond_false];exact ih _ _ (by omega)
     exact this _ _ _ (Nat.le_refl _)
   | succ m=>
     rw [List.take_succ_cons,qT,qT,decide_eq_true (by omega)];have:=ih (k + 1) m (e ++ b);rw [show k + 1 + m = k + (m + 1) by omega] at this;exact this
end
def mask (acc : List Nat) (o : Oper) : Nat:=o.after.toList.foldl (λs e=>bif Region.binds .any e then s ||| (2 ^ e.on ||| (acc[e.on]?).getD 0) else s) 0
def zEG : List Oper -> List Nat -> List Nat
 | [],acc=>acc
 | o :: os,acc=>zEG os (acc ++ [mask acc o])
theorem mask_fold {acc : List Nat} {Z : Nat -> Prop} {j : Nat} : ∀ (l : List Edge) (s : Nat),(s.testBit j = true -> Z j) -> (∀ e ∈ l,Region.binds .any e = true -> (∀ x,(x = e.on \/ ((acc[e.on]?).getD 0).testBit x = true) -> Z x)) ->
 (l.foldl (λs e=>bif Region.binds .any e then s ||| (2 ^ e.on ||| (acc[e.on]?).getD 0) else s) s).testBit j = true -> Z j:=by
 intro l;induction l with
 | nil=>intro s hs _ h;exact hs h
 | cons e l ih=>
   intro s hs hl h;rw [List.foldl_cons] at h;refine ih _ (λh1=>?_) (λe' he'=>hl e' (List.mem_cons_of_mem _ he')) h;cases hb : Region.binds .any e with
   | false=>rw [hb,cond_false] at h1;exact hs h1
   | true=>
     rw [hb,cond_true,Nat.testBit_or,Nat.testBit_or,Nat.testBit_two_pow] at h1;simp only [Bool.or_eq_true,decide_eq_true_eq] at h1;rcases h1 with h1 | h1 | h1
     . exact hs h1
     . exact hl e (List.mem_cons_self ..) hb j (.inl h1.symm)
     . exact hl e (List.mem_cons_self ..) hb j (.inr h1)
theorem zAI {ops : List Oper} {Z : Nat -> Prop} (hZ : ∀ i o,ops[i]? = some o -> Z i -> ∀ e ∈ o.after,Region.binds .any e = true -> Z e.on) :
 ∀ (os : List Oper) (acc : List Nat),(∀ j,os[j]? = ops[acc.length + j]?) -> (∀ i m,acc[i]? = some m -> Z i -> ∀ j,m.testBit j = true -> Z j) ->
 ∀ i m,(zEG os acc)[i]? = some m -> Z i -> ∀ j,m.testBit j = true -> Z j:=by
 intro os;induction os with
 | nil=>intro acc _ h;exact h
 | cons o os ih=>
   intro acc hos h;refine ih (acc ++ [mask acc o]) (λj=>?_) (λi m hi hz j hj=>?_)
   . have:=hos (j + 1);simp only [List.getElem?_cons_succ] at this;rw [this,List.length_append,List.length_singleton];congr 1;omega
   . rcases Nat.lt_or_ge i acc.length with hlt | hge
     . rw [List.getElem?_append_left hlt] at hi;exact h i m hi hz j hj
     . rw [List.getElem?_append_right hge] at hi;have h0 : i - acc.length = 0:=by
        rcases Nat.eq_zero_or_pos (i - acc.length) with h0 | h0
        . exact h0
        . rw [List.getElem?_eq_none (by simp;omega)] at hi;cases hi
       rw [h0] at hi;simp only [List.getElem?_cons_zero,Option.some.injEq] at hi;subst hi;have hio : ops[i]? = some o:=by
        have:=hos 0;simp only [List.getElem?_cons_zero,Nat.add_zero] at this;rw [show i = acc.length by omega];exact this.symm
       refine mask_fold (Z:=Z) o.after.toList 0 (λh1=>by simp at h1) (λe he hb x hx=>?_) hj;have hZe:=hZ i o hio hz e (by simpa using he) hb;rcases hx with rfl | hx
       . exact hZe
       . cases ha : acc[e.on]? with
         | none=>rw [ha] at hx;simp at hx
         | some m'=>rw [ha] at hx;exact h e.on m' ha hZe x hx
end Go.Proofs.Ytfaibcgakcmhcaa.AX
namespace Go.Proofs.Ytfaibcgakcmhcaa.AX
open Go.RowKit
def zCc (o : Op) : List Nat:=o.operands.toList.filterMap fun | .tmp t=>some t | _=>none
theorem zB9 {fr fr' : Fr} {o : Op} (h : ∀ t ∈ zCc o,QH fr t = QH fr' t) {x : Operand} (hx : x ∈ o.operands) : ev fr x = ev fr' x:=by
 cases x with
 | tmp t=>exact h t (List.mem_filterMap.2 ⟨.tmp t,by simpa using hx,rfl⟩)
 | const v=>rfl
 | global g=>rfl
 | func f=>rfl
theorem loadF_rd {ti : TI} {m : Nat} {g : Nat -> CV} {lit : Bool} {q : Option Prop} {rd : List Nat} {sr : SR} (h : zBx ti m g lit q rd = some sr) : sr.rd = rd:=by
 unfold zBx at h;split at h
 . injection h with h;subst h;rfl
 . injection h with h;subst h;rfl
 . rw [CV.see_eq] at h;injection h with h;subst h;rfl
theorem qZ {α : Type} {c : Bool} {a b : α} (h : (bif c then some a else none) = some b) : c = true /\ a = b:=by
 cases c with
 | true=>exact ⟨rfl,by injection h⟩
 | false=>cases h
theorem Yv {H H' : Hp} {sz : Nat} {x : FV} {s : Src} (h : zAg H sz x = some s) (hh : ∀ k ∈ s.rd,zX H k = zX H' k) : zAg H' sz x = some s:=by
 unfold zAg at h ⊢;split at h
 . exact h
 . exact h
 . rename_i nm i n;try simp only
   split at h
   . rename_i et en es ev f he;cases hb : Nat.beq es sz with
     | false=>rw [hb] at h;cases h
     | true=>
       rw [hb,cond_true] at h;injection h with h;subst h;rw [<- hh nm (List.mem_singleton.2 rfl),he];simp only [hb,cond_true]
   . cases h
 . rename_i nm i j n s';try simp only
   split at h
   . rename_i et en es ev f he;cases hb : Nat.beq s' sz with
     | false=>rw [hb] at h;cases h
     | true=>
       rw [hb,cond_true] at h;injection h with h;subst h;rw [<- hh nm (List.mem_singleton.2 rfl),he];simp only [hb,cond_true]
   . cases h
 . cases h
theorem zF9 {T : YU} {t t' : TypeId} {x y : FV} {H H' : Hp} {nm : Nat} {sr : SR} (h : appZ T t t' x y H nm = some sr) (hh : ∀ k ∈ sr.rd,zX H k = zX H' k) : appZ T t t' x y H' nm = some sr:=by
 unfold appZ at h ⊢;split at h
 . rename_i e es _ _ _ _ kk _ _ _ _ hTt hTt';try simp only
   split at h
   . rename_i d1 s1 z eq1 bytes k i n kq q hTe;try simp only [hTe]
     split at h
     . rename_i et en esz f he;cases hbc : (Nat.beq i 0 && Nat.beq esz es && Nat.beq et e && Nat.beq z.length es && Nat.blt 0 es) with
       | false=>rw [hbc] at h;cases h
       | true=>
         rw [hbc,cond_true] at h;injection h with h;subst h;rw [<- hh k (List.mem_singleton.2 rfl),he];simp only [hbc,cond_true]
     . cases h
   . cases h
 . cases h
theorem zFL {T : YU} {b : Builtin} {ts : Array TypeId} {args : List FV} {H H' : Hp} {nm : Nat} {sr : SR} (h : zET T b ts args H nm = some sr) (hh : ∀ k ∈ sr.rd,zX H k = zX H' k) : zET T b ts args H' nm = some sr:=by
 unfold zET at h ⊢;split at h
 . exact h
 . exact h
 . exact h
 . rename_i x y;try simp only
   split at h
   . rename_i t t' hts;try simp only [hts]
     cases hbt : Nat.beq t t' with
     | false=>
       rw [hbt,cond_false] at h;rw [cond_false];exact zF9 h hh
     | true=>
       rw [hbt,cond_true] at h;rw [cond_true];split at h
       . rename_i e es s0 z0 eq0 by0 hTt;try simp only
         split at h
         . rename_i d1 s1 z eq1 bytes m g p rd hTe hsrc;have hrd : ∀ k ∈ rd,k ∈ sr.rd:=by
            cases hbz : Nat.beq z.length es with
            | false=>rw [hbz] at h;cases h
            | true=>
              rw [hbz,cond_true] at h;split at h
              . injection h with h;subst h;exact λk hk=>hk
              . split at h
                . obtain ⟨_,h⟩:=qZ h;subst h;exact λk hk=>List.mem_cons_of_mem _ hk
                . cases h
              . cases h
           cases hb0 : Nat.blt 0 es with
           | false=>rw [hb0] at hsrc;cases hsrc
           | true=>
             rw [hb0,cond_true] at hsrc;rw [cond_true,Yv hsrc (λk hk=>hh k (hrd k hk)),hTe];try simp only
             cases hbz : Nat.beq z.length es with
             | false=>rw [hbz] at h;cases h
             | true=>
               rw [hbz,cond_true] at h;rw [cond_true];split at h
               . exact h
               . rename_i k i n;try simp only
                 split at h
                 . rename_i et en esz f he;cases hbc : (Nat.beq i 0 && Nat.beq esz es && Nat.beq et e) with
                   | false=>rw [hbc] at h;cases h
                   | true=>
                     rw [hbc,cond_true] at h;injection h with h;subst h;rw [<- hh k (List.mem_cons_self ..),he];simp only [hbc,cond_true]
                 . cases h
               . cases h
         . cases h
       . cases h
   . cases h
 . rename_i x y;try simp only
   split at h
   . rename_i t ht;try simp only
     split at h
     . rename_i e es s0 z0 eq0 by0 hTt;try simp only
       split at h
       . rename_i m g p rd hsrc;have hrd : ∀ k ∈ rd,k ∈ sr.rd:=by
          split at h
          . split at h
            . obtain ⟨_,h⟩:=qZ h;subst h;exact λk hk=>List.mem_cons_of_mem _ hk
            . cases h
          . split at h
            . obtain ⟨_,h⟩:=qZ h;subst h;exact λk hk=>List.mem_cons_of_mem _ hk
            . cases h
          . cases h
         cases hb0 : Nat.blt 0 es with
         | false=>rw [hb0] at hsrc;cases hsrc
         | true=>
           rw [hb0,cond_true] at hsrc;rw [cond_true,Yv hsrc (λk hk=>hh k (hrd k hk))];try simp only
           split at h
           . rename_i k i n;try simp only
             split at h
             . rename_i et en esz f he;cases hbc : Nat.beq esz es with
               | false=>rw [hbc] at h;cases h
               | true=>
                 rw [hbc,cond_true] at h;injection h with h;subst h;rw [<- hh k (List.mem_cons_self ..),he];simp only [hbc,cond_true]
             . cases h
           . rename_i k i j n s;try simp only
             split at h
             . rename_i et en esz v f he;cases hbc : Nat.beq s es with
               | false=>rw [hbc] at h;cases h
               | true=>
                 rw [hbc,cond_true] at h;injection h with h;subst h;rw [<- hh k (List.mem_cons_self ..),he];simp only [hbc,cond_true]
             . cases h
           . cases h
       . cases h
     . cases h
   . cases h
 . cases h
theorem zEo {T : YU} {t : TypeId} {x : FV} {lo hi : Option FV} {H H' : Hp} {sr : SR} (h : zCi T H t x lo hi = some sr) (hh : ∀ k ∈ sr.rd,zX H k = zX H' k) : zCi T H' t x lo hi = some sr:=by
 unfold zCi at h ⊢;split at h
 . exact h
 . rename_i e es s0 z0 eq0 by0 k i n ht;try simp only
   split at h
   . rename_i p l q hb;try simp only
     split at h
     . rename_i et en esz ev0 ef he;cases hb0 : Nat.beq esz es with
       | false=>rw [hb0] at h;cases h
       | true=>
         rw [hb0,cond_true] at h;injection h with h;subst h;rw [<- hh k (List.mem_singleton.2 rfl),he];simp only [hb0,cond_true]
     . cases h
   . cases h
 . exact h
 . exact h
 . exact h
 . cases h
theorem zEp {T : YU} {H H' : Hp} {t : TypeId} {x k : FV} {ok : Bool} {sr : SR} (h : zCj T H t x k ok = some sr) (hh : ∀ k ∈ sr.rd,zX H k = zX H' k) : zCj T H' t x k ok = some sr:=by
 unfold zCj at h ⊢;split at h
 . rename_i kt et ks vs ka va _ _ _ _ nm hTt;try simp only
   split at h
   . rename_i et' n sz b f kn l g ed z0 z eq0 by0 hH hkey hTe;obtain ⟨hb,hs⟩:=zFP h;have hs':=Option.some.inj hs;have hrd : nm ∈ sr.rd:=by rw [<- hs'];exact List.mem_singleton.2 rfl
     rw [<- hh nm hrd,hH,hTe];simp only [hkey];exact h
   . cases h
 . cases h
theorem zCA {T : YU} {H H' : Hp} {t : TypeId} {x k v : FV} {sr : SR} (h : zAZ T H t x k v = some sr) (hh : ∀ k ∈ sr.rd,zX H k = zX H' k) : zAZ T H' t x k v = some sr:=by
 unfold zAZ at h ⊢;split at h
 . rename_i kt et ks vs ka va _ _ _ _ nm ve hTt;try simp only
   split at h
   . rename_i et' n sz b f kn l g vn vg hH hkey hcv;obtain ⟨hb,hs⟩:=YI h;have hrd : nm ∈ sr.rd:=by rw [<- hs];exact List.mem_singleton.2 rfl
     rw [<- hh nm hrd,hH,hcv];simp only [hkey];exact h
   . cases h
 . cases h
theorem zFM {T : YU} {o : Op} {fr fr' : Fr} {H H' : Hp} {nm : Nat} {sr : SR} (h : qW T o fr H nm = some sr) (hf : ∀ t ∈ zCc o,QH fr t = QH fr' t) (hh : ∀ k ∈ sr.rd,zX H k = zX H' k) :
 qW T o fr' H' nm = some sr:=by
 have E : ∀ x,x ∈ o.operands -> ev fr x = ev fr' x:=λx hx=>zB9 hf hx;cases o;case load t x=>
  have e1:=E x (by simp [Op.operands]);simp only [qW] at h ⊢;rw [<- e1];split at h
  . rename_i ti k i j sym h1 h2;split at h
    . rename_i et en es v ef he;have:=hh k (by rw [loadF_rd h];exact List.mem_singleton.2 rfl);rw [<- this,he];exact h
    . cases h
  . exact h
  . cases h
 case store t x y=>
  have e1:=E x (by simp [Op.operands]);have e2:=E y (by simp [Op.operands]);simp only [qW] at h ⊢;rw [<- e1,<- e2];split at h
  . rename_i d0 tsz z0 eq0 by0 k i j sym z h1 h2 h3;split at h
    . rename_i et en es v ef n g he hc;cases hb0 : Nat.beq n tsz with
      | false=>rw [hb0] at h;cases h
      | true=>
        rw [hb0,cond_true] at h;injection h with h;subst h;have:=hh k (List.mem_singleton.2 rfl);rw [<- this,he,hc];simp only [hb0,cond_true]
    . cases h
  . cases h
 case call c=>
  obtain ⟨callee,args,ts⟩:=c;have hm : args.toList.map (ev fr) = args.toList.map (ev fr'):=List.map_congr_left λx hx=>E x (by simp [Op.operands,Call.operands];exact .inr (by simpa using hx));cases callee with
  | builtin b=>simp only [qW] at h ⊢;rw [<- hm];exact zFL h hh
  | invoke x m=>simp only [qW,reduceCtorEq] at h
  | value f=>simp only [qW,reduceCtorEq] at h
 case build t ps=>
  have hm : (ps.toList.map λp=>(p.1,ev fr p.2)) = ps.toList.map λp=>(p.1,ev fr' p.2):=List.map_congr_left λp hp=>by
   rw [E p.2 (by simp [Op.operands];exact ⟨p.1,by simpa using hp⟩)]
  simp only [qW] at h ⊢;rw [<- hm];exact h
 case buildSlice t len ps=>
  have hm : (ps.toList.map λp=>(p.1,ev fr p.2)) = ps.toList.map λp=>(p.1,ev fr' p.2):=List.map_congr_left λp hp=>by
   rw [E p.2 (by simp [Op.operands];exact ⟨p.1,by simpa using hp⟩)]
  simp only [qW] at h ⊢;rw [<- hm];exact h
 case makeFunc fn first captured=>
  have h1 : first.toList.map (ev fr) = first.toList.map (ev fr'):=List.map_congr_left λx hx=>E x (by simp [Op.operands];exact .inl (by simpa using hx))
  have h2 : captured.toList.map (ev fr) = captured.toList.map (ev fr'):=List.map_congr_left λx hx=>E x (by simp [Op.operands];exact .inr (by simpa using hx));cases fn with
  | func f=>simp only [qW] at h ⊢;rw [<- h1,<- h2];exact h
  | method n=>simp only [qW,reduceCtorEq] at h
  | methodOf t n=>simp only [qW,reduceCtorEq] at h
  | via t p f b=>simp only [qW,reduceCtorEq] at h
  | yield l=>simp only [qW,reduceCtorEq] at h
 case makeMap t rs=>
  cases rs with
  | some y=>simp only [qW,reduceCtorEq] at h
  | none=>simp only [qW] at h ⊢;exact h
 case lookup t x k ok=>simp only [qW] at h ⊢;rw [<- E x (by simp [Op.operands]),<- E k (by simp [Op.operands])];exact zEp h hh
 case mapUpdate t m k x=>simp only [qW] at h ⊢;rw [<- E m (by simp [Op.operands]),<- E k (by simp [Op.operands]),<- E x (by simp [Op.operands])];exact zCA h hh
 case insert t m k x=>simp only [qW] at h ⊢;rw [<- E m (by simp [Op.operands]),<- E k (by simp [Op.operands]),<- E x (by simp [Op.operands])];exact zCA h hh
 case slice t x lo hi mx=>
  have e1:=E x (by simp [Op.operands]);have e2 : lo.map (ev fr) = lo.map (ev fr'):=by
   cases lo with
   | none=>rfl
   | some y=>simp only [Option.map_some,E y (by simp [Op.operands])]
  have e3 : hi.map (ev fr) = hi.map (ev fr'):=by
   cases hi with
   | none=>rfl
   | some y=>simp only [Option.map_some,E y (by simp [Op.operands])]
  cases mx with
  | some m=>simp only [qW,reduceCtorEq] at h
  | none=>
    simp only [qW] at h ⊢;rw [<- e1,<- e2,<- e3];exact zEo h hh
 case indexAddr t x y=>
  simp only [qW] at h ⊢;rw [<- E x (by simp [Op.operands]),<- E y (by simp [Op.operands])];split at h
  . exact h
  . rename_i e es eb sz0 z eq0 by0 k b n kk i ht hxe hie;split at h
    . rename_i et en esz ev0 ef he;cases hb0 : (Nat.blt 0 es && Nat.beq esz es) with
      | false=>rw [hb0] at h;cases h
      | true=>
        rw [hb0,cond_true] at h;injection h with h;subst h;rw [<- hh k (List.mem_singleton.2 rfl),he];simp only [hb0,cond_true]
    . cases h
  . exact h
  . exact h
  . exact h
  . cases h
 case pick c x y=>simp only [qW] at h ⊢;rw [<- E c (by simp [Op.operands]),<- E x (by simp [Op.operands]),<- E y (by simp [Op.operands])];exact h
 case binOp op t x y ty=>simp only [qW] at h ⊢;rw [<- E x (by simp [Op.operands]),<- E y (by simp [Op.operands])];exact h
 case makeSlice t x y=>simp only [qW] at h ⊢;rw [<- E x (by simp [Op.operands]),<- E y (by simp [Op.operands])];exact h
 case index t x y=>simp only [qW] at h ⊢;rw [<- E x (by simp [Op.operands]),<- E y (by simp [Op.operands])];exact h
 case move x=>simp only [qW] at h ⊢;rw [<- E x (by simp [Op.operands])];exact h
 case assign x=>simp only [qW] at h ⊢;rw [<- E x (by simp [Op.operands])];exact h
 case alloc t=>simp only [qW] at h ⊢;exact h
 case box t x=>simp only [qW] at h ⊢;rw [<- E x (by simp [Op.operands])];exact h
 case nilCheck x=>simp only [qW] at h ⊢;rw [<- E x (by simp [Op.operands])];exact h
 case unOp op t x=>simp only [qW] at h ⊢;rw [<- E x (by simp [Op.operands])];exact h
 case convert s d x=>simp only [qW] at h ⊢;rw [<- E x (by simp [Op.operands])];exact h
 case fieldAddr t x f=>simp only [qW] at h ⊢;rw [<- E x (by simp [Op.operands])];exact h
 case field t x f=>simp only [qW] at h ⊢;rw [<- E x (by simp [Op.operands])];exact h
 case extract x i=>simp only [qW] at h ⊢;rw [<- E x (by simp [Op.operands])];exact h
 all_goals simp only [qW,reduceCtorEq] at h
theorem zEq {o : Op} {fr fr' : Fr} (hf : ∀ t ∈ zCc o,QH fr t = QH fr' t) : zCk o fr' = zCk o fr:=by
 have E : ∀ x,x ∈ o.operands -> ev fr x = ev fr' x:=λx hx=>zB9 hf hx;cases o;case call c=>
  obtain ⟨callee,args,ts⟩:=c;have hm : args.toList.map (ev fr) = args.toList.map (ev fr'):=List.map_congr_left λx hx=>E x (by simp [Op.operands,Call.operands];exact .inr (by simpa using hx));cases callee with
  | builtin b=>rfl
  | invoke x m=>rfl
  | value f=>
    have e1:=E f (by simp [Op.operands,Call.operands]);simp only [zCk];rw [<- hm,<- e1]
 all_goals rfl
theorem zCd {P : Program} {T : YU} {o : Op} {fr fr' : Fr} {H H' : Hp} {nm wd : Nat} {sr : SR} (h : Stp P T o fr H nm wd sr) (hf : ∀ t ∈ zCc o,QH fr t = QH fr' t) (hh : ∀ k ∈ sr.rd,zX H k = zX H' k) (hall : zBt ∈ sr.rd -> ∀ k,zX H k = zX H' k) : Stp P T o fr' H' nm wd sr:=by
 rcases h with ⟨h1,h2⟩ | ⟨f,args,h1,h2,h3⟩
 . exact .inl ⟨zFM h1 hf hh,h2⟩
 . exact .inr ⟨f,args,(zEq hf).trans h1,h2,λH2 hH2 cx r w vals g1 g2 gw g3=>h3 H2 (λk hk=>(hh k hk).trans (hH2 k hk)) cx r w vals g1 g2 (λh=>⟨λk=>(hall h k).trans ((gw h).1 k),(gw h).2⟩) g3⟩
def YQ (d : Option Tmp) (v : FV) : Fr:=
 match d with
 | some t=>[(t,v)]
 | none=>[]
def qt (e : Hp) : List Nat:=e.map (·.1)
def zEr (all : List Oper) (j : Nat) : Option Nat:=(all[j]?).bind (·.dst)
def zCB (all : List Oper) (o : Oper) (fr : Fr) : Option Bool:=
 match o.guard with
 | none=>some true
 | some (j,want)=>
   match zEr all j with
   | some t=>match QH fr t with
     | .e (.c (.bool b))=>some (bif want then b else !b)
     | .tup []=>some false
     | _=>none
   | none=>none
def isG (all : List Oper) (i : Nat) : Bool:=all.any λo=>match o.guard with | some (j,_)=>Nat.beq j i | none=>false
def zEE (nt : Nat) : Option Tmp -> Bool
 | some t=>Nat.blt t nt
 | none=>true
abbrev Log:=List (List Nat × List Nat)
abbrev Qf:=(FV -> Hp -> List Nat -> Prop) -> Prop
abbrev Qs:=FuncId -> List FV -> Hp -> Nat -> Nat -> Option Qf
def zBI (P : Program) (Q : Qs) : Prop:=∀ f args H nm wd q,0 < wd -> Q f args H nm wd = some q -> ∀ K,q K -> ∃ v e rd,zC0 P f args H nm wd ⟨none,v,e,rd⟩ /\ K v e rd
def zCe (Q : Qs) : Prop:=∀ f args H nm wd q,Q f args H nm wd = some q -> ∀ K K' : FV -> Hp -> List Nat -> Prop,(∀ v e rd,K v e rd -> K' v e rd) -> q K -> q K'
def Yw (T : YU) (Q : Qs) (wd nt : Nat) (all : List Oper) : List Oper -> Nat -> Fr -> Hp -> Nat -> Log -> (Fr -> Hp -> Nat -> Log -> Prop) -> Prop
 | [],_,fr,H,nx,log,K=>K fr H nx log
 | o :: rest,i,fr,H,nx,log,K=>
   bif zEE nt o.dst then
    match zCB all o fr with
    | some true=>
      match zCk o.op fr with
      | some (f,args)=>
        match Q f args H nx wd,isG all i with
        | some q,false=>q λv e rd=>Yw T Q wd nt all rest (i + 1) (YQ o.dst v ++ fr) (e ++ H) (nx + wd) ((qt e,rd) :: log) K
        | _,_=>False
      | none=>
        match qW T o.op fr H nx with
        | some ⟨pre,val,eff,rd⟩=>
          match pre,isG all i,val with
          | none,false,v=>Yw T Q wd nt all rest (i + 1) (YQ o.dst v ++ fr) (eff ++ H) (nx + wd) ((qt eff,rd) :: log) K
          | some p,false,v=>p /\ Yw T Q wd nt all rest (i + 1) (YQ o.dst v ++ fr) (eff ++ H) (nx + wd) ((qt eff,rd) :: log) K
          | none,true,.e (.c (.bool b))=>(b = true -> Yw T Q wd nt all rest (i + 1) (YQ o.dst (.e (.c (.bool true))) ++ fr) (eff ++ H) (nx + wd) ((qt eff,rd) :: log) K) /\ (b = false -> Yw T Q wd nt all rest (i + 1) (YQ o.dst (.e (.c (.bool false))) ++ fr) (eff ++ H) (nx + wd) ((qt eff,rd) :: log) K)
          | some p,true,.e (.c (.bool b))=>p /\ (b = true -> Yw T Q wd nt all rest (i + 1) (YQ o.dst (.e (.c (.bool true))) ++ fr) (eff ++ H) (nx + wd) ((qt eff,rd) :: log) K) /\ (b = false -> Yw T Q wd nt all rest (i + 1) (YQ o.dst (.e (.c (.bool false))) ++ fr) (eff ++ H) (nx + wd) ((qt eff,rd) :: log) K)
          | _,_,_=>False
        | none=>False
    | some false=>Yw T Q wd nt all rest (i + 1) (YQ o.dst (.tup []) ++ fr) H (nx + wd) (([],[]) :: log) K
    | none=>False
   else False
structure Rec where
 ex : Bool
 val : FV
 eff : Hp
 rd : List Nat
def GoodAt (P : Program) (T : YU) (wd nt : Nat) (all : List Oper) (o : Oper) (rc : Rec) (fr : Fr) (H : Hp) (nm : Nat) : Prop:=
 zEE nt o.dst = true /\ zCB all o fr = some rc.ex /\
 match rc.ex with
 | true=>∃ sr,Stp P T o.op fr H nm wd sr /\ sr.val = rc.val /\ sr.eff = rc.eff /\ sr.rd = rc.rd
 | false=>rc.val = .tup [] /\ rc.eff = [] /\ rc.rd = []
def Good (P : Program) (T : YU) (wd nt : Nat) (all : List Oper) : List Oper -> List Rec -> Fr -> Hp -> Nat -> Prop
 | [],[],_,_,_=>True
 | o :: os,rc :: rs,fr,H,nx=>GoodAt P T wd nt all o rc fr H nx /\ Good P T wd nt all os rs (YQ o.dst rc.val ++ fr) (rc.eff ++ H) (nx + wd)
 | _,_,_,_,_=>False
def qS (os : List Oper) (rs : List Rec) : List Fr:=List.zipWith (λo rc=>YQ o.dst rc.val) os rs
def QT (rs : List Rec) : List Hp:=rs.map (·.eff)
def YP (rs : List Rec) : Log:=rs.map λrc=>(qt rc.eff,rc.rd)
theorem selS {α : Type} : ∀ (es : List (List (Nat × α))) (k k' : Nat) (b : List (Nat × α)),qT (λ_=>true) es k b = qT (λ_=>true) es k' b:=by
 intro es;induction es with
 | nil=>intro k k' b;rfl
 | cons e es ih=>intro k k' b;rw [qT,qT];exact ih _ _ _
theorem runR_good {P : Program} {T : YU} {Q : Qs} {wd nt : Nat} (hwd : 0 < wd) (hQ : zBI P Q) {all : List Oper} : ∀ (os : List Oper) (i : Nat) (fr : Fr) (H : Hp) (nx : Nat) (log : Log) (K : Fr -> Hp -> Nat -> Log -> Prop),Yw T Q wd nt all os i fr H nx log K ->
 ∃ rs,Good P T wd nt all os rs fr H nx /\ K (qT (λ_=>true) (qS os rs) 0 fr) (qT (λ_=>true) (QT rs) 0 H) (nx + wd * os.length) ((YP rs).reverse ++ log):=by
 intro os;induction os with
 | nil=>intro i fr H nx log K h;exact ⟨[],trivial,h⟩
 | cons o os ih=>
   intro i fr H nx log K h;have fin : ∀ (rc : Rec),GoodAt P T wd nt all o rc fr H nx -> Yw T Q wd nt all os (i + 1) (YQ o.dst rc.val ++ fr) (rc.eff ++ H) (nx + wd) ((qt rc.eff,rc.rd) :: log) K ->
    ∃ rs,Good P T wd nt all (o :: os) rs fr H nx /\ K (qT (λ_=>true) (qS (o :: os) rs) 0 fr) (qT (λ_=>true) (QT rs) 0 H) (nx + wd * (o :: os).length) ((YP rs).reverse ++ log):=by
    intro rc hg hr;obtain ⟨rs,h1,h2⟩:=ih _ _ _ _ _ _ hr;refine ⟨rc :: rs,⟨hg,h1⟩,?_⟩;have e1 : qT (λ_=>true) (qS (o :: os) (rc :: rs)) 0 fr = qT (λ_=>true) (qS os rs) 0 (YQ o.dst rc.val ++ fr):=by
     show qT _ (YQ o.dst rc.val :: qS os rs) 0 fr = _;rw [qT,cond_true];exact selS _ _ _ _
    have e2 : qT (λ_=>true) (QT (rc :: rs)) 0 H = qT (λ_=>true) (QT rs) 0 (rc.eff ++ H):=by
     show qT _ (rc.eff :: QT rs) 0 H = _;rw [qT,cond_true];exact selS _ _ _ _
    rw [e1,e2,List.length_cons,show nx + wd * (os.length + 1) = nx + wd + wd * os.length by rw [Nat.mul_add,Nat.mul_one];omega];have e3 : (YP (rc :: rs)).reverse ++ log = (YP rs).reverse ++ ((qt rc.eff,rc.rd) :: log):=by simp [YP]
    rw [e3];exact h2
   unfold Yw at h;cases hd : zEE nt o.dst with
   | false=>rw [hd] at h;exact h.elim
   | true=>
     rw [hd,cond_true] at h;split at h
     . rename_i hw;split at h
       . rename_i f args hc;split at h
         . rename_i q hq hG;obtain ⟨v,e,rd,hr,hk⟩:=hQ _ _ _ _ _ _ hwd hq _ h;exact fin ⟨true,v,e,rd⟩ ⟨hd,hw,_,.inr ⟨f,args,hc,hr⟩,rfl,rfl,rfl⟩ hk
         . exact h.elim
       . split at h
         . rename_i pre val eff rd hs;split at h
           . exact fin ⟨true,_,eff,rd⟩ ⟨hd,hw,_,.inl ⟨hs,trivial⟩,rfl,rfl,rfl⟩ h
           . exact fin ⟨true,_,eff,rd⟩ ⟨hd,hw,_,.inl ⟨hs,h.1⟩,rfl,rfl,rfl⟩ h.2
           . rename_i b hG;rcases Bool.eq_false_or_eq_true b with hb | hb
             . subst hb;exact fin ⟨true,_,eff,rd⟩ ⟨hd,hw,_,.inl ⟨hs,trivial⟩,rfl,rfl,rfl⟩ (h.1 rfl)
             . subst hb;exact fin ⟨true,_,eff,rd⟩ ⟨hd,hw,_,.inl ⟨hs,trivial⟩,rfl,rfl,rfl⟩ (h.2 rfl)
           . rename_i p b hG;rcases Bool.eq_false_or_eq_true b with hb | hb
             . subst hb;exact fin ⟨true,_,eff,rd⟩ ⟨hd,hw,_,.inl ⟨hs,h.1⟩,rfl,rfl,rfl⟩ (h.2.1 rfl)
             . subst hb;exact fin ⟨true,_,eff,rd⟩ ⟨hd,hw,_,.inl ⟨hs,h.1⟩,rfl,rfl,rfl⟩ (h.2.2 rfl)
           . exact h.elim
         . exact h.elim
     . rename_i hw;exact fin ⟨false,.tup [],[],[]⟩ ⟨hd,hw,rfl,rfl,rfl⟩ h
     . exact h.elim
theorem Good.at {P : Program} {T : YU} {wd nt : Nat} {all : List Oper} : ∀ (os : List Oper) (rs : List Rec) (fr : Fr) (H : Hp) (nx : Nat),Good P T wd nt all os rs fr H nx -> os.length = rs.length /\
 ∀ (i : Nat) o,os[i]? = some o -> ∃ rc,rs[i]? = some rc /\ GoodAt P T wd nt all o rc (qT (λ_=>true) ((qS os rs).take i) 0 fr) (qT (λ_=>true) ((QT rs).take i) 0 H) (nx + wd * i):=by
 intro os;induction os with
 | nil=>
   intro rs fr H nx h;cases rs with
   | nil=>exact ⟨rfl,λi o h=>by cases i<;>cases h⟩
   | cons=>exact h.elim
 | cons o os ih=>
   intro rs fr H nx h;cases rs with
   | nil=>exact h.elim
   | cons rc rs=>
     obtain ⟨hg,hr⟩:=h;obtain ⟨hl,hi⟩:=ih _ _ _ _ hr;refine ⟨by simp [hl],λi o' ho=>?_⟩;cases i with
     | zero=>
       simp only [List.getElem?_cons_zero,Option.some.injEq] at ho;subst ho;exact ⟨rc,rfl,hg⟩
     | succ i=>
       obtain ⟨rc',h1,h2⟩:=hi i o' (by simpa using ho);refine ⟨rc',by simpa using h1,?_⟩;have e1 : qT (λ_=>true) ((qS (o :: os) (rc :: rs)).take (i + 1)) 0 fr = qT (λ_=>true) ((qS os rs).take i) 0 (YQ o.dst rc.val ++ fr):=by
        show qT _ ((YQ o.dst rc.val :: qS os rs).take (i + 1)) 0 fr = _;rw [List.take_succ_cons,qT,cond_true];exact selS _ _ _ _
       have e2 : qT (λ_=>true) ((QT (rc :: rs)).take (i + 1)) 0 H = qT (λ_=>true) ((QT rs).take i) 0 (rc.eff ++ H):=by
        show qT _ ((rc.eff :: QT rs).take (i + 1)) 0 H = _;rw [List.take_succ_cons,qT,cond_true];exact selS _ _ _ _
       rw [e1,e2,show nx + wd * (i + 1) = nx + wd + wd * i by rw [Nat.mul_add,Nat.mul_one];omega];exact h2
def YZ (all : List Oper) (o : Oper) : List Nat:=
 zCc o.op ++ (match o.guard with | some (j,_)=>(zEr all j).toList | none=>[])
def zB8 (l : List Nat) (t : Nat) : Bool:=l.any (Nat.beq t)
theorem Yf {l : List Nat} {t : Nat} (h : t ∈ l) : zB8 l t = true:=List.any_eq_true.2 ⟨t,h,by simp⟩
def zAp (l : List Nat) : Option Tmp -> Bool
 | some t=>zB8 l t
 | none=>false
def dstEq : Option Tmp -> Option Tmp -> Bool
 | some t,some u=>Nat.beq t u
 | _,_=>false
def zDb (a b : List Nat) : Bool:=a.any (zB8 b)
def zBO (all : List Oper) (o : Oper) (l : List Nat × List Nat) (o' : Oper) (l' : List Nat × List Nat) : Bool:=
 zB8 l.2 zBt || zB8 l'.2 zBt || zAp (YZ all o) o'.dst || zAp (YZ all o') o.dst || dstEq o.dst o'.dst || zDb l.1 l'.1 || zDb l.1 l'.2 || zDb l.2 l'.1
def regOk (all : List Oper) (log : Log) : Bool:=
 let ms:=zEG all []
 (List.range all.length).all λj=>
   match all[j]?,log[j]?,ms[j]? with
   | some oj,some lj,some m=>
     (oj.after.toList.all λe=>!Region.binds .any e || Nat.blt e.on j) &&
     (List.range j).all λi=>
       match all[i]?,log[i]? with
       | some oi,some li=>!zBO all oi li oj lj || m.testBit i
       | _,_=>false
   | _,_,_=>false
def zEn (all : List Oper) (log : Log) : Bool:=regOk all log
theorem zF8 {all : List Oper} {log : Log} (h : regOk all log = true) {j : Nat} {oj : Oper} (hj : all[j]? = some oj) : ∀ e ∈ oj.after,Region.binds .any e = true -> e.on < j:=by
 have hlt : j < all.length:=(List.getElem?_eq_some_iff.1 hj).1;have:=List.all_eq_true.1 h j (List.mem_range.2 hlt);simp only [hj] at this;split at this
 . rename_i o l m h1 h2 h3;injection h1 with h1;subst h1;simp only [Bool.and_eq_true] at this;intro e he hb;have:=List.all_eq_true.1 this.1 e (by simpa using he);rw [hb] at this;simpa using this
 . cases this
theorem zDc {all : List Oper} {log : Log} (h : regOk all log = true) {i j : Nat} {oi oj : Oper} {li lj : List Nat × List Nat} (hij : i < j) (hi : all[i]? = some oi) (hj : all[j]? = some oj) (hli : log[i]? = some li) (hlj : log[j]? = some lj) (hc : zBO all oi li oj lj = true) :
 ∃ m,(zEG all [])[j]? = some m /\ m.testBit i = true:=by
 have hlt : j < all.length:=(List.getElem?_eq_some_iff.1 hj).1;have:=List.all_eq_true.1 h j (List.mem_range.2 hlt);simp only [hj,hlj] at this;split at this
 . rename_i o l m h1 h2 h3;injection h1 with h1;injection h2 with h2;subst h1 h2;simp only [Bool.and_eq_true] at this;have:=List.all_eq_true.1 this.2 i (List.mem_range.2 hij);simp only [hi,hli,hc] at this;exact ⟨m,h3,by simpa using this⟩
 . cases this
def unl : List Bool -> Nat
 | []=>0
 | b :: l=>(bif b then 0 else 1) + unl l
theorem unl_set : ∀ (l : List Bool) (i : Nat),l[i]? = some false -> unl (l.set i true) + 1 = unl l:=by
 intro l;induction l with
 | nil=>intro i h;cases i<;>cases h
 | cons b l ih=>
   intro i h;cases i with
   | zero=>simp only [List.getElem?_cons_zero,Option.some.injEq] at h;subst h;simp only [List.set_cons_zero,unl,cond_true,cond_false];omega
   | succ i=>simp only [List.set_cons_succ,unl];have:=ih i (by simpa using h);omega
theorem zFK : ∀ (l : List Bool),unl l = 0 -> ∀ (i : Nat),i < l.length -> l[i]? = some true:=by
 intro l;induction l with
 | nil=>intro _ i h;simp at h
 | cons b l ih=>
   intro h i hi;cases b with
   | false=>simp only [unl,cond_false] at h;omega
   | true=>
     cases i with
     | zero=>rfl
     | succ i=>simp only [unl,cond_true] at h;simpa using ih (by omega) i (by simpa using hi)
section
variable {P : Program} {cx : Cx} {T : YU} {wd nt : Nat} {d0 : List Deferred}
theorem Yu {a : Act} {d : Option Tmp} {v : Value} : (a.put d v).tmps.size = a.tmps.size /\ (a.put d v).defers = a.defers:=by
 cases d with
 | none=>exact ⟨rfl,rfl⟩
 | some t=>exact ⟨by simp [Act.put],rfl⟩
theorem YW.put {r : QK} {H : Hp} {w : World} {fr : Fr} {a : Act} (h : YW cx r H w fr a.tmps) {d : Option Tmp} (hd : zEE a.tmps.size d = true) {x : FV} {v : Value} (hx : x.rel r cx.X (wr r H) w v) :
 YW cx r H w (YQ d x ++ fr) (a.put d v).tmps:=by
 cases d with
 | none=>exact h
 | some t=>
   intro u;have hlt : t < a.tmps.size:=Nat.le_of_ble_eq_true hd;by_cases hu : u = t
   . subst hu;have e1 : QH (YQ (some u) x ++ fr) u = x:=zn _ _ _ _;rw [e1];simpa [Act.put,hlt] using hx
   . have e1 : QH (YQ (some t) x ++ fr) u = QH fr u:=zZ _ _ _ hu;rw [e1];have:=h u;simp only [Act.put,Array.getD_eq_getD_getElem?] at this ⊢;rw [Array.getElem?_setIfInBounds_ne (Ne.symm hu)];exact this
theorem zCb {all : List Oper} {o : Oper} {r : QK} {H : Hp} {w : World} {fr : Fr} {a : Act} {b : Bool} (h : YW cx r H w fr a.tmps) (hw : zCB all o fr = some b) :
 Region.wanted o (yielded all.toArray a.tmps) = b:=by
 unfold zCB at hw;unfold Region.wanted;cases hg : o.guard with
 | none=>rw [hg] at hw;simp at hw;rw [<- hw]
 | some gw=>
   obtain ⟨j,want⟩:=gw;rw [hg] at hw;simp only at hw ⊢;split at hw
   . rename_i t ht;split at hw
     . rename_i c hc;injection hw with hw;have hv:=h t;rw [hc] at hv;have hv' : a.tmps.getD t undef = .bool c:=hv;have hy : yielded all.toArray a.tmps j = some c:=by
        have ht' : (all[j]?).bind (·.dst) = some t:=ht;have hv2 : a.tmps[t]? = some (.bool c):=by
         cases hat : a.tmps[t]? with
         | none=>simp [Array.getD_eq_getD_getElem?,hat,undef] at hv'
         | some u=>simp [Array.getD_eq_getD_getElem?,hat] at hv';rw [hv']
        simp [yielded,ht',hv2]
       rw [hy,<- hw];cases want<;>cases c<;>rfl
     . rename_i hc;injection hw with hw;have hv:=h t;rw [hc] at hv;obtain ⟨vs,hv',_,_⟩:=hv;have hy : yielded all.toArray a.tmps j = none:=by
        have ht' : (all[j]?).bind (·.dst) = some t:=ht;cases hat : a.tmps[t]? with
        | none=>simp [yielded,ht',hat]
        | some u=>
          have : u = .tuple vs:=by simpa [Array.getD_eq_getD_getElem?,hat] using hv'
          subst this;simp [yielded,ht',hat]
       rw [hy,<- hw];rfl
     . cases hw
   . cases hw
structure Inv (cx : Cx) (all : List Oper) (rs : List Rec) (fr0 : Fr) (H0 : Hp) (nx wd nt : Nat) (d0 : List Deferred) (fx : QK) (listed : Array Bool) (a : Act) (w : World) (r : QK) : Prop where
 size : listed.size = all.length
 closed : ∀ i o,all[i]? = some o -> listed.getD i false = true -> ∀ e ∈ o.after,Region.binds .any e = true -> listed.getD e.on false = true
 st : St cx r (qT (λi=>listed.getD i false) (QT rs) 0 H0) w
 fr : YW cx r (qT (λi=>listed.getD i false) (QT rs) 0 H0) w (qT (λi=>listed.getD i false) (qS all rs) 0 fr0) a.tmps
 names : ∀ k,nx <= k -> (∀ i,listed.getD i false = true -> ¬ (nx + wd * i <= k /\ k < nx + wd * i + wd)) -> r k = none /\ zX (qT (λi=>listed.getD i false) (QT rs) 0 H0) k = none
 tsz : a.tmps.size = nt
 defers : a.defers = d0
 low : ∀ k,k < nx -> r k = fx k
theorem Qo {l : Array Bool} {i j : Nat} (hi : i < l.size) : (l.setIfInBounds i true).getD j false = (j == i || l.getD j false):=by
 by_cases h : j = i
 . subst h;simp [hi]
 . simp [Array.getElem?_setIfInBounds_ne (Ne.symm h),h]
theorem any_order (hT : qP P T) {all : List Oper} {rs : List Rec} {fr0 : Fr} {H0 : Hp} {nx : Nat} (hwd : 0 < wd) (hg : Good P T wd nt all all rs fr0 H0 nx) (hok : regOk all (YP rs) = true) {fx : QK}
 {Q : Exit -> Act -> World -> Prop}
 (hQ : ∀ a w r,St cx r (qT (λ_=>true) (QT rs) 0 H0) w -> YW cx r (qT (λ_=>true) (QT rs) 0 H0) w (qT (λ_=>true) (qS all rs) 0 fr0) a.tmps -> (∀ k,nx + wd * all.length <= k -> r k = none /\ zX (qT (λ_=>true) (QT rs) 0 H0) k = none) -> a.tmps.size = nt -> a.defers = d0 -> (∀ k,k < nx -> r k = fx k) -> Q .normal a w) :
 ∀ (fuel : Nat) (listed : Array Bool) (a : Act) (w : World) (r : QK),unl listed.toList = fuel -> Inv cx all rs fr0 H0 nx wd nt d0 fx listed a w r -> wpAny P .any all.toArray Q fuel listed a w:=by
 obtain ⟨hlen,hat⟩:=Good.at _ _ _ _ _ hg;have full : ∀ (listed : Array Bool) (a : Act) (w : World) (r : QK),(∀ i,i < all.length -> listed.getD i false = true) -> Inv cx all rs fr0 H0 nx wd nt d0 fx listed a w r -> Q .normal a w:=by
  intro listed a w r hall inv;have e1 : ∀ t,QH (qT (λi=>listed.getD i false) (qS all rs) 0 fr0) t = QH (qT (λ_=>true) (qS all rs) 0 fr0) t:=λt=>qv _ _ _ _ _ _ _ _ rfl λj e he _=>by
   rw [Nat.zero_add];have : j < (qS all rs).length:=(List.getElem?_eq_some_iff.1 he).1;exact hall j (by simp [qS] at this;omega)
  have e2 : ∀ t,zX (qT (λi=>listed.getD i false) (QT rs) 0 H0) t = zX (qT (λ_=>true) (QT rs) 0 H0) t:=λt=>qv _ _ _ _ _ _ _ _ rfl λj e he _=>by
   rw [Nat.zero_add];have : j < (QT rs).length:=(List.getElem?_eq_some_iff.1 he).1;exact hall j (by simp [QT] at this;omega)
  refine hQ a w r (inv.st.congr e2) (inv.fr.congr e2 e1) (λk hk=>?_) inv.tsz inv.defers inv.low;rw [<- e2 k];refine inv.names k (by omega) λi hi=>?_;have : i < listed.size:=by
   rcases Nat.lt_or_ge i listed.size with h | h
   . exact h
   . rw [Array.getD_eq_getD_getElem?,Array.getElem?_eq_none h] at hi;cases hi
  rw [inv.size] at this;have h9 : wd * (i + 1) <= wd * all.length:=Nat.mul_le_mul_left _ this;rw [Nat.mul_add,Nat.mul_one] at h9;omega
 have nilAll : ∀ (listed : Array Bool),listed.size = all.length -> Region.ready .any all.toArray listed = [] -> ∀ i,i < all.length -> listed.getD i false = true:=by
  intro listed hs hr i;induction i using Nat.strongRecOn with
  | _ i ih=>
    intro hi;cases hb : listed.getD i false with
    | true=>rfl
    | false=>
      have ho : all[i]? = some all[i]:=List.getElem?_eq_getElem hi;have : i ∈ Region.ready .any all.toArray listed:=mem_ready.2 ⟨by
       rw [Array.getD_eq_getD_getElem?] at hb ⊢;rw [Array.getElem?_eq_getElem (by omega)] at hb ⊢;exact hb,all[i],by simp [hi],λe he hbn=>by
        have hlt:=zF8 hok ho e he hbn;exact ih e.on hlt (by omega)⟩
      rw [hr] at this;cases this
 intro fuel;induction fuel with
 | zero=>
   intro listed a w r hu inv;have hall : ∀ i,i < all.length -> listed.getD i false = true:=λi hi=>by
    have:=zFK _ hu i (by simpa [inv.size] using hi);have h2 : listed[i]? = some true:=by simpa using this
    rw [Array.getD_eq_getD_getElem?,h2];rfl
   refine ⟨?_,full listed a w r hall inv⟩;rw [List.eq_nil_iff_forall_not_mem];intro i hi;obtain ⟨h1,o,ho,_⟩:=mem_ready.1 hi;have hil : i < all.length:=by simpa using (Array.getElem?_eq_some_iff.1 ho).1
   have:=hall i hil;rw [Array.getD_eq_getD_getElem?] at h1 this;rw [Array.getElem?_eq_getElem (by rw [inv.size];exact hil)] at h1 this;simp only [Option.getD_some] at h1 this;rw [h1] at this;cases this
 | succ fuel ih=>
   intro listed a w r hu inv;refine ⟨λhr=>full listed a w r (nilAll listed inv.size hr) inv,λi hi=>?_⟩;obtain ⟨h1,o,ho,hdeps⟩:=mem_ready.1 hi;have hoi : all[i]? = some o:=by simpa using ho
   have hil : i < all.length:=(List.getElem?_eq_some_iff.1 hoi).1;have hisz : i < listed.size:=by rw [inv.size];exact hil
   have hSi : listed.getD i false = false:=by
    rw [Array.getD_eq_getD_getElem?] at h1 ⊢;rw [Array.getElem?_eq_getElem hisz] at h1 ⊢;exact h1
   obtain ⟨rc,hrc,hokd,hwt,hstep⟩:=hat i o hoi;have hli : (YP rs)[i]? = some (qt rc.eff,rc.rd):=by simp [YP,hrc]
   have order : ∀ (j : Nat) (oj : Oper) (rj : Rec),all[j]? = some oj -> rs[j]? = some rj -> (i < j -> zBO all o (qt rc.eff,rc.rd) oj (qt rj.eff,rj.rd) = true) -> (j < i -> zBO all oj (qt rj.eff,rj.rd) o (qt rc.eff,rc.rd) = true) -> listed.getD j false = decide (j < i):=by
    intro j oj rj hj hrj c1 c2;have hlj : (YP rs)[j]? = some (qt rj.eff,rj.rd):=by simp [YP,hrj]
    have hcl:=zAI (ops:=all) (Z:=λx=>listed.getD x false = true) (λx ox hx hz e he hb=>inv.closed x ox hx hz e he hb) all [] (λj=>by simp) (λi m h=>by cases i<;>cases h);rcases Nat.lt_trichotomy j i with hji | hji | hji
    . rw [decide_eq_true hji];obtain ⟨m,hm,hb⟩:=zDc hok hji hj hoi hlj hli (c2 hji);have hcl2:=zAI (ops:=all) (Z:=λx=>x = i \/ listed.getD x false = true) (λx ox hx hz e he hbn=>by
       rcases hz with rfl | hz
       . rw [hoi] at hx;injection hx with hx;subst hx;exact .inr (hdeps e he hbn)
       . exact .inr (inv.closed x ox hx hz e he hbn)) all [] (λj=>by simp) (λi m h=>by cases i<;>cases h)
      rcases hcl2 i m hm (.inl rfl) j hb with h | h
      . omega
      . exact h
    . subst hji;rw [hSi];simp
    . rw [decide_eq_false (by omega)];cases hlst : listed.getD j false with
      | false=>rfl
      | true=>
        obtain ⟨m,hm,hb⟩:=zDc hok hji hoi hj hli hlj (c1 hji);have:=hcl j m hm hlst i hb;rw [hSi] at this;cases this
   have cKey : ∀ {e : Hp} {k : Nat},ZV e k = true -> k ∈ qt e:=by
    intro e k h;obtain ⟨p,hp,hb⟩:=List.any_eq_true.1 h;have:=Nat.eq_of_beq_eq_true hb;exact List.mem_map.2 ⟨p,hp,this⟩
   have frj : ∀ (j : Nat) (e : Fr) (t : Nat),(qS all rs)[j]? = some e -> ZV e t = true -> ∃ (oj : Oper) (rj : Rec),all[j]? = some oj /\ rs[j]? = some rj /\ oj.dst = some t /\ e = YQ oj.dst rj.val:=by
    intro j e t he hk;simp only [qS,List.getElem?_zipWith] at he;cases ha : all[j]? with
    | none=>rw [ha] at he;cases he
    | some oj=>
      cases hr' : rs[j]? with
      | none=>rw [ha,hr'] at he;cases he
      | some rj=>
        rw [ha,hr'] at he;injection he with he;subst he;refine ⟨oj,rj,rfl,rfl,?_,rfl⟩;cases hd : oj.dst with
        | none=>rw [hd] at hk;cases hk
        | some u=>
          rw [hd] at hk;simp only [YQ,ZV,List.any_cons,List.any_nil,Bool.or_false] at hk;rw [Nat.eq_of_beq_eq_true hk]
   have hpj : ∀ (j : Nat) (e : Hp),(QT rs)[j]? = some e -> ∃ (oj : Oper) (rj : Rec),all[j]? = some oj /\ rs[j]? = some rj /\ e = rj.eff:=by
    intro j e he;simp only [QT,List.getElem?_map] at he;cases hr' : rs[j]? with
    | none=>rw [hr'] at he;cases he
    | some rj=>
      rw [hr'] at he;injection he with he;have : j < all.length:=by rw [hlen];exact (List.getElem?_eq_some_iff.1 hr').1
      exact ⟨all[j],rj,List.getElem?_eq_getElem this,rfl,he.symm⟩
   have hmeet : ∀ {a b : List Nat} {k : Nat},k ∈ a -> k ∈ b -> zDb a b = true:=λha hb=>List.any_eq_true.2 ⟨_,ha,Yf hb⟩;have frEq : ∀ t ∈ YZ all o,QH (qT (λ_=>true) ((qS all rs).take i) 0 fr0) t = QH (qT (λi=>listed.getD i false) (qS all rs) 0 fr0) t:=by
    intro t ht;rw [<- zBP];refine qv _ _ _ _ _ _ _ _ rfl λj e he hk=>?_;obtain ⟨oj,rj,h1,h2,h3,_⟩:=frj j e t he hk;rw [Nat.zero_add,Nat.zero_add];refine (order j oj rj h1 h2 (λ_=>?_) (λ_=>?_)).symm
    . simp [zBO,zAp,h3,Yf ht]
    . simp [zBO,zAp,h3,Yf ht]
   have hpEq : ∀ k ∈ rc.rd,zX (qT (λ_=>true) ((QT rs).take i) 0 H0) k = zX (qT (λi=>listed.getD i false) (QT rs) 0 H0) k:=by
    intro k hk;rw [<- zBP];refine qv _ _ _ _ _ _ _ _ rfl λj e he hkk=>?_;obtain ⟨oj,rj,h1,h2,rfl⟩:=hpj j e he;rw [Nat.zero_add,Nat.zero_add];have hkk':=cKey hkk;refine (order j oj rj h1 h2 (λ_=>?_) (λ_=>?_)).symm
    . simp [zBO,hmeet hk hkk']
    . simp [zBO,hmeet hkk' hk]
   have hAll : zBt ∈ rc.rd -> ∀ j,j < all.length -> listed.getD j false = decide (j < i):=λhA j hj=>by
    have h1 : all[j]? = some all[j]:=List.getElem?_eq_getElem hj;have h2 : rs[j]? = some (rs[j]'(by rw [<- hlen];exact hj)):=List.getElem?_eq_getElem _;exact order j _ _ h1 h2 (λ_=>by simp [zBO,Yf hA]) (λ_=>by simp [zBO,Yf hA])
   have hpAll : zBt ∈ rc.rd -> ∀ k,zX (qT (λ_=>true) ((QT rs).take i) 0 H0) k = zX (qT (λi=>listed.getD i false) (QT rs) 0 H0) k:=by
    intro hA k;rw [<- zBP];refine qv _ _ _ _ _ _ _ _ rfl λj e he hkk=>?_;obtain ⟨oj,rj,h1,h2,rfl⟩:=hpj j e he;rw [Nat.zero_add,Nat.zero_add];exact (hAll hA j (List.getElem?_eq_some_iff.1 h1).1).symm
   have naAll : zBt ∈ rc.rd -> ∀ k,nx + wd * i <= k -> r k = none /\ zX (qT (λi=>listed.getD i false) (QT rs) 0 H0) k = none:=λhA k hk=>inv.names k (by omega) λj hj=>by
    have hjl : j < all.length:=by
     rw [<- inv.size];rcases Nat.lt_or_ge j listed.size with h | h
     . exact h
     . rw [Array.getD_eq_getD_getElem?,Array.getElem?_eq_none h] at hj;cases hj
    rw [hAll hA j hjl] at hj;have hji : j < i:=of_decide_eq_true hj;have:=Nat.mul_le_mul_left wd hji;rw [Nat.mul_succ] at this;omega
   have hw2 : zCB all o (qT (λi=>listed.getD i false) (qS all rs) 0 fr0) = some rc.ex:=by
    rw [<- hwt];unfold zCB;cases hgd : o.guard with
    | none=>rfl
    | some gw=>
      obtain ⟨j,want⟩:=gw;simp only;cases hgt : zEr all j with
      | none=>rfl
      | some t=>
        simp only;rw [frEq t (by simp [YZ,hgd,hgt])]
   have hwanted:=zCb inv.fr hw2;have frMore : ∀ t,QH (YQ o.dst rc.val ++ qT (λi=>listed.getD i false) (qS all rs) 0 fr0) t = QH (qT (λx=>(listed.setIfInBounds i true).getD x false) (qS all rs) 0 fr0) t:=by
    intro t;have hE : (qS all rs)[i]? = some (YQ o.dst rc.val):=by simp [qS,List.getElem?_zipWith,hoi,hrc]
    have:=zDd (d:=FV.top) (λi=>listed.getD i false) (qS all rs) 0 fr0 i (YQ o.dst rc.val) t hE (by rw [Nat.zero_add];exact hSi) (λj e hij he hSj u hu=>by
     rw [Nat.zero_add] at hSj;cases hk : ZV e u with
     | false=>rfl
     | true=>
       obtain ⟨oj,rj,h1,h2,h3,_⟩:=frj j e u he hk;have hdu : o.dst = some u:=by
        cases hd : o.dst with
        | none=>rw [hd] at hu;cases hu
        | some v=>
          rw [hd] at hu;simp only [YQ,ZV,List.any_cons,List.any_nil,Bool.or_false] at hu;rw [Nat.eq_of_beq_eq_true hu]
       have:=order j oj rj h1 h2 (λ_=>by simp [zBO,dstEq,hdu,h3]) (λhji=>by omega);rw [hSj,decide_eq_false (by omega)] at this;cases this)
    rw [Nat.zero_add] at this;show qu FV.top _ t = qu FV.top _ t;rw [<- this];refine qv _ _ _ _ _ _ _ _ rfl λj e _ _=>?_;rw [Nat.zero_add,Qo hisz]
   have hpMore : ∀ t,zX (rc.eff ++ qT (λi=>listed.getD i false) (QT rs) 0 H0) t = zX (qT (λx=>(listed.setIfInBounds i true).getD x false) (QT rs) 0 H0) t:=by
    intro t;have hE : (QT rs)[i]? = some rc.eff:=by simp [QT,hrc]
    have:=zDd (d:=none) (λi=>listed.getD i false) (QT rs) 0 H0 i rc.eff t hE (by rw [Nat.zero_add];exact hSi) (λj e hij he hSj u hu=>by
     rw [Nat.zero_add] at hSj;cases hk : ZV e u with
     | false=>rfl
     | true=>
       obtain ⟨oj,rj,h1,h2,rfl⟩:=hpj j e he;have:=order j oj rj h1 h2 (λ_=>by simp [zBO,hmeet (cKey hu) (cKey hk)]) (λhji=>by omega);rw [hSj,decide_eq_false (by omega)] at this;cases this)
    rw [Nat.zero_add] at this;show qu none _ t = qu none _ t;rw [<- this];refine qv _ _ _ _ _ _ _ _ rfl λj e _ _=>?_;rw [Nat.zero_add,Qo hisz]
   have apart : ∀ j k,listed.getD j false = true -> nx + wd * i <= k -> k < nx + wd * i + wd -> ¬ (nx + wd * j <= k /\ k < nx + wd * j + wd):=λj k hj h1 h2 h3=>by
    have hji : j ≠ i:=λh=>by subst h;rw [hSi] at hj;cases hj
    rcases Nat.lt_or_ge j i with h | h
    . have:=Nat.mul_le_mul_left wd h;rw [Nat.mul_succ] at this;omega
    . have:=Nat.mul_le_mul_left wd (show i + 1 <= j by omega);rw [Nat.mul_add,Nat.mul_one] at this;omega
   have hfree : zAq r (qT (λi=>listed.getD i false) (QT rs) 0 H0) (nx + wd * i) wd:=λk h1 h2=>inv.names k (by omega) λj hj=>apart j k hj h1 h2;have hunl : unl (listed.setIfInBounds i true).toList = fuel:=by
    have:=unl_set listed.toList i (by
     have : listed[i]? = some false:=by
      rw [Array.getD_eq_getD_getElem?] at hSi;rw [Array.getElem?_eq_getElem hisz] at hSi ⊢;simpa using hSi
     simpa using this)
    rw [Array.toList_setIfInBounds];omega
   have next : ∀ (v : Value) (w' : World) (r' : QK),Ext r (wr r (qT (λi=>listed.getD i false) (QT rs) 0 H0)) w r' (wr r' (rc.eff ++ qT (λi=>listed.getD i false) (QT rs) 0 H0)) w' -> St cx r' (rc.eff ++ qT (λi=>listed.getD i false) (QT rs) 0 H0) w' ->
    (∀ k,k < nx + wd * i \/ nx + wd * i + wd <= k -> r' k = r k) -> (∀ k e,zX (rc.eff ++ qT (λi=>listed.getD i false) (QT rs) 0 H0) k = some e -> ((nx + wd * i <= k \/ zBt ∈ rc.rd) /\ k < nx + wd * i + wd) \/ ∃ e',zX (qT (λi=>listed.getD i false) (QT rs) 0 H0) k = some e') -> rc.val.rel r' cx.X (wr r' (rc.eff ++ qT (λi=>listed.getD i false) (QT rs) 0 H0)) w' v -> wpAny P .any all.toArray Q fuel (listed.setIfInBounds i true) (a.put o.dst v) w':=by
    intro v w' r' hext hst hr' hnew hrel;refine ih _ _ _ r' hunl ⟨by simp [inv.size],λx ox hx hz e he hb=>?_,hst.congr hpMore,?_,λk hk hkn=>?_,by rw [Yu.1];exact inv.tsz,by rw [Yu.2];exact inv.defers,λk hk=>by rw [hr' k (.inl (by omega))];exact inv.low k hk⟩
    . rw [Qo hisz] at hz ⊢;simp only [Bool.or_eq_true,beq_iff_eq] at hz ⊢;rcases hz with rfl | hz
      . rw [hoi] at hx;injection hx with hx;subst hx;exact .inr (hdeps e he hb)
      . exact .inr (inv.closed x ox hx hz e he hb)
    . exact (YW.put (inv.fr.ext hext) (by rw [inv.tsz];exact hokd) hrel).congr hpMore frMore
    . have hki : ¬ (nx + wd * i <= k /\ k < nx + wd * i + wd):=hkn i (by rw [Qo hisz];simp);have hold:=inv.names k hk λj hj=>hkn j (by rw [Qo hisz,hj];simp);rw [hr' k (by omega),<- hpMore k];refine ⟨hold.1,?_⟩;cases hh : zX (rc.eff ++ qT (λi=>listed.getD i false) (QT rs) 0 H0) k with
      | none=>rfl
      | some e=>
        rcases hnew k e hh with ⟨h | h,hlt⟩ | ⟨e',h⟩
        . exact absurd ⟨h,hlt⟩ hki
        . have hd : (k - nx) / wd * wd <= k - nx:=Nat.div_mul_le_self _ _;have hm : k - nx < ((k - nx) / wd + 1) * wd:=by
           rw [Nat.add_mul,Nat.one_mul];have:=Nat.div_add_mod (k - nx) wd;have h2:=Nat.mod_lt (k - nx) hwd;rw [Nat.mul_comm] at this;omega
          rw [Nat.add_mul,Nat.one_mul] at hm;rw [Nat.mul_comm] at hd hm;have hji : (k - nx) / wd <= i:=by
           rcases Nat.lt_or_ge i ((k - nx) / wd) with h3 | h3
           . have:=Nat.mul_le_mul_left wd h3;rw [Nat.mul_succ] at this;omega
           . exact h3
          refine absurd (⟨by omega,by omega⟩ : nx + wd * ((k - nx) / wd) <= k /\ k < nx + wd * ((k - nx) / wd) + wd) (hkn _ ?_);rw [Qo hisz];rcases Nat.lt_or_eq_of_le hji with h3 | h3
          . rw [hAll h _ (by omega),decide_eq_true h3,Bool.or_true]
          . rw [h3];simp
        . rw [hold.2] at h;cases h
   unfold wpOp;simp only [ho,hwanted];cases hex : rc.ex with
   | true=>
     rw [hex] at hstep;obtain ⟨sr,hs,hv,he,hrd⟩:=hstep;have hs2:=zCd hs (λt ht=>frEq t (by simp [YZ,ht])) (λk hk=>hpEq k (by rw [<- hrd];exact hk)) (λh=>hpAll (by rw [<- hrd];exact h));rw [if_pos rfl];refine .inl (zDf hT hs2 inv.st inv.fr hfree (λh=>naAll (by rw [<- hrd];exact h)) hwd λv w' hleft=>?_);obtain ⟨r',g1,g2,g3,g5,g4⟩:=hleft;rw [he] at g1 g2 g4 g5;rw [hv] at g4;exact next v w' r' g1 g2 g3 (by rw [hrd] at g5;exact g5) g4
   | false=>
     rw [hex] at hstep;obtain ⟨hv,he,hrd⟩:=hstep;rw [if_neg (by simp)];refine next undef w r ?_ ?_ (λ_ _=>rfl) ?_ ?_
     . rw [he];exact Ext.refl _ _ _
     . rw [he];exact inv.st
     . rw [he];exact λk e h=>.inr ⟨e,h⟩
     . rw [hv];exact ⟨#[],rfl,rfl,λi x u h=>by cases h⟩
end
def zAh (t : TypeId) (m : Nat) : Op -> Bool
 | .insert t' (.tmp m') _ _=>Nat.beq t t' && Nat.beq m m'
 | _=>false
structure LitI where
 l : List Bool
 g : Nat -> CV
 vg : Nat -> CV
instance : Inhabited LitI:=⟨⟨[],λ_=>.top,λ_=>.top⟩⟩
structure Lit where
 t : TypeId
 m : Nat
 kt : TypeId
 ks : Nat
 vs : Nat
 ka : Bool
 va : Bool
def litI (T : YU) (L : Lit) (fr : Fr) : Op -> Option LitI
 | .insert _ _ k x=>
   match keyOk T L.kt (some L.ka) (ev fr k),ev fr x with
   | some (kn,l,g),.e v=>
     match cellsOf v with
     | some (vn,vg)=>bif Nat.beq kn L.ks && Nat.beq vn L.vs && (isAggV v == L.va) then some ⟨l,g,vg⟩ else none
     | none=>none
   | _,_=>none
 | _=>none
def zBJ (ks : Nat) (I : LitI) (j : Nat) : CV:=bif Nat.blt j ks then I.g j else I.vg (j - ks)
def litOf (T : YU) : List Oper -> Option Lit
 | ⟨some m,.makeMap t none,_,_,_,_⟩ :: _=>
   match T t with
   | some ⟨.map kt _ ks vs (some ka) (some va),_,_,_,_⟩=>some ⟨t,m,kt,ks,vs,ka,va⟩
   | _=>none
 | _=>none
def zAv (T : YU) (all : List Oper) (L : Lit) (fr : Fr) (i : Nat) : LitI:=((all[i]?).bind λo=>litI T L fr o.op).getD default
def Qk (all : List Oper) (L : Lit) (i : Nat) : Bool:=
 match all[i]? with
 | some o=>zAh L.t L.m o.op
 | none=>false
def zAE (all : List Oper) (L : Lit) : List Nat:=(List.range all.length).filter (Qk all L)
def zB1 (T : YU) (all : List Oper) (L : Lit) (fr : Fr) (Lst : List Nat) : Ent:=⟨Za L.ks L.ka L.va,Lst.length,L.ks + L.vs,false,λk=>zBJ L.ks (zAv T all L fr (Lst.getD k 0))⟩
def zBZ (T : YU) (all : List Oper) (L : Lit) (fr : Fr) : Ent:=zB1 T all L fr (zAE all L)
def zBa (all : List Oper) (L : Lit) (o : Oper) (l : List Nat × List Nat) (o' : Oper) (l' : List Nat × List Nat) : Bool:=
 zAp (YZ all o) o'.dst || zAp (YZ all o') o.dst || dstEq o.dst o'.dst || ((zDb l.1 l'.1 || zDb l.1 l'.2 || zDb l.2 l'.1) && !(zAh L.t L.m o.op && zAh L.t L.m o'.op))
def regOkL (all : List Oper) (L : Lit) (log : Log) : Bool:=
 let ms:=zEG all []
 (List.range all.length).all λj=>
   match all[j]?,log[j]?,ms[j]? with
   | some oj,some lj,some m=>
     (oj.after.toList.all λe=>!Region.binds .any e || Nat.blt e.on j) &&
     (List.range j).all λi=>
       match all[i]?,log[i]? with
       | some oi,some li=>!zBa all L oi li oj lj || m.testBit i
       | _,_=>false
   | _,_,_=>false
def logL (all : List Oper) (L : Lit) (log : Log) (nx : Nat) : Bool:=
 (List.range all.length).all λi=>
   match all[i]?,log[i]? with
   | some o,some l=>o.guard.isNone && bif Nat.beq i 0 then true else bif zAh L.t L.m o.op then true else l.1.isEmpty && l.2.isEmpty
   | _,_=>false
def litPairs (T : YU) (all : List Oper) (L : Lit) (fr : Fr) : Bool:=
 (zAE all L).all λi=>(match all[i]? with
   | some o=>(litI T L fr o.op).isSome && (List.range all.length).all λj=>Nat.blt j i || !(match all[j]? with | some o'=>zAp (YZ all o) o'.dst | none=>true)
   | none=>false) && (zAE all L).all λk=>Nat.beq i k || (Zw (zAv T all L fr i).g (zBJ L.ks (zAv T all L fr k)) (zAv T all L fr i).l 0 && !ZF (zAv T all L fr i).g (zBJ L.ks (zAv T all L fr k)) L.ks 0)
def zEU (T : YU) (all : List Oper) (L : Lit) (fr : Fr) (log : Log) (nx : Nat) : Bool:=regOkL all L log && logL all L log nx && litPairs T all L fr && (match QH fr L.m with | .e (.c (.mp q))=>Nat.beq q nx | _=>false) && !Nat.beq nx zBt
theorem zFY {all : List Oper} {L : Lit} {log : Log} (h : regOkL all L log = true) {j : Nat} {oj : Oper} (hj : all[j]? = some oj) : ∀ e ∈ oj.after,Region.binds .any e = true -> e.on < j:=by
 have hlt : j < all.length:=(List.getElem?_eq_some_iff.1 hj).1;have:=List.all_eq_true.1 h j (List.mem_range.2 hlt);simp only [hj] at this;split at this
 . rename_i o l m h1 h2 h3;injection h1 with h1;subst h1;simp only [Bool.and_eq_true] at this;intro e he hb;have:=List.all_eq_true.1 this.1 e (by simpa using he);rw [hb] at this;simpa using this
 . cases this
theorem zC4 {all : List Oper} {L : Lit} {log : Log} (h : regOkL all L log = true) {i j : Nat} {oi oj : Oper} {li lj : List Nat × List Nat} (hij : i < j) (hi : all[i]? = some oi) (hj : all[j]? = some oj) (hli : log[i]? = some li) (hlj : log[j]? = some lj) (hc : zBa all L oi li oj lj = true) :
 ∃ m,(zEG all [])[j]? = some m /\ m.testBit i = true:=by
 have hlt : j < all.length:=(List.getElem?_eq_some_iff.1 hj).1;have:=List.all_eq_true.1 h j (List.mem_range.2 hlt);simp only [hj,hlj] at this;split at this
 . rename_i o l m h1 h2 h3;injection h1 with h1;injection h2 with h2;subst h1 h2;simp only [Bool.and_eq_true] at this;have:=List.all_eq_true.1 this.2 i (List.mem_range.2 hij);simp only [hi,hli,hc] at this;exact ⟨m,h3,by simpa using this⟩
 . cases this
theorem zE6 {all : List Oper} {L : Lit} {i : Nat} : i ∈ zAE all L ↔ Qk all L i = true:=by
 unfold zAE;rw [List.mem_filter,List.mem_range];constructor
 . exact λh=>h.2
 . intro h;refine ⟨?_,h⟩;unfold Qk at h;cases ha : all[i]? with
   | none=>rw [ha] at h;cases h
   | some o=>exact (List.getElem?_eq_some_iff.1 ha).1
theorem zDM {all : List Oper} {L : Lit} : (zAE all L).Nodup:=List.Pairwise.filter _ List.nodup_range
section
variable {P : Program} {cx : Cx} {T : YU} {wd nt : Nat} {d0 : List Deferred}
theorem zDN {r : QK} {H : Hp} {nm : Nat} {e e' : Ent} (he : zX H nm = some e) : wr r ((nm,some e') :: H) = wr r H:=by
 funext b
 apply propext;have hl0 : zX ((nm,some e') :: H) nm = some e':=zn _ _ _ _;have hl : ∀ k,k ≠ nm -> zX ((nm,some e') :: H) k = zX H k:=λk hk=>zZ _ _ _ hk;constructor
 . rintro ⟨k,e1,x,h1,h2,h3⟩;by_cases hk : k = nm
   . subst hk;exact ⟨k,e,x,he,h2,h3⟩
   . rw [hl k hk] at h1;exact ⟨k,e1,x,h1,h2,h3⟩
 . rintro ⟨k,e1,x,h1,h2,h3⟩;by_cases hk : k = nm
   . subst hk;exact ⟨k,e',x,hl0,h2,h3⟩
   . exact ⟨k,e1,x,by rw [hl k hk];exact h1,h2,h3⟩
theorem St.swap {r : QK} {H : Hp} {w : World} (s : St cx r H w) {nm : Nat} {e e' : Ent} (he : zX H nm = some e) (h : Yy r cx.X (wr r H) w e (r nm) w.heap -> Yy r cx.X (wr r H) w e' (r nm) w.heap) : St cx r ((nm,some e') :: H) w:=by
 have hl0 : zX ((nm,some e') :: H) nm = some e':=zn _ _ _ _;have hl : ∀ k,k ≠ nm -> zX ((nm,some e') :: H) k = zX H k:=λk hk=>zZ _ _ _ hk;have live : ∀ k e1,zX ((nm,some e') :: H) k = some e1 -> ∃ e2,zX H k = some e2:=λk e1 hk=>by
  by_cases hkn : k = nm
  . subst hkn;exact ⟨e,he⟩
  . rw [hl k hkn] at hk;exact ⟨e1,hk⟩
 refine ⟨s.os,s.tape,s.output,s.size,s.kept,s.xlt,s.dom,λk e1 x h1 h2=>?_,λn m e1 e2 x y h1 h2=>?_,s.pin,λk e1 hk=>?_⟩
 . obtain ⟨e2,h1⟩:=live k e1 h1;exact s.ow k e2 x h1 h2
 . obtain ⟨e1',h1⟩:=live n e1 h1;obtain ⟨e2',h2⟩:=live m e2 h2;exact s.inj n m e1' e2' x y h1 h2
 . rw [zDN he];by_cases hkn : k = nm
   . subst hkn;rw [hl0] at hk;injection hk with hk;subst hk;exact h (s.blk k e he)
   . rw [hl k hkn] at hk;exact s.blk k e1 hk
theorem zGD {r : QK} {X W : Nat -> Prop} {w : World} {e e' : Ent} {x : Bi} {hp : Array Obj} (hz : x.sz = 0) (h0 : 0 < e.sz) (ht : e'.t = e.t) (hn : e'.n = e.n) (hs : e'.sz = e.sz) (hv : e'.v = e.v) {σ τ : Nat -> Nat} (s1 : ∀ k,k < e.n -> σ k < e.n /\ τ (σ k) = k) (s2 : ∀ k,k < e.n -> τ k < e.n /\ σ (τ k) = k) (hf : ∀ k,k < e.n -> e'.f (σ k) = e.f k)
 (h : Yy r X W w e (some x) hp) : Yy r X W w e' (some x) hp:=by
 obtain ⟨t,n,sz,v,f⟩:=e;obtain ⟨t',n',sz',v',f'⟩:=e';simp only at ht hn hs hv hf s1 s2 h0;subst ht hn hs hv;obtain ⟨h1,h2,h3⟩:=h;refine ⟨h1,h2,?_⟩;rcases h3 with ⟨h3,_⟩ | ⟨y,cs,g1,g2,_⟩ | ⟨hfit,y,es,clk,g1,g2,g3,g4,g5,π,ρ,p1,p2,g6⟩
 . cases h3
 . injection g1 with g1;subst g1;have : x.sz = sz':=g2;omega
 . refine .inr (.inr ⟨hfit,y,es,clk,g1,g2,g3,g4,g5,λi=>σ (π i),λk=>ρ (τ k),λi hi=>?_,λk hk=>?_,λi m hm=>?_⟩)
   . obtain ⟨a1,a2⟩:=p1 i hi;obtain ⟨b1,b2⟩:=s1 _ a1;exact ⟨b1,by dsimp only;rw [b2,a2]⟩
   . obtain ⟨a1,a2⟩:=s2 k hk;obtain ⟨b1,b2⟩:=p2 _ a1;exact ⟨b1,by dsimp only;rw [b2,a2]⟩
   . have hi : i < n':=by
      have:=(Array.getElem?_eq_some_iff.1 hm).1;have g4' : es.size = n':=g4;omega
     obtain ⟨a1,a2⟩:=p1 i hi;have e1:=hf _ a1;dsimp only;rw [e1];exact g6 i m hm
def HLs (T : YU) (all : List Oper) (L : Lit) (fr : Fr) (nx : Nat) (H0 : Hp) (b : Bool) (Lst : List Nat) : Hp:=bif b then (nx,some (zB1 T all L fr Lst)) :: H0 else H0
theorem zGE {L : Lit} {fr : Fr} {H : Hp} {nx et n z : Nat} {a1 : List CV} {a2 : List Bool} {a3 : Nat} {f : Nat -> Nat -> CV} (hTL : T L.t = some ⟨.map L.kt et L.ks L.vs (some L.ka) (some L.va),z,a1,a2,a3⟩) (hH : zX H nx = some ⟨Za L.ks L.ka L.va,n,L.ks + L.vs,false,f⟩) {t' : TypeId} {m' k x : Operand} {I : LitI} (hI : litI T L fr (.insert t' m' k x) = some I) :
 zAZ T H L.t (.e (.c (.mp nx))) (ev fr k) (ev fr x) = some ⟨some (∀ i,i < n -> Zw I.g (f i) I.l 0 = true),.top,[(nx,some ⟨Za L.ks L.ka L.va,bif Nat.blt (qN (λi=>ZF I.g (f i) L.ks 0) n 0) n then n else qN (λi=>ZF I.g (f i) L.ks 0) n 0 + 1,L.ks + L.vs,false,
  λi j=>Zp (Nat.beq i (qN (λi=>ZF I.g (f i) L.ks 0) n 0)) (zBJ L.ks I j) (f i j)⟩)],[nx]⟩:=by
 unfold litI at hI;dsimp only at hI;split at hI
 . rename_i kn l g v hk hv;split at hI
   . rename_i vn vg hc;obtain ⟨hb,hI⟩:=YI hI;subst hI;simp only [Bool.and_eq_true] at hb;obtain ⟨⟨b1,b2⟩,b3⟩:=hb;have b1:=Nat.eq_of_beq_eq_true b1;have b2:=Nat.eq_of_beq_eq_true b2;subst b1 b2;unfold zAZ;rw [hTL,hv];dsimp only;rw [hH,hk,hc];dsimp only;rw [b3];simp only [Option.getD_some,Nat.beq_refl,Bool.true_and,cond_true];rfl
   . cases hI
 . cases hI
theorem zGF {H : Hp} {t : TypeId} {x k v : FV} {sr : SR} (h : zAZ T H t x k v = some sr) : sr.val = .top:=by
 unfold zAZ at h;split at h
 . split at h
   . obtain ⟨_,h⟩:=YI h;rw [<- h]
   . cases h
 . cases h
theorem zFZ {all : List Oper} {t : TypeId} {m : Nat} {o : Oper} (h : zAh t m o.op = true) : m ∈ YZ all o /\ ∃ k x,o.op = .insert t (.tmp m) k x:=by
 unfold zAh at h;split at h
 . rename_i t' m' k x hop;rw [Bool.and_eq_true] at h;have h1:=Nat.eq_of_beq_eq_true h.1;have h2:=Nat.eq_of_beq_eq_true h.2;subst h1 h2;refine ⟨List.mem_append_left _ (List.mem_filterMap.2 ⟨.tmp m,by rw [hop];simp [Op.operands],rfl⟩),k,x,hop⟩
 . cases h
structure InvL (T : YU) (cx : Cx) (all : List Oper) (rs : List Rec) (L : Lit) (frF : Fr) (fr0 : Fr) (H0 : Hp) (nx wd nt : Nat) (d0 : List Deferred) (fx : QK) (listed : Array Bool) (Lst : List Nat) (a : Act) (w : World) (r : QK) : Prop where
 size : listed.size = all.length
 closed : ∀ i o,all[i]? = some o -> listed.getD i false = true -> ∀ e ∈ o.after,Region.binds .any e = true -> listed.getD e.on false = true
 st : St cx r (HLs T all L frF nx H0 (listed.getD 0 false) Lst) w
 fr : YW cx r (HLs T all L frF nx H0 (listed.getD 0 false) Lst) w (qT (λi=>listed.getD i false) (qS all rs) 0 fr0) a.tmps
 names : ∀ k,nx <= k -> (∀ i,listed.getD i false = true -> ¬ (nx + wd * i <= k /\ k < nx + wd * i + wd)) -> r k = none /\ zX (HLs T all L frF nx H0 (listed.getD 0 false) Lst) k = none
 tsz : a.tmps.size = nt
 defers : a.defers = d0
 low : ∀ k,k < nx -> r k = fx k
 mp : listed.getD 0 false = true -> ∃ x,r nx = some x /\ x.sz = 0
 nod : Lst.Nodup
 mem : ∀ i,i ∈ Lst ↔ (listed.getD i false = true /\ Qk all L i = true)
theorem lit_order (hT : qP P T) {all : List Oper} {rs : List Rec} {fr0 : Fr} {H0 : Hp} {nx : Nat} (hwd : 0 < wd) (hg : Good P T wd nt all all rs fr0 H0 nx) {L : Lit} (hL : litOf T all = some L) (hokA : zEU T all L (qT (λ_=>true) (qS all rs) 0 fr0) (YP rs) nx = true) {fx : QK}
 {Q : Exit -> Act -> World -> Prop}
 (hQ : ∀ a w r,St cx r ((nx,some (zBZ T all L (qT (λ_=>true) (qS all rs) 0 fr0))) :: H0) w -> YW cx r ((nx,some (zBZ T all L (qT (λ_=>true) (qS all rs) 0 fr0))) :: H0) w (qT (λ_=>true) (qS all rs) 0 fr0) a.tmps -> (∀ k,nx + wd * all.length <= k -> r k = none /\ zX ((nx,some (zBZ T all L (qT (λ_=>true) (qS all rs) 0 fr0))) :: H0) k = none) -> a.tmps.size = nt -> a.defers = d0 -> (∀ k,k < nx -> r k = fx k) -> Q .normal a w) :
 ∀ (fuel : Nat) (listed : Array Bool) (Lst : List Nat) (a : Act) (w : World) (r : QK),unl listed.toList = fuel -> InvL T cx all rs L (qT (λ_=>true) (qS all rs) 0 fr0) fr0 H0 nx wd nt d0 fx listed Lst a w r -> wpAny P .any all.toArray Q fuel listed a w:=by
 obtain ⟨hlen,hat⟩:=Good.at _ _ _ _ _ hg;unfold zEU at hokA;simp only [Bool.and_eq_true] at hokA;obtain ⟨⟨⟨⟨hok,hlg⟩,hprs⟩,hmp0⟩,hnA0⟩:=hokA;have hnA : nx ≠ zBt:=λh=>by
  rw [h] at hnA0;simp at hnA0
 obtain ⟨frF,hfrF⟩ : ∃ frF,qT (λ_=>true) (qS all rs) 0 fr0 = frF:=⟨_,rfl⟩;rw [hfrF] at hprs hQ hmp0 ⊢;have hmap : QH frF L.m = .e (.c (.mp nx)):=by
  split at hmp0
  . rename_i q hq;rw [hq,Nat.eq_of_beq_eq_true hmp0]
  . cases hmp0
 obtain ⟨o0,all',et,z,a1,a2,a3,hall0,hop0,hdst0,hTL⟩ : ∃ o0 all' et z a1 a2 a3,all = o0 :: all' /\ o0.op = .makeMap L.t none /\ o0.dst = some L.m /\ T L.t = some ⟨.map L.kt et L.ks L.vs (some L.ka) (some L.va),z,a1,a2,a3⟩:=by
  unfold litOf at hL;split at hL
  . split at hL
    . rename_i hT';injection hL with hL;subst hL;exact ⟨_,_,_,_,_,_,_,rfl,rfl,rfl,hT'⟩
    . cases hL
  . cases hL
 have h0 : all[0]? = some o0:=by rw [hall0];rfl
 have hn0 : 0 < all.length:=by rw [hall0];simp
 have hno0 : Qk all L 0 = false:=by
  unfold Qk;rw [h0];dsimp only;rw [hop0];rfl
 have shape : ∀ (i : Nat) o rc,all[i]? = some o -> rs[i]? = some rc -> o.guard = none /\ (i ≠ 0 -> Qk all L i = false -> rc.eff = [] /\ rc.rd = []):=by
  intro i o rc ho hrc;have hlt : i < all.length:=(List.getElem?_eq_some_iff.1 ho).1;have:=List.all_eq_true.1 hlg i (List.mem_range.2 hlt);have hli : (YP rs)[i]? = some (qt rc.eff,rc.rd):=by simp [YP,hrc]
  simp only [ho,hli,Bool.and_eq_true] at this;obtain ⟨c1,c2⟩:=this;refine ⟨by simpa using c1,λhi0 hins=>?_⟩;have e1 : Nat.beq i 0 = false:=by
   cases hb : Nat.beq i 0 with
   | false=>rfl
   | true=>exact absurd (Nat.eq_of_beq_eq_true hb) hi0
  have e2 : zAh L.t L.m o.op = false:=by
   unfold Qk at hins;rw [ho] at hins;exact hins
  rw [e1,e2] at c2;simp only [cond_false,Bool.and_eq_true,List.isEmpty_iff] at c2;refine ⟨?_,c2.2⟩;have:=c2.1;unfold qt at this;exact List.map_eq_nil_iff.1 this
 have insP : ∀ i,Qk all L i = true -> ∃ o I,all[i]? = some o /\ zAh L.t L.m o.op = true /\ litI T L frF o.op = some I /\ zAv T all L frF i = I /\ (∀ j o',i <= j -> all[j]? = some o' -> zAp (YZ all o) o'.dst = false) /\
  ∀ k,Qk all L k = true -> i ≠ k -> Zw I.g (zBJ L.ks (zAv T all L frF k)) I.l 0 = true /\ ZF I.g (zBJ L.ks (zAv T all L frF k)) L.ks 0 = false:=by
  intro i hi;have h1:=List.all_eq_true.1 hprs i (zE6.2 hi);unfold Qk at hi;cases ho : all[i]? with
  | none=>rw [ho] at hi;cases hi
  | some o=>
    rw [ho] at hi;rw [ho] at h1;simp only [Bool.and_eq_true] at h1;obtain ⟨⟨c1,c2⟩,c3⟩:=h1;obtain ⟨I,hI⟩:=Option.isSome_iff_exists.1 c1;have hit : zAv T all L frF i = I:=by
     unfold zAv;rw [ho,Option.bind_some,hI];rfl
    refine ⟨o,I,rfl,hi,hI,hit,λj o' hij ho'=>?_,λk hk hne=>?_⟩
    . have:=List.all_eq_true.1 c2 j (List.mem_range.2 (List.getElem?_eq_some_iff.1 ho').1);simp only [Bool.or_eq_true,Bool.not_eq_true'] at this;rcases this with h | h
      . have:=Nat.le_of_ble_eq_true h;omega
      . rw [ho'] at h;exact h
    . have:=List.all_eq_true.1 c3 k (zE6.2 hk);rw [hit] at this;simp only [Bool.or_eq_true,Bool.and_eq_true,Bool.not_eq_true'] at this;rcases this with h | h
      . exact absurd (Nat.eq_of_beq_eq_true h) hne
      . exact h
 have full : ∀ (listed : Array Bool) (Lst : List Nat) (a : Act) (w : World) (r : QK),(∀ i,i < all.length -> listed.getD i false = true) -> InvL T cx all rs L frF fr0 H0 nx wd nt d0 fx listed Lst a w r -> Q .normal a w:=by
  intro listed Lst a w r hall inv;have l0:=hall 0 hn0;have e1 : ∀ t,QH (qT (λi=>listed.getD i false) (qS all rs) 0 fr0) t = QH frF t:=λt=>by
   rw [<- hfrF];exact qv _ _ _ _ _ _ _ _ rfl λj e he _=>by
    rw [Nat.zero_add];have : j < (qS all rs).length:=(List.getElem?_eq_some_iff.1 he).1;exact hall j (by simp [qS] at this;omega)
  have hmem : ∀ i,i ∈ Lst ↔ i ∈ zAE all L:=λi=>by
   rw [inv.mem,zE6];constructor
   . exact λh=>h.2
   . intro h;obtain ⟨o,_,ho,_⟩:=insP i h;exact ⟨hall i (List.getElem?_eq_some_iff.1 ho).1,h⟩
  have hln : Lst.length = (zAE all L).length:=Nat.le_antisymm (inv.nod.length_le_of_subset λi hi=>(hmem i).1 hi) (zDM.length_le_of_subset λi hi=>(hmem i).2 hi);have hst:=inv.st;have hfr:=inv.fr;have hnm:=inv.names;rw [l0] at hst hfr hnm;have eH : HLs T all L frF nx H0 true Lst = (nx,some (zB1 T all L frF Lst)) :: H0:=rfl;rw [eH] at hst hfr hnm;obtain ⟨x,hx,hz⟩:=inv.mp l0;have hget0 : zX ((nx,some (zB1 T all L frF Lst)) :: H0) nx = some (zB1 T all L frF Lst):=zn _ _ _ _;have idx : ∀ (A B : List Nat),A.Nodup -> B.Nodup -> (∀ i,i ∈ A ↔ i ∈ B) -> ∀ k,k < A.length -> B.idxOf (A.getD k 0) < B.length /\ A.idxOf (B.getD (B.idxOf (A.getD k 0)) 0) = k /\ B.getD (B.idxOf (A.getD k 0)) 0 = A.getD k 0:=λA B hA hB hAB k hk=>by
   have g1 : A.getD k 0 = A[k]:=by rw [List.getD_eq_getElem?_getD,List.getElem?_eq_getElem hk];rfl
   have m1 : A[k] ∈ B:=(hAB _).1 (List.getElem_mem hk);have m2:=List.idxOf_lt_length_of_mem m1;have g2 : B.getD (B.idxOf A[k]) 0 = A[k]:=by
    rw [List.getD_eq_getElem?_getD,List.getElem?_eq_getElem m2];exact List.getElem_idxOf m2
   rw [g1];exact ⟨m2,by rw [g2];exact hA.idxOf_getElem k hk,g2⟩
  have hs2:=hst.swap (e':=zBZ T all L frF) hget0 λh=>by
   rw [hx] at h ⊢;refine zGD (σ:=λk=>(zAE all L).idxOf (Lst.getD k 0)) (τ:=λk=>Lst.idxOf ((zAE all L).getD k 0)) hz h.1 rfl hln.symm rfl rfl (λk hk=>?_) (λk hk=>?_) (λk hk=>?_) h
   . obtain ⟨q1,q2,_⟩:=idx Lst _ inv.nod zDM hmem k hk;exact ⟨by show _ < Lst.length;rw [hln];exact q1,q2⟩
   . have hk : k < Lst.length:=hk;obtain ⟨q1,q2,_⟩:=idx _ Lst zDM inv.nod (λi=>(hmem i).symm) k (by rw [<- hln];exact hk);exact ⟨q1,q2⟩
   . obtain ⟨_,_,q3⟩:=idx Lst _ inv.nod zDM hmem k hk;show zBJ L.ks (zAv T all L frF ((zAE all L).getD ((zAE all L).idxOf (Lst.getD k 0)) 0)) = zBJ L.ks (zAv T all L frF (Lst.getD k 0));rw [q3]
  have e2 : ∀ k,zX ((nx,some (zBZ T all L frF)) :: (nx,some (zB1 T all L frF Lst)) :: H0) k = zX ((nx,some (zBZ T all L frF)) :: H0) k:=λk=>by
   by_cases hk : k = nx
   . subst hk;exact (zn _ _ _ _).trans (zn _ _ _ _).symm
   . exact (zZ _ _ _ hk).trans ((zZ _ _ _ hk).trans (zZ _ _ _ hk).symm)
  have hf2 : YW cx r ((nx,some (zBZ T all L frF)) :: (nx,some (zB1 T all L frF Lst)) :: H0) w frF a.tmps:=λt=>by
   rw [zDN hget0,<- e1 t];exact hfr t
  refine hQ a w r (hs2.congr e2) (hf2.congr e2 λ_=>rfl) (λk hk=>?_) inv.tsz inv.defers inv.low;have:=hnm k (by omega) λi hi=>by
   have : i < listed.size:=by
    rcases Nat.lt_or_ge i listed.size with h | h
    . exact h
    . rw [Array.getD_eq_getD_getElem?,Array.getElem?_eq_none h] at hi;cases hi
   rw [inv.size] at this;have h9 : wd * (i + 1) <= wd * all.length:=Nat.mul_le_mul_left _ this;rw [Nat.mul_add,Nat.mul_one] at h9;omega
  refine ⟨this.1,?_⟩;have hkn : k ≠ nx:=λh=>by
   subst h;rw [hget0] at this;cases this.2
  rw [<- this.2];exact (zZ _ _ _ hkn).trans (zZ _ _ _ hkn).symm
 have nilAll : ∀ (listed : Array Bool),listed.size = all.length -> Region.ready .any all.toArray listed = [] -> ∀ i,i < all.length -> listed.getD i false = true:=by
  intro listed hs hr i;induction i using Nat.strongRecOn with
  | _ i ih=>
    intro hi;cases hb : listed.getD i false with
    | true=>rfl
    | false=>
      have ho : all[i]? = some all[i]:=List.getElem?_eq_getElem hi;have : i ∈ Region.ready .any all.toArray listed:=mem_ready.2 ⟨by
       rw [Array.getD_eq_getD_getElem?] at hb ⊢;rw [Array.getElem?_eq_getElem (by omega)] at hb ⊢;exact hb,all[i],by simp [hi],λe he hbn=>by
        have hlt:=zFY hok ho e he hbn;exact ih e.on hlt (by omega)⟩
      rw [hr] at this;cases this
 intro fuel;induction fuel with
 | zero=>
   intro listed Lst a w r hu inv;have hall : ∀ i,i < all.length -> listed.getD i false = true:=λi hi=>by
    have:=zFK _ hu i (by simpa [inv.size] using hi);have h2 : listed[i]? = some true:=by simpa using this
    rw [Array.getD_eq_getD_getElem?,h2];rfl
   refine ⟨?_,full listed Lst a w r hall inv⟩;rw [List.eq_nil_iff_forall_not_mem];intro i hi;obtain ⟨h1,o,ho,_⟩:=mem_ready.1 hi;have hil : i < all.length:=by simpa using (Array.getElem?_eq_some_iff.1 ho).1
   have:=hall i hil;rw [Array.getD_eq_getD_getElem?] at h1 this;rw [Array.getElem?_eq_getElem (by rw [inv.size];exact hil)] at h1 this;simp only [Option.getD_some] at h1 this;rw [h1] at this;cases this
 | succ fuel ih=>
   intro listed Lst a w r hu inv;refine ⟨λhr=>full listed Lst a w r (nilAll listed inv.size hr) inv,λi hi=>?_⟩;obtain ⟨h1,o,ho,hdeps⟩:=mem_ready.1 hi;have hoi : all[i]? = some o:=by simpa using ho
   have hil : i < all.length:=(List.getElem?_eq_some_iff.1 hoi).1;have hisz : i < listed.size:=by rw [inv.size];exact hil
   have hSi : listed.getD i false = false:=by
    rw [Array.getD_eq_getD_getElem?] at h1 ⊢;rw [Array.getElem?_eq_getElem hisz] at h1 ⊢;exact h1
   obtain ⟨rc,hrc,hokd,hwt,hstep⟩:=hat i o hoi;have hli : (YP rs)[i]? = some (qt rc.eff,rc.rd):=by simp [YP,hrc]
   have order : ∀ (j : Nat) (oj : Oper) (rj : Rec),all[j]? = some oj -> rs[j]? = some rj -> (i < j -> zBa all L o (qt rc.eff,rc.rd) oj (qt rj.eff,rj.rd) = true) -> (j < i -> zBa all L oj (qt rj.eff,rj.rd) o (qt rc.eff,rc.rd) = true) -> listed.getD j false = decide (j < i):=by
    intro j oj rj hj hrj c1 c2;have hlj : (YP rs)[j]? = some (qt rj.eff,rj.rd):=by simp [YP,hrj]
    have hcl:=zAI (ops:=all) (Z:=λx=>listed.getD x false = true) (λx ox hx hz e he hb=>inv.closed x ox hx hz e he hb) all [] (λj=>by simp) (λi m h=>by cases i<;>cases h);rcases Nat.lt_trichotomy j i with hji | hji | hji
    . rw [decide_eq_true hji];obtain ⟨m,hm,hb⟩:=zC4 hok hji hj hoi hlj hli (c2 hji);have hcl2:=zAI (ops:=all) (Z:=λx=>x = i \/ listed.getD x false = true) (λx ox hx hz e he hbn=>by
       rcases hz with rfl | hz
       . rw [hoi] at hx;injection hx with hx;subst hx;exact .inr (hdeps e he hbn)
       . exact .inr (inv.closed x ox hx hz e he hbn)) all [] (λj=>by simp) (λi m h=>by cases i<;>cases h)
      rcases hcl2 i m hm (.inl rfl) j hb with h | h
      . omega
      . exact h
    . subst hji;rw [hSi];simp
    . rw [decide_eq_false (by omega)];cases hlst : listed.getD j false with
      | false=>rfl
      | true=>
        obtain ⟨m,hm,hb⟩:=zC4 hok hji hoi hj hli hlj (c1 hji);have:=hcl j m hm hlst i hb;rw [hSi] at this;cases this
   have cKey : ∀ {e : Hp} {k : Nat},ZV e k = true -> k ∈ qt e:=by
    intro e k h;obtain ⟨p,hp,hb⟩:=List.any_eq_true.1 h;have:=Nat.eq_of_beq_eq_true hb;exact List.mem_map.2 ⟨p,hp,this⟩
   have frj : ∀ (j : Nat) (e : Fr) (t : Nat),(qS all rs)[j]? = some e -> ZV e t = true -> ∃ (oj : Oper) (rj : Rec),all[j]? = some oj /\ rs[j]? = some rj /\ oj.dst = some t /\ e = YQ oj.dst rj.val:=by
    intro j e t he hk;simp only [qS,List.getElem?_zipWith] at he;cases ha : all[j]? with
    | none=>rw [ha] at he;cases he
    | some oj=>
      cases hr' : rs[j]? with
      | none=>rw [ha,hr'] at he;cases he
      | some rj=>
        rw [ha,hr'] at he;injection he with he;subst he;refine ⟨oj,rj,rfl,rfl,?_,rfl⟩;cases hd : oj.dst with
        | none=>rw [hd] at hk;cases hk
        | some u=>
          rw [hd] at hk;simp only [YQ,ZV,List.any_cons,List.any_nil,Bool.or_false] at hk;rw [Nat.eq_of_beq_eq_true hk]
   have frEq : ∀ t ∈ YZ all o,QH (qT (λ_=>true) ((qS all rs).take i) 0 fr0) t = QH (qT (λi=>listed.getD i false) (qS all rs) 0 fr0) t:=by
    intro t ht;rw [<- zBP];refine qv _ _ _ _ _ _ _ _ rfl λj e he hk=>?_;obtain ⟨oj,rj,h1,h2,h3,_⟩:=frj j e t he hk;rw [Nat.zero_add,Nat.zero_add];refine (order j oj rj h1 h2 (λ_=>?_) (λ_=>?_)).symm
    . simp [zBa,zAp,h3,Yf ht]
    . simp [zBa,zAp,h3,Yf ht]
   have hw2 : zCB all o (qT (λi=>listed.getD i false) (qS all rs) 0 fr0) = some rc.ex:=by
    rw [<- hwt];unfold zCB;cases hgd : o.guard with
    | none=>rfl
    | some gw=>
      obtain ⟨j,want⟩:=gw;simp only;cases hgt : zEr all j with
      | none=>rfl
      | some t=>
        simp only;rw [frEq t (by simp [YZ,hgd,hgt])]
   have hwanted:=zCb inv.fr hw2;have frMore : ∀ t,QH (YQ o.dst rc.val ++ qT (λi=>listed.getD i false) (qS all rs) 0 fr0) t = QH (qT (λx=>(listed.setIfInBounds i true).getD x false) (qS all rs) 0 fr0) t:=by
    intro t;have hE : (qS all rs)[i]? = some (YQ o.dst rc.val):=by simp [qS,List.getElem?_zipWith,hoi,hrc]
    have:=zDd (d:=FV.top) (λi=>listed.getD i false) (qS all rs) 0 fr0 i (YQ o.dst rc.val) t hE (by rw [Nat.zero_add];exact hSi) (λj e hij he hSj u hu=>by
     rw [Nat.zero_add] at hSj;cases hk : ZV e u with
     | false=>rfl
     | true=>
       obtain ⟨oj,rj,h1,h2,h3,_⟩:=frj j e u he hk;have hdu : o.dst = some u:=by
        cases hd : o.dst with
        | none=>rw [hd] at hu;cases hu
        | some v=>
          rw [hd] at hu;simp only [YQ,ZV,List.any_cons,List.any_nil,Bool.or_false] at hu;rw [Nat.eq_of_beq_eq_true hu]
       have:=order j oj rj h1 h2 (λ_=>by simp [zBa,dstEq,hdu,h3]) (λhji=>by omega);rw [hSj,decide_eq_false (by omega)] at this;cases this)
    rw [Nat.zero_add] at this;show qu FV.top _ t = qu FV.top _ t;rw [<- this];refine qv _ _ _ _ _ _ _ _ rfl λj e _ _=>?_;rw [Nat.zero_add,Qo hisz]
   have apart : ∀ j k,listed.getD j false = true -> nx + wd * i <= k -> k < nx + wd * i + wd -> ¬ (nx + wd * j <= k /\ k < nx + wd * j + wd):=λj k hj h1 h2 h3=>by
    have hji : j ≠ i:=λh=>by subst h;rw [hSi] at hj;cases hj
    rcases Nat.lt_or_ge j i with h | h
    . have:=Nat.mul_le_mul_left wd h;rw [Nat.mul_succ] at this;omega
    . have:=Nat.mul_le_mul_left wd (show i + 1 <= j by omega);rw [Nat.mul_add,Nat.mul_one] at this;omega
   have hunl : unl (listed.setIfInBounds i true).toList = fuel:=by
    have:=unl_set listed.toList i (by
     have : listed[i]? = some false:=by
      rw [Array.getD_eq_getD_getElem?] at hSi;rw [Array.getElem?_eq_getElem hisz] at hSi ⊢;simpa using hSi
     simpa using this)
    rw [Array.toList_setIfInBounds];omega
   have hfree : zAq r (HLs T all L frF nx H0 (listed.getD 0 false) Lst) (nx + wd * i) wd:=λk h1 h2=>inv.names k (by omega) λj hj=>apart j k hj h1 h2;obtain ⟨hgd,hpure⟩:=shape i o rc hoi hrc;have hex : rc.ex = true:=by
    have:=hwt;unfold zCB at this;rw [hgd] at this;simpa using this.symm
   rw [hex] at hstep;obtain ⟨sr,hs,hv,he,hrd⟩:=hstep;have next : ∀ (Lst' : List Nat) (v : Value) (w' : World) (r' : QK) (HX : Hp),Ext r (wr r (HLs T all L frF nx H0 (listed.getD 0 false) Lst)) w r' (wr r' HX) w' -> St cx r' HX w' -> (∀ k,zX HX k = zX (HLs T all L frF nx H0 ((listed.setIfInBounds i true).getD 0 false) Lst') k) ->
    (∀ k,k < nx + wd * i \/ nx + wd * i + wd <= k -> r' k = r k) -> (∀ k e,zX HX k = some e -> (nx + wd * i <= k /\ k < nx + wd * i + wd) \/ ∃ e',zX (HLs T all L frF nx H0 (listed.getD 0 false) Lst) k = some e') -> rc.val.rel r' cx.X (wr r' HX) w' v ->
    ((listed.setIfInBounds i true).getD 0 false = true -> ∃ x,r' nx = some x /\ x.sz = 0) -> Lst'.Nodup -> (∀ j,j ∈ Lst' ↔ ((listed.setIfInBounds i true).getD j false = true /\ Qk all L j = true)) -> wpAny P .any all.toArray Q fuel (listed.setIfInBounds i true) (a.put o.dst v) w':=by
    intro Lst' v w' r' HX hext hst hHX hr' hnew hrel hmp hnod hmem;refine ih _ Lst' _ _ r' hunl ⟨by simp [inv.size],λx ox hx hz e he hb=>?_,hst.congr hHX,?_,λk hk hkn=>?_,by rw [Yu.1];exact inv.tsz,by rw [Yu.2];exact inv.defers,λk hk=>by rw [hr' k (.inl (by omega))];exact inv.low k hk,hmp,hnod,hmem⟩
    . rw [Qo hisz] at hz ⊢;simp only [Bool.or_eq_true,beq_iff_eq] at hz ⊢;rcases hz with rfl | hz
      . rw [hoi] at hx;injection hx with hx;subst hx;exact .inr (hdeps e he hb)
      . exact .inr (inv.closed x ox hx hz e he hb)
    . exact (YW.put (inv.fr.ext hext) (by rw [inv.tsz];exact hokd) hrel).congr hHX frMore
    . have hki : ¬ (nx + wd * i <= k /\ k < nx + wd * i + wd):=hkn i (by rw [Qo hisz];simp);have hold:=inv.names k hk λj hj=>hkn j (by rw [Qo hisz,hj];simp);rw [hr' k (by omega),<- hHX k];refine ⟨hold.1,?_⟩;cases hh : zX HX k with
      | none=>rfl
      | some e=>
        rcases hnew k e hh with h | ⟨e',h⟩
        . exact absurd h hki
        . rw [hold.2] at h;cases h
   unfold wpOp;simp only [ho,hwanted,hex];rw [if_pos True.intro];refine .inl ?_;have hl0 : (listed.setIfInBounds i true).getD 0 false = (0 == i || listed.getD 0 false):=Qo hisz;have hmemP : Qk all L i = false -> ∀ j,j ∈ Lst ↔ ((listed.setIfInBounds i true).getD j false = true /\ Qk all L j = true):=λhni j=>by
    rw [inv.mem,Qo hisz];constructor
    . exact λh=>⟨by rw [h.1,Bool.or_true],h.2⟩
    . rintro ⟨h1,h2⟩;simp only [Bool.or_eq_true,beq_iff_eq] at h1;rcases h1 with rfl | h1
      . rw [hni] at h2;cases h2
      . exact ⟨h1,h2⟩
   have eHS : ∀ k e',k ≠ nx -> zX (HLs T all L frF nx H0 (listed.getD 0 false) Lst) k = some e' -> zX H0 k = some e':=λk e' hk h=>by
    cases hb : listed.getD 0 false with
    | false=>rw [hb] at h;exact h
    | true=>rw [hb] at h;exact (zZ _ _ _ hk).symm.trans h
   by_cases hi0 : i = 0
   . subst hi0;have hoi' : o = o0:=by rw [h0] at hoi;injection hoi with hoi;exact hoi.symm
     have hLn : Lst = []:=by
      rw [List.eq_nil_iff_forall_not_mem];intro j hj;obtain ⟨h1,h2⟩:=(inv.mem j).1 hj;obtain ⟨oj,I,hoj,hoI,_⟩:=insP j h2;obtain ⟨rj,hrj,_⟩:=hat j oj hoj;have hne : j ≠ 0:=λh=>by subst h;rw [hno0] at h2;cases h2
      have:=order j oj rj hoj hrj (λ_=>by
       have : zAp (YZ all oj) o.dst = true:=by
        rw [hoi',hdst0];exact Yf (zFZ hoI).1
       simp [zBa,this]) (λh=>by omega)
      rw [h1,decide_eq_false (by omega)] at this;cases this
     subst hLn;have eqn : nx + wd * 0 = nx:=by rw [Nat.mul_zero,Nat.add_zero]
     rw [eqn] at hs hfree next
     have hsr : sr = ⟨none,zL (.mp nx),[(nx,some ⟨Za L.ks L.ka L.va,0,L.ks + L.vs,false,λ_ _=>.top⟩)],[]⟩:=by
      rcases hs with ⟨h1,_⟩ | ⟨f,args,h1,_⟩
      . rw [hoi',hop0] at h1;have h1 : zDr T L.t nx = some sr:=h1;unfold zDr at h1;rw [hTL] at h1;exact (YI h1).2.symm
      . rw [hoi',hop0] at h1;cases h1
     have hS0 : HLs T all L frF nx H0 (listed.getD 0 false) [] = H0:=by rw [hSi];rfl
     have hs2:=zCd (fr':=qT (λi=>listed.getD i false) (qS all rs) 0 fr0) (H':=HLs T all L frF nx H0 (listed.getD 0 false) []) hs (λt ht=>by rw [hoi',hop0] at ht;cases ht) (λk hk=>by rw [hsr] at hk;cases hk) (λh=>by rw [hsr] at h;cases h);refine zDf hT hs2 inv.st inv.fr hfree (λh=>by rw [hsr] at h;cases h) hwd λv w' hleft=>?_;obtain ⟨r',g1,g2,g3,g5,g4⟩:=hleft;have hrv : rc.val = zL (.mp nx):=by rw [<- hv,hsr]
     rw [hsr] at g1 g2 g4 g5;dsimp only at g1 g2 g4 g5;have hgt : zX ([(nx,some (⟨Za L.ks L.ka L.va,0,L.ks + L.vs,false,λ_ _=>.top⟩ : Ent))] ++ HLs T all L frF nx H0 (listed.getD 0 false) []) nx = some ⟨Za L.ks L.ka L.va,0,L.ks + L.vs,false,λ_ _=>.top⟩:=zn _ _ _ _;have g2':=g2.swap (e':=zB1 T all L frF []) hgt λh=>h.map rfl rfl rfl rfl rfl (λ_ _=>rfl) λi hi=>absurd hi (Nat.not_lt_zero i);have hwr:=zDN (r:=r') (e':=zB1 T all L frF []) hgt;refine next [] v w' r' _ (by rw [hwr];exact g1) g2' (λk=>?_) g3 (λk e hk=>?_) (by rw [hwr,hrv];exact g4) (λ_=>?_) List.nodup_nil (hmemP hno0)
     . rw [hl0];show zX _ k = zX ((nx,some (zB1 T all L frF [])) :: H0) k;by_cases hk : k = nx
       . subst hk;exact (zn _ _ _ _).trans (zn _ _ _ _).symm
       . rw [hS0];exact (zZ _ _ _ hk).trans ((zZ _ _ _ hk).trans (zZ _ _ _ hk).symm)
     . by_cases hkn : k = nx
       . exact .inl ⟨by omega,by omega⟩
       . rcases g5 k e ((zZ _ _ _ hkn).symm.trans hk) with h | h
         . exact .inl ⟨h.1.resolve_right (λh=>by cases h),h.2⟩
         . exact .inr h
     . obtain ⟨x,hx,hz,_⟩:=g4;exact ⟨x,hx,hz⟩
   . have hwi : 0 < wd * i:=Nat.mul_pos hwd (by omega);have hl1 : (listed.setIfInBounds i true).getD 0 false = listed.getD 0 false:=by
      rw [hl0];have : (0 == i) = false:=by simp;omega
      rw [this,Bool.false_or]
     cases hins : Qk all L i with
     | false=>
       obtain ⟨p1,p2⟩:=hpure hi0 hins;have hre : sr.eff = []:=by rw [he,p1]
       have hrr : sr.rd = []:=by rw [hrd,p2]
       have hs2:=zCd (fr':=qT (λi=>listed.getD i false) (qS all rs) 0 fr0) (H':=HLs T all L frF nx H0 (listed.getD 0 false) Lst) hs (λt ht=>frEq t (by simp [YZ,ht])) (λk hk=>by rw [hrr] at hk;cases hk) (λh=>by rw [hrr] at h;cases h);refine zDf hT hs2 inv.st inv.fr hfree (λh=>by rw [hrr] at h;cases h) hwd λv w' hleft=>?_;obtain ⟨r',g1,g2,g3,g5,g4⟩:=hleft;rw [hre] at g1 g2 g4 g5;rw [hrr] at g5;rw [hv] at g4;refine next Lst v w' r' _ g1 g2 (λk=>by rw [hl1];rfl) g3 (λk e hk=>?_) g4 (λh=>?_) inv.nod (hmemP hins)
       . rcases g5 k e hk with h | h
         . exact .inl ⟨h.1.resolve_right (λh=>by cases h),h.2⟩
         . exact .inr h
       . rw [hl1] at h;obtain ⟨x,hx,hz⟩:=inv.mp h;exact ⟨x,by rw [g3 nx (.inl (by omega))];exact hx,hz⟩
     | true=>
       obtain ⟨o',I,ho',hoI,hI,hit,hlate,hpairs⟩:=insP i hins;rw [hoi] at ho';injection ho' with ho';subst ho';obtain ⟨hlm,k,x,hop⟩:=zFZ hoI;obtain ⟨rc0,hrc0,_⟩:=hat 0 o0 h0;have hl0t : listed.getD 0 false = true:=by
        rw [order 0 o0 rc0 h0 hrc0 (λh=>by omega) (λ_=>by
         have : zAp (YZ all o) o0.dst = true:=by rw [hdst0];exact Yf hlm
         simp [zBa,this])]
        exact decide_eq_true (by omega)
       have eHS1 : HLs T all L frF nx H0 (listed.getD 0 false) Lst = (nx,some (zB1 T all L frF Lst)) :: H0:=by rw [hl0t];rfl
       have frL : ∀ t ∈ YZ all o,QH frF t = QH (qT (λi=>listed.getD i false) (qS all rs) 0 fr0) t:=λt ht=>by
        rw [<- frEq t ht,<- hfrF,<- zBP];refine qv _ _ _ _ _ _ _ _ rfl λj e he hk=>?_;obtain ⟨oj,rj,q1,q2,q3,_⟩:=frj j e t he hk;rw [Nat.zero_add,Nat.zero_add];symm
        refine decide_eq_true ?_;rcases Nat.lt_or_ge j i with h | h
        . exact h
        . have:=hlate j oj h q1;rw [q3] at this;have h2 : zB8 (YZ all o) t = true:=Yf ht;rw [show zAp (YZ all o) (some t) = zB8 (YZ all o) t from rfl,h2] at this;cases this
       have tl : ∀ t ∈ zCc o.op,QH frF t = QH (qT (λi=>listed.getD i false) (qS all rs) 0 fr0) t:=λt ht=>frL t (by simp [YZ,ht]);have evk : ev frF k = ev (qT (λi=>listed.getD i false) (qS all rs) 0 fr0) k:=zB9 tl (by rw [hop];simp [Op.operands]);have evx : ev frF x = ev (qT (λi=>listed.getD i false) (qS all rs) 0 fr0) x:=zB9 tl (by rw [hop];simp [Op.operands]);have hmv : ev (qT (λi=>listed.getD i false) (qS all rs) 0 fr0) (.tmp L.m) = .e (.c (.mp nx)):=by
        show QH _ L.m = _;rw [<- frL L.m hlm];exact hmap
       rw [hop] at hI;have hI2 : litI T L (qT (λi=>listed.getD i false) (qS all rs) 0 fr0) (.insert L.t (.tmp L.m) k x) = some I:=by
        rw [<- hI];unfold litI;dsimp only;rw [evk,evx]
       have hgt : zX (HLs T all L frF nx H0 (listed.getD 0 false) Lst) nx = some (zB1 T all L frF Lst):=by rw [eHS1];exact zn _ _ _ _
       have hset:=zGE (n:=Lst.length) (f:=λk=>zBJ L.ks (zAv T all L frF (Lst.getD k 0))) hTL hgt hI2;have hother : ∀ q,q < Lst.length -> Qk all L (Lst.getD q 0) = true /\ i ≠ Lst.getD q 0:=λq hq=>by
        have e : Lst.getD q 0 = Lst[q]:=by rw [List.getD_eq_getElem?_getD,List.getElem?_eq_getElem hq];rfl
        obtain ⟨z1,z2⟩:=(inv.mem _).1 (List.getElem_mem hq);rw [e];exact ⟨z2,λh=>by rw [<- h,hSi] at z1;cases z1⟩
       rw [zDh _ _ λq hq=>(hpairs _ (hother q hq).1 (hother q hq).2).2] at hset;have hblt : Nat.blt Lst.length Lst.length = false:=by
        cases hb : Nat.blt Lst.length Lst.length with
        | false=>rfl
        | true=>have:=Nat.le_of_ble_eq_true hb;omega
       rw [hblt,cond_false] at hset;have hval : rc.val = .top:=by
        rw [<- hv];rcases hs with ⟨h1,_⟩ | ⟨f,args,h1,_⟩
        . rw [hop] at h1;exact zGF h1
        . rw [hop] at h1;cases h1
       have hpre : ∀ q,q < Lst.length -> Zw I.g (zBJ L.ks (zAv T all L frF (Lst.getD q 0))) I.l 0 = true:=λq hq=>(hpairs _ (hother q hq).1 (hother q hq).2).1;rw [<- hmv] at hset;have h1 : qW T (.insert L.t (.tmp L.m) k x) (qT (λi=>listed.getD i false) (qS all rs) 0 fr0) (HLs T all L frF nx H0 (listed.getD 0 false) Lst) (nx + wd * i) = _:=hset;rw [<- hop] at h1;have hs2 : Stp P T o.op (qT (λi=>listed.getD i false) (qS all rs) 0 fr0) (HLs T all L frF nx H0 (listed.getD 0 false) Lst) (nx + wd * i) wd _:=.inl ⟨h1,hpre⟩;have hnx : nx ≠ zBt:=hnA;refine zDf hT hs2 inv.st inv.fr hfree (λh=>absurd (List.mem_singleton.1 h).symm hnx) hwd λv w' hleft=>?_;obtain ⟨r',g1,g2,g3,g5,g4⟩:=hleft;dsimp only at g1 g2 g5;have hgt2 : zX ([(nx,some (⟨Za L.ks L.ka L.va,Lst.length + 1,L.ks + L.vs,false,λi j=>Zp (Nat.beq i Lst.length) (zBJ L.ks I j) (zBJ L.ks (zAv T all L frF (Lst.getD i 0)) j)⟩ : Ent))] ++ HLs T all L frF nx H0 (listed.getD 0 false) Lst) nx = some (⟨Za L.ks L.ka L.va,Lst.length + 1,L.ks + L.vs,false,λi j=>Zp (Nat.beq i Lst.length) (zBJ L.ks I j) (zBJ L.ks (zAv T all L frF (Lst.getD i 0)) j)⟩ : Ent):=zn _ _ _ _;have g2':=g2.swap (e':=zB1 T all L frF (Lst ++ [i])) hgt2 λh=>h.map rfl (by show Lst.length + 1 = (Lst ++ [i]).length;simp) rfl rfl rfl (λ_ _=>rfl) λq hq j hj u hu=>by
        have hq : q < Lst.length + 1:=hq;show (zBJ L.ks (zAv T all L frF ((Lst ++ [i]).getD q 0)) j).rel _ _ _ _ _;have hu : (Zp (Nat.beq q Lst.length) (zBJ L.ks I j) (zBJ L.ks (zAv T all L frF (Lst.getD q 0)) j)).rel _ _ _ _ _:=hu;by_cases hql : q = Lst.length
        . subst hql;rw [show Nat.beq Lst.length Lst.length = true by simp,zBm] at hu;rw [List.getD_eq_getElem?_getD,List.getElem?_append_right (Nat.le_refl _),Nat.sub_self];show (zBJ L.ks (zAv T all L frF i) j).rel _ _ _ _ _;rw [hit];exact hu
        . have : Nat.beq q Lst.length = false:=by
           cases hb : Nat.beq q Lst.length with
           | false=>rfl
           | true=>exact absurd (Nat.eq_of_beq_eq_true hb) hql
          rw [this,zA7] at hu;rw [List.getD_eq_getElem?_getD,List.getElem?_append_left (by omega),<- List.getD_eq_getElem?_getD];exact hu
       have hwr:=zDN (r:=r') (e':=zB1 T all L frF (Lst ++ [i])) hgt2;refine next (Lst ++ [i]) v w' r' _ (by rw [hwr];exact g1) g2' (λk=>?_) g3 (λk e hk=>?_) (by rw [hval];trivial) (λ_=>?_) ?_ (λj=>?_)
       . rw [hl1,eHS1,hl0t];show zX _ k = zX ((nx,some (zB1 T all L frF (Lst ++ [i]))) :: H0) k;by_cases hk : k = nx
         . subst hk;exact (zn _ _ _ _).trans (zn _ _ _ _).symm
         . exact (zZ _ _ _ hk).trans ((zZ _ _ _ hk).trans ((zZ _ _ _ hk).trans (zZ _ _ _ hk).symm))
       . by_cases hkn : k = nx
         . subst hkn;exact .inr ⟨_,hgt⟩
         . rcases g5 k e ((zZ _ _ _ hkn).symm.trans hk) with h | h
           . exact .inl ⟨h.1.resolve_right (λh=>absurd (List.mem_singleton.1 h).symm hnx),h.2⟩
           . exact .inr h
       . obtain ⟨x,hx,hz⟩:=inv.mp hl0t;exact ⟨x,by rw [g3 nx (.inl (by omega))];exact hx,hz⟩
       . rw [List.nodup_append];refine ⟨inv.nod,by simp,λa ha b hb=>?_⟩;rw [List.mem_singleton.1 hb];rintro rfl;have:=((inv.mem _).1 ha).1;rw [hSi] at this;cases this
       . rw [List.mem_append,List.mem_singleton,inv.mem,Qo hisz];constructor
         . rintro (h | h)
           . exact ⟨by rw [h.1,Bool.or_true],h.2⟩
           . subst h;exact ⟨by simp,hins⟩
         . rintro ⟨h1,h2⟩;simp only [Bool.or_eq_true,beq_iff_eq] at h1;rcases h1 with h1 | h1
           . exact .inr h1
           . exact .inl ⟨h1,h2⟩
end
structure Wc where
 H : Hp
 H' : Hp
 rho : List (Nat × Option Nat)
 nx : Nat
 fin : Bool:=false
def zAG : List (Nat × Option Nat) -> Nat -> Option (Option Nat)
 | [],_=>none
 | (k,v) :: rest,t=>bif Nat.beq t k then some v else zAG rest t
def Wc.src (c : Wc) (k : Nat) : Option Nat:=
 match zAG c.rho k with
 | some o=>o
 | none=>bif Nat.blt k c.nx then some k else none
def Wc.ren (c : Wc) (r : QK) (k : Nat) : Option Bi:=
 match c.src k with
 | some k0=>r k0
 | none=>none
def Wc.wr (c : Wc) (cx : Cx) (r : QK) (b : Nat) : Prop:=AX.wr (c.ren r) c.H' b \/ (c.fin = true /\ cx.X b)
def Wc.Live (c : Wc) : Prop:=∀ k e',zX c.H' k = some e' -> ∀ k0,c.src k = some k0 -> ∃ e,zX c.H k0 = some e
def Zu (c : Wc) (x y : CV) : Prop:=c.Live -> ∀ cx r w v,St cx r c.H w -> x.rel r cx.X (wr r c.H) w v -> y.rel (c.ren r) cx.X (c.wr cx r) w v
def LeE (c : Wc) (x y : EV) : Prop:=c.Live -> ∀ cx r w v,St cx r c.H w -> x.rel r cx.X (wr r c.H) w v -> y.rel (c.ren r) cx.X (c.wr cx r) w v
def LeF (c : Wc) (x y : FV) : Prop:=c.Live -> ∀ cx r w v,St cx r c.H w -> x.rel r cx.X (wr r c.H) w v -> y.rel (c.ren r) cx.X (c.wr cx r) w v
structure LeN (c : Wc) (e e' : Ent) : Prop where
 t : e.t = e'.t
 n : e.n = e'.n
 sz : e.sz = e'.sz
 v : e.v = e'.v
 f : ∀ i,i < e.n -> ∀ j,j < e.sz -> Zu c (e.f i j) (e'.f i j)
def WkF (c : Wc) (fr : Fr) : Fr -> Prop
 | []=>True
 | (t,v) :: rest=>LeF c (QH fr t) v /\ WkF c fr rest
def WkE (c : Wc) (e' : Ent) (o : Option Nat) : Prop:=
 match o with
 | some k0=>match zX c.H k0 with
   | some e=>LeN c e e'
   | none=>False
 | none=>e'.n = 0 /\ e'.v = false /\ 0 < e'.sz
def WkH (c : Wc) : Hp -> Prop
 | []=>True
 | (_,none) :: rest=>WkH c rest
 | (k,some e') :: rest=>(Nat.blt k c.nx = true /\ WkE c e' (c.src k)) /\ WkH c rest
def zC9 (c : Wc) : Hp -> List Nat
 | []=>[]
 | (_,none) :: rest=>zC9 c rest
 | (k,some _) :: rest=>(c.src k).toList ++ zC9 c rest
def zDY : List Nat -> Bool
 | []=>true
 | k :: l=>!(l.any (Nat.beq k)) && zDY l
def zEB (np : Nat) (c : Wc) : Bool:=(c.rho.all λp=>Nat.ble np p.1 && Nat.blt p.1 c.nx) && zDY (zC9 c c.H')
theorem WkF.at {c : Wc} {fr : Fr} : ∀ {fr' : Fr},WkF c fr fr' -> ∀ t,LeF c (QH fr t) (QH fr' t):=by
 intro fr';induction fr' with
 | nil=>intro _ t _ cx r w v _ _;trivial
 | cons p fr' ih=>
   obtain ⟨k,x⟩:=p;rintro ⟨h1,h2⟩ t;by_cases ht : t = k
   . subst ht;have : QH ((t,x) :: fr') t = x:=zn _ _ _ _;rw [this];exact h1
   . have : QH ((k,x) :: fr') t = QH fr' t:=zZ _ _ _ ht;rw [this];exact ih h2 t
theorem WkH.at {c : Wc} : ∀ {H' : Hp},WkH c H' -> ∀ k e',zX H' k = some e' -> k < c.nx /\ WkE c e' (c.src k):=by
 intro H';induction H' with
 | nil=>intro _ k e' h;cases h
 | cons p H' ih=>
   obtain ⟨k0,x⟩:=p;intro h k e' he;by_cases hk : k = k0
   . subst hk;have e1 : zX ((k,x) :: H') k = x:=zn _ _ _ _;rw [e1] at he;subst he;exact ⟨Nat.le_of_ble_eq_true h.1.1,h.1.2⟩
   . have e1 : zX ((k0,x) :: H') k = zX H' k:=zZ _ _ _ hk;rw [e1] at he;cases x with
     | none=>exact ih h k e' he
     | some x=>exact ih h.2 k e' he
theorem WkH.live {c : Wc} (h : WkH c c.H') : c.Live:=λk e' he k0 hk0=>by
 obtain ⟨_,h1⟩:=h.at k e' he;rw [hk0] at h1;unfold WkE at h1;simp only at h1;split at h1
 . rename_i e hh;exact ⟨e,hh⟩
 . exact h1.elim
theorem zFI {c : Wc} {k k0 : Nat} (hs : c.src k = some k0) : ∀ {H' : Hp} {e' : Ent},zX H' k = some e' -> k0 ∈ zC9 c H':=by
 intro H';induction H' with
 | nil=>intro e' h;cases h
 | cons p H' ih=>
   obtain ⟨k1,x⟩:=p;intro e' he;by_cases hk : k = k1
   . subst hk;have e1 : zX ((k,x) :: H') k = x:=zn _ _ _ _;rw [e1] at he;subst he;simp [zC9,hs]
   . have e1 : zX ((k1,x) :: H') k = zX H' k:=zZ _ _ _ hk;rw [e1] at he;cases x with
     | none=>exact ih he
     | some x=>simp only [zC9];exact List.mem_append_right _ (ih he)
theorem zFJ {c : Wc} : ∀ {H' : Hp},zDY (zC9 c H') = true -> ∀ k m e e' k0,zX H' k = some e -> zX H' m = some e' -> c.src k = some k0 -> c.src m = some k0 -> k = m:=by
 intro H';induction H' with
 | nil=>intro _ k m e e' k0 h;cases h
 | cons p H' ih=>
   obtain ⟨k1,x⟩:=p;intro hn k m e e' k0 hk hm sk sm;have ne : ∀ j,j ≠ k1 -> zX ((k1,x) :: H') j = zX H' j:=λj hj=>zZ _ _ _ hj;cases x with
   | none=>
     have e0 : zX ((k1,none) :: H') k1 = none:=zn _ _ _ _;by_cases h1 : k = k1
     . subst h1;rw [e0] at hk;cases hk
     . by_cases h2 : m = k1
       . subst h2;rw [e0] at hm;cases hm
       . rw [ne k h1] at hk;rw [ne m h2] at hm;exact ih hn k m e e' k0 hk hm sk sm
   | some x=>
     have tail : ∀ j ej,j ≠ k1 -> zX ((k1,some x) :: H') j = some ej -> c.src j = some k0 -> c.src k1 = some k0 -> False:=λj ej hj hej sj s1=>by
      rw [ne j hj] at hej;have hmem:=zFI sj hej;simp only [zC9,s1,Option.toList_some,List.singleton_append,zDY,Bool.and_eq_true,Bool.not_eq_true'] at hn;have : (zC9 c H').any (Nat.beq k0) = true:=List.any_eq_true.2 ⟨k0,hmem,by simp⟩;rw [hn.1] at this;cases this
     by_cases h1 : k = k1
     . by_cases h2 : m = k1
       . omega
       . subst h1;exact (tail m e' h2 hm sm sk).elim
     . by_cases h2 : m = k1
       . subst h2;exact (tail k e h1 hk sk sm).elim
       . rw [ne k h1] at hk;rw [ne m h2] at hm;refine ih ?_ k m e e' k0 hk hm sk sm;simp only [zC9] at hn;cases hs : c.src k1 with
         | none=>rw [hs] at hn;exact hn
         | some q=>
           rw [hs] at hn;simp only [Option.toList_some,List.singleton_append,zDY,Bool.and_eq_true] at hn;exact hn.2
theorem zEC : ∀ {l : List (Nat × Option Nat)} {k : Nat} {o : Option Nat},zAG l k = some o -> ∃ p ∈ l,p.1 = k:=by
 intro l;induction l with
 | nil=>intro k o h;cases h
 | cons p l ih=>
   obtain ⟨k1,v⟩:=p;intro k o h;simp only [zAG] at h;cases hb : Nat.beq k k1 with
   | true=>exact ⟨(k1,v),List.mem_cons_self ..,(Nat.eq_of_beq_eq_true hb).symm⟩
   | false=>
     rw [hb,cond_false] at h;obtain ⟨p,hp,hk⟩:=ih h;exact ⟨p,List.mem_cons_of_mem _ hp,hk⟩
theorem weaken {cx : Cx} {r : QK} {w : World} {fr : Fr} {tmps : Array Value} {c : Wc} {np : Nat} (st : St cx r c.H w) (hf : YW cx r c.H w fr tmps) {fr' : Fr} (h0 : ∀ k b,cx.pin k = some b -> k < np) (hnp : Nat.ble np c.nx = true) (hrho : zEB np c = true) (hfin : c.fin = false) (h1 : WkF c fr fr') (h2 : WkH c c.H') :
 St cx (c.ren r) c.H' w /\ YW cx (c.ren r) c.H' w fr' tmps /\ (∀ k,c.nx <= k -> c.ren r k = none /\ zX c.H' k = none) /\ ∀ k,k < np -> c.ren r k = r k:=by
 simp only [zEB,Bool.and_eq_true] at hrho;have hlive:=h2.live;have hwr : c.wr cx r = wr (c.ren r) c.H':=by funext b;simp [Wc.wr,hfin]
 have hkeys : ∀ k o,zAG c.rho k = some o -> np <= k /\ k < c.nx:=λk o h=>by
  obtain ⟨p,hp,rfl⟩:=zEC h;have:=List.all_eq_true.1 hrho.1 p hp;simp only [Bool.and_eq_true] at this;exact ⟨Nat.le_of_ble_eq_true this.1,Nat.le_of_ble_eq_true this.2⟩
 have hren : ∀ k x,c.ren r k = some x -> ∃ k0,c.src k = some k0 /\ r k0 = some x:=λk x h=>by
  unfold Wc.ren at h;split at h
  . rename_i k0 hk0;exact ⟨k0,hk0,h⟩
  . cases h
 refine ⟨⟨st.os,st.tape,st.output,st.size,st.kept,st.xlt,λk x h=>?_,λk e' x he hx=>?_,λn m e e' x y hn hm hx hy hxy=>?_,λk b hk=>?_,λk e' he=>?_⟩,λt=>by rw [<- hwr];exact h1.at t hlive cx r w _ st (hf t),λk hk=>⟨?_,?_⟩,λk hk=>?_⟩
 . obtain ⟨k0,_,h⟩:=hren k x h;exact st.dom k0 x h
 . obtain ⟨k0,s1,hx⟩:=hren k x hx;obtain ⟨e1,l1⟩:=hlive k e' he k0 s1;exact st.ow k0 e1 x l1 hx
 . obtain ⟨n0,s1,hx⟩:=hren n x hx;obtain ⟨m0,s2,hy⟩:=hren m y hy;obtain ⟨e1,l1⟩:=hlive n e hn n0 s1;obtain ⟨e2,l2⟩:=hlive m e' hm m0 s2;have:=st.inj n0 m0 e1 e2 x y l1 l2 hx hy hxy;subst this;exact zFJ hrho.2 n m e e' n0 hn hm s1 s2
 . have hlt:=h0 k b hk;have hl : zAG c.rho k = none:=by
    cases hl : zAG c.rho k with
    | none=>rfl
    | some o=>have:=hkeys k o hl;omega
   have hs : c.src k = some k:=by
    unfold Wc.src;rw [hl];have : Nat.blt k c.nx = true:=Nat.ble_eq_true_of_le (Nat.lt_of_lt_of_le hlt (Nat.le_of_ble_eq_true hnp));simp only [this,cond_true]
   unfold Wc.ren;rw [hs];exact st.pin k b hk
 . obtain ⟨hlt,hw⟩:=h2.at k e' he;cases hs : c.src k with
   | none=>
     rw [hs] at hw;obtain ⟨g1,g2,g3⟩:=hw;exact ⟨g3,(λh=>by rw [g2] at h;cases h),.inl ⟨by unfold Wc.ren;rw [hs],g1⟩⟩
   | some k0=>
     rw [hs] at hw;unfold WkE at hw;simp only at hw;split at hw
     . rename_i e hh;have hrk : c.ren r k = r k0:=by unfold Wc.ren;rw [hs]
       exact (st.blk k0 e hh).map hw.t hw.n hw.sz hw.v hrk.symm (λ_ _=>rfl) λi hi j hj u hu=>by
        rw [<- hwr];exact hw.f i hi j hj hlive cx r w u st hu
     . exact hw.elim
 . unfold Wc.ren Wc.src;cases hl : zAG c.rho k with
   | some o=>have:=hkeys k o hl;omega
   | none=>
     have : Nat.blt k c.nx = false:=by
      cases hb : Nat.blt k c.nx with
      | false=>rfl
      | true=>have:=Nat.le_of_ble_eq_true hb;omega
     simp only [this,cond_false]
 . cases hh : zX c.H' k with
   | none=>rfl
   | some e'=>have:=(h2.at k e' hh).1;omega
 . have hl : zAG c.rho k = none:=by
    cases hl : zAG c.rho k with
    | none=>rfl
    | some o=>have:=hkeys k o hl;omega
   unfold Wc.ren Wc.src;rw [hl];have : Nat.blt k c.nx = true:=Nat.ble_eq_true_of_le (Nat.lt_of_lt_of_le hk (Nat.le_of_ble_eq_true hnp));simp only [this,cond_true]
abbrev Kt:=Exit -> Fr -> Hp -> Nat -> Prop
def Yt (next : Fr -> Hp -> Nat -> Prop) (K : Kt) : Kt
 | .normal,fr,H,nx=>next fr H nx
 | e,fr,H,nx=>K e fr H nx
def blkK (id : Nat) (K : Kt) : Kt
 | .exit id',fr,H,nx=>bif Nat.beq id' id then K .normal fr H nx else K (.exit id') fr H nx
 | e,fr,H,nx=>K e fr H nx
def iter (np : Nat) (R : Fr -> Hp -> Nat -> Kt -> Prop) (K : Kt) : Nat -> Fr -> Hp -> Nat -> Prop
 | 0,_,_,_=>False
 | n + 1,fr,H,nx=>∃ fr' H' rho nx',Nat.ble np nx' = true /\ zEB np ⟨H,H',rho,nx',false⟩ = true /\ WkF ⟨H,H',rho,nx',false⟩ fr fr' /\ WkH ⟨H,H',rho,nx',false⟩ H' /\ R fr' H' nx' (Yt (iter np R K n) K)
def litK (T : YU) (ops : List Oper) (nx0 : Nat) (H0 : Hp) (K : Kt) (fr : Fr) (nx : Nat) (log : Log) : Prop:=
 match litOf T ops with
 | some L=>bif zEU T ops L fr log nx0 then K .normal fr ((nx0,some (zBZ T ops L fr)) :: H0) nx else False
 | none=>False
def qR (T : YU) (Q : Qs) (wd nt np : Nat) : Code -> Fr -> Hp -> Nat -> Kt -> Prop
 | .skip,fr,H,nx,K=>K .normal fr H nx
 | .region _ ops draw,fr,H,nx,K=>Yw T Q wd nt ops.toList ops.toList 0 fr H nx [] λfr' H' nx' log=>bif !draw || zEn ops.toList log.reverse then K .normal fr' H' nx' else litK T ops.toList nx H K fr' nx' log.reverse
 | .seq a b,fr,H,nx,K=>qR T Q wd nt np a fr H nx (Yt (λfr H nx=>qR T Q wd nt np b fr H nx K) K)
 | .cond c a b,fr,H,nx,K=>
   match ev fr c with
   | .e (.c (.bool t))=>(t = true -> qR T Q wd nt np a fr H nx K) /\ (t = false -> qR T Q wd nt np b fr H nx K)
   | _=>False
 | .block id c,fr,H,nx,K=>qR T Q wd nt np c fr H nx (blkK id K)
 | .loop c,fr,H,nx,K=>∃ n,iter np (qR T Q wd nt np c) K n fr H nx
 | .exit id,fr,H,nx,K=>K (.exit id) fr H nx
 | .ret,fr,H,nx,K=>K .ret fr H nx
 | .label _,fr,H,nx,K=>K .normal fr H nx
 | _,_,_,_,_=>False
def Is (cx : Cx) (nt np : Nat) (fx : QK) (fr : Fr) (H : Hp) (nx : Nat) (a : Act) (w : World) : Prop:=
 ∃ r,St cx r H w /\ YW cx r H w fr a.tmps /\ (∀ k,nx <= k -> r k = none /\ zX H k = none) /\ a.tmps.size = nt /\ a.defers = [] /\ np <= nx /\ ∀ k,k < np -> r k = fx k
def lift (cx : Cx) (nt np : Nat) (fx : QK) (K : Kt) (e : Exit) (a : Act) (w : World) : Prop:=∃ fr H nx,K e fr H nx /\ Is cx nt np fx fr H nx a w
section
variable {P : Program} {cx : Cx} {T : YU} {Q : Qs} {wd nt np : Nat} {fx : QK}
theorem zF6 (hT : qP P T) (hwd : 0 < wd) {all : List Oper} {R : Exit -> Act -> World -> Prop} : ∀ (os : List Oper) (rs : List Rec) (i : Nat) (fr : Fr) (H : Hp) (nx : Nat),Good P T wd nt all os rs fr H nx -> (∀ j,os[j]? = all[i + j]?) ->
 (∀ a w,Is cx nt np fx (qT (λ_=>true) (qS os rs) 0 fr) (qT (λ_=>true) (QT rs) 0 H) (nx + wd * os.length) a w -> R .normal a w) -> ∀ a w,Is cx nt np fx fr H nx a w -> wpOps P all.toArray R (List.range' i os.length) a w:=by
 have selS : ∀ {α : Type} (es : List (List (Nat × α))) (k k' : Nat) (b : List (Nat × α)),qT (λ_=>true) es k b = qT (λ_=>true) es k' b:=by
  intro α es;induction es with
  | nil=>intro k k' b;rfl
  | cons e es ih=>intro k k' b;rw [qT,qT];exact ih _ _ _
 intro os;induction os with
 | nil=>
   intro rs i fr H nx hg _ hQ a w hs;cases rs with
   | nil=>exact hQ a w hs
   | cons=>exact hg.elim
 | cons o os ih=>
   intro rs i fr H nx hg hall hQ a w hs;cases rs with
   | nil=>exact hg.elim
   | cons rc rs=>
     obtain ⟨⟨hokd,hwt,hstep⟩,hg2⟩:=hg;obtain ⟨r,st,hf,hnm,hts,hdf,hnp,hfx⟩:=hs;have ho : all[i]? = some o:=by simpa using (hall 0).symm
     have ho' : all.toArray[i]? = some o:=by simpa using ho
     have e1 : qT (λ_=>true) (qS (o :: os) (rc :: rs)) 0 fr = qT (λ_=>true) (qS os rs) 0 (YQ o.dst rc.val ++ fr):=by
      show qT _ (YQ o.dst rc.val :: qS os rs) 0 fr = _;rw [qT,cond_true];exact selS _ _ _ _
     have e2 : qT (λ_=>true) (QT (rc :: rs)) 0 H = qT (λ_=>true) (QT rs) 0 (rc.eff ++ H):=by
      show qT _ (rc.eff :: QT rs) 0 H = _;rw [qT,cond_true];exact selS _ _ _ _
     rw [e1,e2,List.length_cons,show nx + wd * (os.length + 1) = nx + wd + wd * os.length by rw [Nat.mul_add,Nat.mul_one];omega] at hQ;have next : ∀ a w,Is cx nt np fx (YQ o.dst rc.val ++ fr) (rc.eff ++ H) (nx + wd) a w -> wpOps P all.toArray R (List.range' (i + 1) os.length) a w:=
      λa w hs=>ih rs (i + 1) _ _ _ hg2 (λj=>by have:=hall (j + 1);simp only [List.getElem?_cons_succ] at this;rw [this];congr 1;omega) hQ a w hs
     have hfree : zAq r H nx wd:=λk h1 _=>hnm k h1;rw [List.length_cons,List.range'_succ,wpOps_cons];unfold wpOp;simp only [ho',zCb hf hwt];cases hex : rc.ex with
     | true=>
       rw [hex] at hstep;obtain ⟨sr,hss,hv,he,hrd⟩:=hstep;rw [if_pos rfl];refine .inl (zDf hT hss st hf hfree (λ_=>hnm) hwd λv w' hleft=>?_);obtain ⟨r',g1,g2,g3,g5,g4⟩:=hleft;rw [he] at g1 g2 g4 g5;rw [hv] at g4;refine next _ _ ⟨r',g2,YW.put (hf.ext g1) (by rw [hts];exact hokd) g4,λk hk=>?_,by rw [Yu.1];exact hts,by rw [Yu.2];exact hdf,by omega,λk hk=>(g3 k (.inl (by omega))).trans (hfx k hk)⟩
       rw [g3 k (by omega)];refine ⟨(hnm k (by omega)).1,?_⟩;cases hh : zX (rc.eff ++ H) k with
       | none=>rfl
       | some e=>
         rcases g5 k e hh with h | ⟨e',h⟩
         . have:=h.2;omega
         . rw [(hnm k (by omega)).2] at h;cases h
     | false=>
       rw [hex] at hstep;obtain ⟨hv,he,hrd⟩:=hstep;rw [if_neg (by simp)];refine next _ _ ⟨r,by rw [he];exact st,?_,(λk hk=>by rw [he];exact hnm k (by omega)),by rw [Yu.1];exact hts,by rw [Yu.2];exact hdf,by omega,hfx⟩
       rw [he,hv];exact YW.put hf (by rw [hts];exact hokd) ⟨#[],rfl,rfl,λi x u h=>by cases h⟩
theorem region_ok (hwd : 0 < wd) (hT : qP P T) (hQ : zBI P Q) (hm : P.follows .mixedOrders = true) {id : Nat} {ops : Array Oper} {draw : Bool} {fr : Fr} {H : Hp} {nx : Nat} {K : Kt}
 (h : qR T Q wd nt np (.region id ops draw) fr H nx K) {a : Act} {w : World} (hs : Is cx nt np fx fr H nx a w) : (Code.region id ops draw).wp P (lift cx nt np fx K) a w:=by
 unfold qR at h;obtain ⟨rs,hg,hK⟩:=runR_good hwd hQ _ _ _ _ _ _ _ h;obtain ⟨hlen,_⟩:=Good.at _ _ _ _ _ hg;have hrev : ((YP rs).reverse ++ ([] : Log)).reverse = YP rs:=by simp
 rw [hrev] at hK;cases draw with
 | false=>
   simp only [Bool.not_false,Bool.true_or,cond_true] at hK;refine wp_region ?_;have:=zF6 (cx:=cx) (R:=lift cx nt np fx K) hT hwd ops.toList rs 0 fr H nx hg (λj=>by rw [Nat.zero_add]) (λa w hs=>⟨_,_,_,hK,hs⟩) a w hs;simpa [List.range_eq_range'] using this
 | true=>
   simp only [Bool.not_true,Bool.false_or] at hK;have hrep : ∀ i,(Array.replicate ops.size false).getD i false = false:=λi=>by
    rcases Nat.lt_or_ge i ops.size with h | h<;>simp [h]
   have h2 : ∀ {α : Type} (es : List (List (Nat × α))) (k : Nat) (x : List (Nat × α)),qT (λ_=>false) es k x = x:=by
    intro α es;induction es with
    | nil=>intro k x;rfl
    | cons e es ih=>intro k x;rw [qT];exact ih _ _
   have hu : ∀ n,unl (List.replicate n false) = n:=by
    intro n;induction n with
    | zero=>rfl
    | succ n ih=>simp only [List.replicate_succ,unl,cond_false];omega
   cases hokA : zEn ops.toList (YP rs) with
   | false=>
     rw [hokA,cond_false] at hK;unfold litK at hK;split at hK
     . rename_i L hL;cases hlo : zEU T ops.toList L (qT (λ_=>true) (qS ops.toList rs) 0 fr) (YP rs) nx with
       | false=>rw [hlo] at hK;exact hK.elim
       | true=>
         rw [hlo,cond_true] at hK;obtain ⟨r,st,hf,hnm,hts,hdf,hnp,hfx⟩:=hs;obtain ⟨g1,g2⟩:=st.drew (w.drawn + 1);refine wp_region_any hm ?_;have e1 : qT (λi=>(Array.replicate ops.size false).getD i false) (qS ops.toList rs) 0 fr = qT (λ_=>false) (qS ops.toList rs) 0 fr:=by simp only [hrep]
         have e2 : HLs T ops.toList L (qT (λ_=>true) (qS ops.toList rs) 0 fr) nx H ((Array.replicate ops.size false).getD 0 false) [] = H:=by rw [hrep];rfl
         have:=lit_order (P:=P) (cx:=cx) (d0:=[]) hT hwd hg hL hlo (fx:=r) (Q:=lift cx nt np fx K) (λa w r' h1 h3 h4 h5 h6 h7=>⟨_,_,_,hK,r',h1,h3,h4,h5,h6,by omega,λk hk=>(h7 k (by omega)).trans (hfx k hk)⟩) ops.size (Array.replicate ops.size false) [] a { w with drawn:=w.drawn + 1 } r
          (by simp [hu]) ⟨by simp,(λi o _ h=>by rw [hrep] at h;cases h),by rw [e2];exact g2,by rw [e1,e2,h2];exact hf.ext g1,(λk hk _=>by rw [e2];exact hnm k hk),hts,hdf,(λ_ _=>rfl),(λh=>by rw [hrep] at h;cases h),List.nodup_nil,λi=>by simp [hrep]⟩
         simpa using this
     . exact hK.elim
   | true=>
     rw [hokA,cond_true] at hK;have hok : regOk ops.toList (YP rs) = true:=hokA;obtain ⟨r,st,hf,hnm,hts,hdf,hnp,hfx⟩:=hs;obtain ⟨g1,g2⟩:=st.drew (w.drawn + 1);refine wp_region_any hm ?_;have e1 : qT (λi=>(Array.replicate ops.size false).getD i false) (qS ops.toList rs) 0 fr = qT (λ_=>false) (qS ops.toList rs) 0 fr:=by simp only [hrep]
     have e2 : qT (λi=>(Array.replicate ops.size false).getD i false) (QT rs) 0 H = qT (λ_=>false) (QT rs) 0 H:=by simp only [hrep]
     have:=any_order (P:=P) (cx:=cx) (d0:=[]) hT hwd hg hok (fx:=r) (Q:=lift cx nt np fx K) (λa w r' h1 h3 h4 h5 h6 h7=>⟨_,_,_,hK,r',h1,h3,h4,h5,h6,by omega,λk hk=>(h7 k (by omega)).trans (hfx k hk)⟩) ops.size (Array.replicate ops.size false) a { w with drawn:=w.drawn + 1 } r
      (by simp [hu]) ⟨by simp,(λi o _ h=>by rw [hrep] at h;cases h),by rw [e2,h2];exact g2,by rw [e1,e2,h2,h2];exact hf.ext g1,(λk hk _=>by rw [e2,h2];exact hnm k hk),hts,hdf,λ_ _=>rfl⟩
     simpa using this
theorem exec_ok (hwd : 0 < wd) (hT : qP P T) (hQ : zBI P Q) (hm : P.follows .mixedOrders = true) (hpin : ∀ k b,cx.pin k = some b -> k < np) : ∀ (c : Code) (fr : Fr) (H : Hp) (nx : Nat) (K : Kt),qR T Q wd nt np c fr H nx K -> ∀ a w,Is cx nt np fx fr H nx a w -> c.wp P (lift cx nt np fx K) a w:=by
 intro c;induction c with
 | skip=>intro fr H nx K h a w hs;exact wp_skip ⟨_,_,_,h,hs⟩
 | region id ops draw=>intro fr H nx K h a w hs;exact region_ok hwd hT hQ hm h hs
 | seq x y ihx ihy=>
   intro fr H nx K h a w hs;refine wp_seq (wp_mono (ihx _ _ _ _ h a w hs) λe a' w' hq=>?_);obtain ⟨fr',H',nx',hk,hs'⟩:=hq;cases e<;>first | exact ⟨fr',H',nx',hk,hs'⟩ | exact ihy _ _ _ _ hk a' w' hs'
 | cond c x y ihx ihy=>
   intro fr H nx K h a w hs;unfold qR at h;split at h
   . rename_i t hev;have hs':=hs;obtain ⟨r,st,hf,_⟩:=hs;have hc:=ev_ok st hf c;rw [hev] at hc;have hc' : a.eval c = .bool t:=hc;cases t with
     | true=>exact wp_cond_true hc' (ihx _ _ _ _ (h.1 rfl) a w hs')
     | false=>exact wp_cond_false hc' (ihy _ _ _ _ (h.2 rfl) a w hs')
   . exact h.elim
 | block id c ih=>
   intro fr H nx K h a w hs;refine wp_block (wp_mono (ih _ _ _ _ h a w hs) λe a' w' hq=>?_);obtain ⟨fr',H',nx',hk,hs'⟩:=hq;cases e with
   | exit id'=>
     simp only [blkK] at hk;show (if id' = id then _ else _);by_cases hid : id' = id
     . rw [if_pos hid];subst hid;rw [show Nat.beq id' id' = true by simp,cond_true] at hk;exact ⟨_,_,_,hk,hs'⟩
     . rw [if_neg hid];have : Nat.beq id' id = false:=by
        cases hb : Nat.beq id' id with
        | false=>rfl
        | true=>exact absurd (Nat.eq_of_beq_eq_true hb) hid
       rw [this,cond_false] at hk;exact ⟨_,_,_,hk,hs'⟩
   | normal=>exact ⟨_,_,_,hk,hs'⟩
   | goto l=>exact ⟨_,_,_,hk,hs'⟩
   | ret=>exact ⟨_,_,_,hk,hs'⟩
   | panic ch=>exact ⟨_,_,_,hk,hs'⟩
   | outgrown=>exact ⟨_,_,_,hk,hs'⟩
 | loop c ih=>
   intro fr H nx K h a w hs;obtain ⟨n,hn⟩:=h;refine wp_loop_rounds n ?_;induction n generalizing fr H nx a w with
   | zero=>exact hn.elim
   | succ n ihn=>
     obtain ⟨fr',H',rho,nx',h0,hrho,h1,h2,h3⟩:=hn;obtain ⟨r,st,hf,hnm,hts,hdf,hnp,hfx⟩:=hs;obtain ⟨g1,g2,g3,g4⟩:=weaken (c:=⟨H,H',rho,nx',false⟩) st hf hpin h0 hrho rfl h1 h2;refine wp_mono (ih _ _ _ _ h3 a w ⟨_,g1,g2,g3,hts,hdf,Nat.le_of_ble_eq_true h0,λk hk=>(g4 k hk).trans (hfx k hk)⟩) λe a' w' hq=>?_;obtain ⟨fr2,H2,nx2,hk,hs'⟩:=hq;cases e<;>first | exact ⟨fr2,H2,nx2,hk,hs'⟩ | exact ihn _ _ _ _ _ hs' hk
 | exit id=>intro fr H nx K h a w hs;exact wp_exit ⟨_,_,_,h,hs⟩
 | ret=>intro fr H nx K h a w hs;exact wp_ret ⟨_,_,_,h,hs⟩
 | label l=>intro fr H nx K h a w hs;exact wp_label ⟨_,_,_,h,hs⟩
 | rangeFunc=>intro fr H nx K h a w hs;exact h.elim
 | scope=>intro fr H nx K h a w hs;exact h.elim
 | goto=>intro fr H nx K h a w hs;exact h.elim
 | refuse=>intro fr H nx K h a w hs;exact h.elim
def resE (T : YU) (fr : Fr) (H : Hp) : ResultVar -> Option EV
 | .tmp t=>match QH fr t with
   | .e x=>some x
   | _=>none
 | .cell a t=>
   match T t,QH fr a with
   | some ti,.e (.c (.ptr k i j _))=>
     match zX H k with
     | some ⟨_,en,es,_,ef⟩=>bif Nat.ble (j + ti.size) es && Nat.blt j es && Nat.blt i en then
       match zBx ti (es - j) (λq=>ef i (j + q)) false none [] with
       | some ⟨_,.e x,_,_⟩=>some x
       | _=>none
       else none
     | none=>none
   | _,_=>none
def resL (T : YU) (fr : Fr) (H : Hp) : List ResultVar -> Option (List EV)
 | []=>some []
 | x :: xs=>match resE T fr H x,resL T fr H xs with
   | some y,some ys=>some (y :: ys)
   | _,_=>none
def asF : List EV -> FV
 | [x]=>.e x
 | l=>.tup l
def resS (tmps : Array Value) : ResultVar -> Sem Value
 | .tmp t=>pure (tmps.getD t undef)
 | .cell a t=>do loadVar t (<- asAddr (tmps.getD a undef))
theorem zF7 (fn : Func) (tmps : Array Value) : results fn tmps = (do let vs <- fn.results.mapM (resS tmps);pure (if h : vs.size = 1 then vs[0] else .tuple vs)):=by
 have : (fun | .tmp t=>pure (tmps.getD t undef) | .cell a t=>(do loadVar t (<- asAddr (tmps.getD a undef))) : ResultVar -> Sem Value) = resS tmps:=by
  funext x;cases x<;>rfl
 rw [<- this];rfl
theorem loadF_pre {ti : TI} {m : Nat} {g : Nat -> CV} {rd : List Nat} {sr : SR} (h : zBx ti m g false none rd = some sr) (h1 : ti.size <= m) (h2 : 0 < m) : Qh sr.pre:=by
 unfold zBx at h;split at h
 . injection h with h;subst h;exact h1
 . injection h with h;subst h;exact h1
 . rw [CV.see_eq] at h;injection h with h;subst h;exact h2
theorem resE_ok (hT : qP P T) {r : QK} {H : Hp} {w : World} {fr : Fr} {tmps : Array Value} (st : St cx r H w) (hf : YW cx r H w fr tmps) {x : ResultVar} {y : EV} (h : resE T fr H x = some y) :
 ∃ v,(resS tmps x).run P w = .ok v w /\ y.rel r cx.X (wr r H) w v:=by
 cases x with
 | tmp t=>
   simp only [resE] at h;split at h
   . rename_i z hz;injection h with h;subst h;have:=hf t;rw [hz] at this;exact ⟨_,rfl,this⟩
   . cases h
 | cell a t=>
   simp only [resE] at h;split at h
   . rename_i ti k i j sym ht ha;split at h
     . rename_i et en es v ef he;cases hb : (Nat.ble (j + ti.size) es && Nat.blt j es && Nat.blt i en) with
       | false=>rw [hb] at h;cases h
       | true=>
         rw [hb,cond_true] at h;simp only [Bool.and_eq_true] at hb;have b1:=Nat.le_of_ble_eq_true hb.1.1;have b2 : j < es:=Nat.le_of_ble_eq_true hb.1.2;have b3 : i < en:=Nat.le_of_ble_eq_true hb.2;split at h
         . rename_i p z eff rd hl;injection h with h;subst h;have hav:=hf a;rw [ha] at hav;obtain ⟨b,hbn,hv⟩:=hav;obtain ⟨v,g1,g2,g3⟩:=load_ok (P:=P) (b:=b.b) (off:=i * b.sz + j) (hT t ti ht) hl (loadF_pre hl (by omega) (by omega)) (λ_ q hq=>by
            obtain ⟨u,hu,hr⟩:=YK st he hbn (i:=i) (j:=j + q) b3 (show j + q < es by omega);exact ⟨u,by rw [Nat.add_assoc];exact hu,hr⟩)
           refine ⟨v,?_,g3⟩;simp only [resS,Sem.run_bind,hv,asAddr,Sem.run_pure,Result.andThen_ok,g1]
         . cases h
     . cases h
   . cases h
theorem resL_ok (hT : qP P T) {r : QK} {H : Hp} {w : World} {fr : Fr} {tmps : Array Value} (st : St cx r H w) (hf : YW cx r H w fr tmps) : ∀ (rv : List ResultVar) (l : List EV),resL T fr H rv = some l ->
 ∃ vs : List Value,(rv.mapM (resS tmps)).run P w = .ok vs w /\ vs.length = l.length /\ ∀ (i : Nat) x u,l[i]? = some x -> vs[i]? = some u -> x.rel r cx.X (wr r H) w u:=by
 intro rv;induction rv with
 | nil=>
   intro l h;simp only [resL,Option.some.injEq] at h;subst h;exact ⟨[],rfl,rfl,λi x u h=>by cases i<;>cases h⟩
 | cons x xs ih=>
   intro l h;simp only [resL] at h;split at h
   . rename_i y ys h1 h2;injection h with h;subst h;obtain ⟨v,g1,g2⟩:=resE_ok hT st hf h1;obtain ⟨vs,g3,g4,g5⟩:=ih ys h2;refine ⟨v :: vs,?_,by simp [g4],λi z u hz hu=>?_⟩
     . rw [List.mapM_cons];simp only [Sem.run_bind,g1,g3,Result.andThen_ok,Sem.run_pure]
     . cases i with
       | zero=>simp only [List.getElem?_cons_zero,Option.some.injEq] at hz hu;subst hz hu;exact g2
       | succ i=>exact g5 i z u (by simpa using hz) (by simpa using hu)
   . cases h
theorem zDZ (hT : qP P T) {r : QK} {H : Hp} {w : World} {fr : Fr} {tmps : Array Value} (st : St cx r H w) (hf : YW cx r H w fr tmps) {fn : Func} {l : List EV} (h : resL T fr H fn.results.toList = some l) :
 ∃ v,(results fn tmps).run P w = .ok v w /\ (asF l).rel r cx.X (wr r H) w v:=by
 obtain ⟨vs,h1,h2,h3⟩:=resL_ok hT st hf _ _ h;have hm : (fn.results.mapM (resS tmps)).run P w = .ok vs.toArray w:=by
  rw [Array.mapM_eq_mapM_toList,Sem.run_map,h1];rfl
 rw [zF7,Sem.run_bind,hm,Result.andThen_ok,Sem.run_pure];refine ⟨_,rfl,?_⟩;match l,vs,h2 with
 | [x],[v],_=>exact h3 0 x v rfl rfl
 | [],[],_=>exact ⟨#[],rfl,rfl,λi x u h=>by cases i<;>cases h⟩
 | x :: y :: l,v :: u :: vs,h2=>
   rw [dif_neg (by simp)];exact ⟨_,rfl,by simpa using h2,λi z q hz hq=>h3 i z q hz (by simpa using hq)⟩
def Yn : List FV -> Nat -> Fr
 | [],_=>[]
 | x :: xs,i=>(i,x) :: Yn xs (i + 1)
theorem zED : ∀ (args : List FV) (i t : Nat),QH (Yn args i) t = if i <= t then (args[t - i]?).getD .top else .top:=by
 intro args;induction args with
 | nil=>intro i t;simp [Yn,QH,qu]
 | cons x xs ih=>
   intro i t;by_cases h : t = i
   . subst h;have : QH (Yn (x :: xs) t) t = x:=zn _ _ _ _;rw [this];simp
   . have : QH (Yn (x :: xs) i) t = QH (Yn xs (i + 1)) t:=zZ _ _ _ h;rw [this,ih];by_cases h2 : i + 1 <= t
     . rw [if_pos h2,if_pos (by omega),show t - i = (t - (i + 1)) + 1 by omega];simp
     . rw [if_neg h2,if_neg (by omega)]
def qQ (T : YU) (rv : List ResultVar) (post : FV -> Hp -> Nat -> Prop) : Kt
 | .ret,fr,H,nx=>match resL T fr H rv with
   | some l=>post (asF l) H nx
   | none=>False
 | .normal,fr,H,nx=>match resL T fr H rv with
   | some l=>post (asF l) H nx
   | none=>False
 | _,_,_,_=>False
theorem zDa (hwd : 0 < wd) (hT : qP P T) (hQ : zBI P Q) (hm : P.follows .mixedOrders = true) {f : FuncId} {fn : Func} {c : Code} (hf : P.funcs[f]? = some fn) (hb : fn.body = some c) {args : List FV} (hn : args.length <= fn.ntmps) {H0 : Hp} {post : FV -> Hp -> Nat -> Prop}
 (h : qR T Q wd fn.ntmps np c (Yn args 0) H0 np (qQ T fn.results.toList post)) (hpin : ∀ k b,cx.pin k = some b -> k < np) {r : QK} {w : World} {vals : Array Value} (st : St cx r H0 w) (hrel : zAe r cx.X (wr r H0) w args vals) (hnm : ∀ k,np <= k -> r k = none /\ zX H0 k = none) :
 Calls P f vals w λe w'=>∃ v r' x Hf nf,e = .returned v /\ post x Hf nf /\ St cx r' Hf w' /\ (∀ k,nf <= k -> r' k = none /\ zX Hf k = none) /\ x.rel r' cx.X (wr r' Hf) w' v /\ ∀ k,k < np -> r' k = r k:=by
 refine calls_of_wp hf hb ?_;have hsz : vals.size = args.length:=hrel.1;have fr0 : YW cx r H0 w (Yn args 0) (vals ++ Array.replicate (fn.ntmps - vals.size) undef):=by
  intro t;rw [zED,if_pos (Nat.zero_le _),Nat.sub_zero];cases hx : args[t]? with
  | none=>trivial
  | some x=>
    have hlt : t < vals.size:=by rw [hsz];exact (List.getElem?_eq_some_iff.1 hx).1
    have hv : vals[t]? = some vals[t]:=Array.getElem?_eq_getElem hlt;have e1 : (vals ++ Array.replicate (fn.ntmps - vals.size) undef).getD t undef = vals[t]:=by
     rw [Array.getD_eq_getD_getElem?,Array.getElem?_append_left hlt,hv];rfl
    rw [e1];exact hrel.2 t x _ hx hv
 refine wp_mono (exec_ok (fx:=r) hwd hT hQ hm hpin c _ _ _ _ h _ w ⟨_,st,fr0,hnm,by simp;omega,rfl,Nat.le_refl _,λ_ _=>rfl⟩) λe a' w' hq=>?_;obtain ⟨fr,H,nx,hk,r',st',hfr,hnm',_,hdf,_,hfx'⟩:=hq;have main : ∀ l,resL T fr H fn.results.toList = some l -> post (asF l) H nx -> a'.defers = [] /\ ∃ v,(results fn a'.tmps).run P w' = .ok v w' /\ ∃ u r' x Hf nf,Ending.returned v = .returned u /\ post x Hf nf /\ St cx r' Hf w' /\ (∀ k,nf <= k -> r' k = none /\ zX Hf k = none) /\ x.rel r' cx.X (wr r' Hf) w' u /\ ∀ k,k < np -> r' k = r k:=by
  intro l hl hp;obtain ⟨v,g1,g2⟩:=zDZ hT st' hfr hl;exact ⟨hdf,v,g1,v,r',_,H,nx,rfl,hp,st',hnm',g2,hfx'⟩
 cases e with
 | ret=>
   simp only [qQ] at hk;split at hk
   . rename_i l hl;exact main l hl hk
   . exact hk.elim
 | normal=>
   simp only [qQ] at hk;split at hk
   . rename_i l hl;exact main l hl hk
   . exact hk.elim
 | exit=>exact hk.elim
 | goto=>exact hk.elim
 | panic=>exact hk.elim
 | outgrown=>exact hk.elim
end
end Go.Proofs.Ytfaibcgakcmhcaa.AX
namespace Go.Proofs.Ytfaibcgakcmhcaa.AX
section
variable {c : Wc}
theorem wr_sub (hl : c.Live) {cx : Cx} {r : QK} {b : Nat} (h : AX.wr (c.ren r) c.H' b) : AX.wr r c.H b:=by
 obtain ⟨k,e',x,he,hx,rfl⟩:=h;unfold Wc.ren at hx;split at hx
 . rename_i k0 hk0;obtain ⟨e,hh⟩:=hl k e' he k0 hk0;exact ⟨k0,e,x,hh,hx,rfl⟩
 . cases hx
theorem zC {k : IntKind} {a b : Int} (h : a = b) : Zu c (.int k a) (.int k b):=λ_ cx r w v _ hv=>by subst h;exact hv
theorem zW {a b : Bool} (h : a = b) : Zu c (.bool a) (.bool b):=λ_ cx r w v _ hv=>by subst h;exact hv
theorem zq : Zu c .nils .nils:=λ_ cx r w v _ hv=>hv
theorem zDJ {x : CV} : Zu c x .top:=λ_ cx r w v _ hv=>Yr hv
theorem ren_src {r : QK} {k k' : Nat} (h : c.src k' = some k) : c.ren r k' = r k:=by unfold Wc.ren;rw [h]
theorem leC_ptr {k k' i j : Nat} {s s' : Bool} (h : c.src k' = some k) : Zu c (.ptr k i j s) (.ptr k' i j s'):=λ_ cx r w v _ ⟨b,hb,hv⟩=>⟨b,⟨by rw [ren_src h];exact hb.1,hb.2⟩,hv⟩
theorem zH {k k' i n n' : Nat} (h : c.src k' = some k) (hn : n = n') : Zu c (.os k i n) (.os k' i n'):=by
 subst hn;rintro _ cx r w v _ ⟨a,cap,rfl,h1,h2⟩;refine ⟨a,cap,rfl,h1,λh0=>?_⟩;obtain ⟨x,hx,h3⟩:=h2 h0;exact ⟨x,⟨by rw [ren_src h];exact hx.1,hx.2⟩,h3⟩
theorem Zh {k' n : Nat} (hn : n = 0) : Zu c .nils (.os k' 0 n):=by
 subst hn;intro _ cx r w v _ hv;have : v = .slice none 0 0:=hv;subst this;exact ⟨none,0,rfl,Nat.le_refl _,λh=>absurd h (Nat.lt_irrefl _)⟩
theorem qi {sh : Bool} {n sz : Nat} {f : Nat -> Nat -> CV} (hn : n = 0) : Zu c .nils (.sl sh n sz f):=by
 subst hn;intro _ cx r w v _ hv;have : v = .slice none 0 0:=hv;subst this;exact ⟨none,0,rfl,Nat.le_refl _,λh=>absurd h (Nat.lt_irrefl _)⟩
theorem Yo {sh sh' : Bool} {n n' sz sz' : Nat} {f g : Nat -> Nat -> CV} (hs : (sh' || c.fin) = true -> sh = true) (hn : n = n') (hz : sz = sz') (h : ∀ i,i < n -> ∀ j,j < sz -> Zu c (f i j) (g i j)) : Zu c (.sl sh n sz f) (.sl sh' n' sz' g):=by
 subst hn hz;rintro hl cx r w v st ⟨a,cap,rfl,h1,h3⟩;refine ⟨a,cap,rfl,h1,λh0=>?_⟩;obtain ⟨ad,rfl,hsp,ho,hX,hlt,hc⟩:=h3 h0;refine ⟨ad,rfl,hsp,?_,λh=>hX (hs (by rw [h];rfl)),hlt,λi hi j hj=>?_⟩
 . rintro (hw | ⟨hf,hx⟩)
   . exact ho (wr_sub (cx:=cx) hl hw)
   . exact hX (hs (by rw [hf];simp)) hx
 . obtain ⟨u,hu,hr⟩:=hc i hi j hj;exact ⟨u,hu,h i hi j hj hl cx r w u st hr⟩
def Wc.dead (c : Wc) (k : Nat) : Bool:=!((zC9 c c.H').any (Nat.beq k))
theorem ZQ {sh : Bool} {k i n n' sz : Nat} {f : Nat -> Nat -> CV} {e : Ent} (he : zX c.H k = some e) (hd : c.dead k = true) (hz : e.sz = sz) (hn : n = n') (hle : i + n <= e.n) (h : ∀ q,q < n -> ∀ j,j < sz -> Zu c (e.f (i + q) j) (f q j)) : Zu c (.os k i n) (.sl sh n' sz f):=by
 subst hn hz;rintro hl cx r w v st ⟨a,cap,rfl,h1,h2⟩;refine ⟨a,cap,rfl,h1,λh0=>?_⟩;obtain ⟨x,⟨hx,hx0⟩,rfl,h4⟩:=h2 (by omega);obtain ⟨g1,g2,g3⟩:=st.blk k e he;rcases g3 with ⟨g3,_⟩ | ⟨y,cs,c1,c2,c3,c4,c5,c6⟩ | ⟨_,y,_,_,c1,c2,_⟩
 . rw [hx] at g3;cases g3
 . rw [hx] at c1;injection c1 with c1;subst c1;obtain ⟨d1,d2,d3⟩:=st.dom k x hx;refine ⟨⟨x.b,i * x.sz,none⟩,rfl,rfl,?_,λ_=>d3,d1,λq hq j hj=>?_⟩
   . rintro (⟨k',e',y,he',hy,hyb⟩ | ⟨_,hX⟩)
     . unfold Wc.ren at hy;split at hy
       . rename_i k0 hk0;obtain ⟨e0,hh⟩:=hl k' e' he' k0 hk0;have:=st.inj k0 k e0 e y x hh he hy hx hyb;subst this;have hm:=zFI hk0 he';have : (zC9 c c.H').any (Nat.beq k0) = true:=List.any_eq_true.2 ⟨k0,hm,by simp⟩;unfold Wc.dead at hd;rw [this] at hd;cases hd
       . cases hy
     . exact d3 hX
   . have hlt : (i + q) * e.sz + j < cs.size:=by
      rw [c4,c2];exact zEx (show i + q < e.n by omega) hj c5
     refine ⟨cs[(i + q) * e.sz + j],?_,h q hq j hj hl cx r w _ st (c6 (i + q) (by omega) j hj _ (Array.getElem?_eq_getElem hlt))⟩;have e1 : i * x.sz + (q * e.sz + j) = (i + q) * e.sz + j:=by rw [c2,Nat.add_mul];omega
     show w.cell? ⟨x.b,i * x.sz + (q * e.sz + j),none⟩ = _;rw [e1];simp [World.cell?,c3,Array.getElem?_eq_getElem hlt]
 . rw [hx] at c1;injection c1 with c1;subst c1;omega
theorem leE_c {x y : CV} (h : Zu c x y) : LeE c (.c x) (.c y):=h
theorem zEl {n m : Nat} {f g : Nat -> CV} (hn : n = m) (h : ∀ i,i < n -> Zu c (f i) (g i)) : LeE c (.agg n f) (.agg m g):=by
 subst hn;rintro hl cx r w v st ⟨cs,rfl,hs,hc⟩;exact ⟨cs,rfl,hs,λi u hu=>h i (by rw [<- hs];exact (Array.getElem?_eq_some_iff.1 hu).1) hl cx r w u st (hc i u hu)⟩
theorem QJ {x y : EV} (h : LeE c x y) : LeF c (.e x) (.e y):=h
theorem zD {x y : CV} (h : Zu c x y) : LeF c (.e (.c x)) (.e (.c y)):=h
theorem zB {k : IntKind} {a b : Int} (h : a = b) : LeF c (.e (.c (.int k a))) (.e (.c (.int k b))):=zC (c:=c) h
theorem zG {a b : Bool} (h : a = b) : LeF c (.e (.c (.bool a))) (.e (.c (.bool b))):=zW (c:=c) h
theorem zF {k k' i j : Nat} {s s' : Bool} (h : c.src k' = some k) : LeF c (.e (.c (.ptr k i j s))) (.e (.c (.ptr k' i j s'))):=leC_ptr (c:=c) (s:=s) (s':=s') h
def LeL (c : Wc) : List EV -> List EV -> Prop
 | [],[]=>True
 | x :: l,y :: l'=>LeE c x y /\ LeL c l l'
 | _,_=>False
theorem LeL.at : ∀ {l l' : List EV},LeL c l l' -> l.length = l'.length /\ ∀ (i : Nat) x y,l[i]? = some x -> l'[i]? = some y -> LeE c x y:=by
 intro l;induction l with
 | nil=>
   intro l' h;cases l' with
   | nil=>exact ⟨rfl,λi x y h=>by cases i<;>cases h⟩
   | cons=>exact h.elim
 | cons x l ih=>
   intro l' h;cases l' with
   | nil=>exact h.elim
   | cons y l'=>
     obtain ⟨h1,h2⟩:=h;obtain ⟨h3,h4⟩:=ih h2;refine ⟨by simp [h3],λi a b ha hb=>?_⟩;cases i with
     | zero=>simp only [List.getElem?_cons_zero,Option.some.injEq] at ha hb;subst ha hb;exact h1
     | succ i=>exact h4 i a b (by simpa using ha) (by simpa using hb)
theorem ZZ {l l' : List EV} (h : LeL c l l') : LeF c (.tup l) (.tup l'):=by
 obtain ⟨h1,h2⟩:=h.at
 rintro hl cx r w v st ⟨vs,rfl,hs,hc⟩;refine ⟨vs,rfl,by rw [hs,h1],λi y u hy hu=>?_⟩;have hi : i < l.length:=by rw [h1];exact (List.getElem?_eq_some_iff.1 hy).1
 exact h2 i _ y (List.getElem?_eq_getElem hi) hy hl cx r w u st (hc i _ u (List.getElem?_eq_getElem hi) hu)
def zCz : Nat -> (Nat -> Prop) -> Prop
 | 0,_=>True
 | n + 1,p=>zCz n p /\ p n
theorem zDX {p : Nat -> Prop} : ∀ {n : Nat},zCz n p -> ∀ i,i < n -> p i:=by
 intro n;induction n with
 | zero=>intro _ i h;omega
 | succ n ih=>
   intro h i hi;by_cases he : i = n
   . subst he;exact h.2
   . exact ih h.1 i (by omega)
theorem Zo {n : Nat} {f g : Nat -> CV} (h : zCz n λi=>Zu c (f i) (g i)) : LeE c (.agg n f) (.agg n g):=zEl rfl (zDX h)
theorem zA3 {t : TypeId} {sz : Nat} {f g : Nat -> Nat -> CV} (h : zCz sz λj=>Zu c (f 0 j) (g 0 j)) : LeN c ⟨t,1,sz,true,f⟩ ⟨t,1,sz,true,g⟩:=
 ⟨rfl,rfl,rfl,rfl,λi hi j hj=>by have h1 : i < 1:=hi;have : i = 0:=by omega
                                 subst this;exact zDX h j hj⟩
theorem zE {t : TypeId} {sz : Nat} {f g : Nat -> Nat -> CV} (h : ∀ j,j < sz -> Zu c (f 0 j) (g 0 j)) : LeN c ⟨t,1,sz,true,f⟩ ⟨t,1,sz,true,g⟩:=
 ⟨rfl,rfl,rfl,rfl,λi hi j hj=>by have h1 : i < 1:=hi;have : i = 0:=by omega
                                 subst this;exact h j hj⟩
theorem zEm {t : TypeId} {n n' sz : Nat} {f g : Nat -> Nat -> CV} (hn : n = n') (h : ∀ i,i < n -> ∀ j,j < sz -> Zu c (f i j) (g i j)) : LeN c ⟨t,n,sz,false,f⟩ ⟨t,n',sz,false,g⟩:=⟨rfl,hn,rfl,rfl,h⟩
def Cl (x : CV) : Prop:=∀ c : Wc,c.fin = false -> Zu c x x
theorem cl_sl {sh : Bool} {n sz : Nat} {f : Nat -> Nat -> CV} (h : ∀ i,i < n -> ∀ j,j < sz -> Cl (f i j)) : Cl (.sl sh n sz f):=λc hc=>Yo (by rw [hc];cases sh<;>simp) rfl rfl λi hi j hj=>h i hi j hj c hc
theorem zM {H H' : Hp} {rho : List (Nat × Option Nat)} {nx : Nat} {x : CV} (h : Cl x) : LeF ⟨H,H',rho,nx,false⟩ (.e (.c x)) (.e (.c x)):=h _ rfl
theorem zJ {H H' : Hp} {rho : List (Nat × Option Nat)} {nx : Nat} {x : CV} (h : Cl x) : Zu ⟨H,H',rho,nx,false⟩ x x:=h _ rfl
end
theorem CV.rel_into {X' Y X W : Nat -> Prop} {r : QK} {w : World} (hX : ∀ b,X b -> Y b) (hW : ∀ b,W b -> Y b) : ∀ (x : CV) (v : Value),x.rel (λ_=>none) X' Y w v -> x.rel r X W w v:=by
 intro x;induction x with
 | top=>intro v h;exact h
 | int=>intro v h;exact h
 | bool=>intro v h;exact h
 | ptr nm i j s=>rintro v ⟨x,hx,_⟩;cases hx.1
 | mp nm=>rintro v ⟨x,hx,_⟩;cases hx
 | nilp=>intro v h;exact h
 | nils=>intro v h;exact h
 | sl sh n sz f ih=>
   rintro v ⟨a,cap,rfl,h1,h2⟩;refine ⟨a,cap,rfl,h1,λh0=>?_⟩;obtain ⟨ad,rfl,hs,ho,_,hlt,hc⟩:=h2 h0;refine ⟨ad,rfl,hs,λh=>ho (hW _ h),λ_ h=>ho (hX _ h),hlt,λi hi j hj=>?_⟩;obtain ⟨u,hu,hr⟩:=hc i hi j hj;exact ⟨u,hu,ih i j u hr⟩
 | rp sh m g ih=>
   rintro v ⟨ad,rfl,hs,ho,_,hlt,hc⟩;refine ⟨ad,rfl,hs,λh=>ho (hW _ h),λ_ h=>ho (hX _ h),hlt,λj hj=>?_⟩;obtain ⟨u,hu,hr⟩:=hc j hj;exact ⟨u,hu,ih j u hr⟩
 | os nm i n=>
   rintro v ⟨a,cap,rfl,h1,h2⟩;refine ⟨a,cap,rfl,h1,λh0=>?_⟩;obtain ⟨x,hx,_⟩:=h2 h0;cases hx.1
 | oa nm i j n es=>
   rintro v ⟨a,cap,rfl,h1,h2⟩;refine ⟨a,cap,rfl,h1,λh0=>?_⟩;obtain ⟨x,hx,_⟩:=h2 h0;cases hx.1
 | fn f n m a ih=>
   rintro v ⟨fs,cs,rfl,h1,h2,h3,h4⟩;exact ⟨fs,cs,rfl,h1,h2,λk u hu=>ih k u (h3 k u hu),λk u hu=>ih _ u (h4 k u hu)⟩
theorem EV.rel_into {X' Y X W : Nat -> Prop} {r : QK} {w : World} (hX : ∀ b,X b -> Y b) (hW : ∀ b,W b -> Y b) : ∀ (x : EV) (v : Value),x.rel (λ_=>none) X' Y w v -> x.rel r X W w v:=by
 intro x v;cases x with
 | c x=>exact CV.rel_into hX hW x v
 | agg n f=>rintro ⟨cs,rfl,hs,hc⟩;exact ⟨cs,rfl,hs,λi u hu=>CV.rel_into hX hW _ _ (hc i u hu)⟩
theorem FV.rel_into {X' Y X W : Nat -> Prop} {r : QK} {w : World} (hX : ∀ b,X b -> Y b) (hW : ∀ b,W b -> Y b) : ∀ (x : FV) (v : Value),x.rel (λ_=>none) X' Y w v -> x.rel r X W w v:=by
 intro x v;cases x with
 | top=>exact λ_=>trivial
 | e x=>exact EV.rel_into hX hW x v
 | tup l=>rintro ⟨vs,rfl,hs,hc⟩;exact ⟨vs,rfl,hs,λi x u hx hu=>EV.rel_into hX hW _ _ (hc i x u hx hu)⟩
theorem runR_mono {T : YU} {Q : Qs} (hM : zCe Q) {wd nt : Nat} {all : List Oper} {K K' : Fr -> Hp -> Nat -> Log -> Prop} (hK : ∀ fr H nx log,K fr H nx log -> K' fr H nx log) : ∀ (os : List Oper) (i : Nat) (fr : Fr) (H : Hp) (nx : Nat) (log : Log),
 Yw T Q wd nt all os i fr H nx log K -> Yw T Q wd nt all os i fr H nx log K':=by
 intro os;induction os with
 | nil=>intro i fr H nx log h;exact hK _ _ _ _ h
 | cons o os ih=>
   intro i fr H nx log h;unfold Yw at h ⊢;cases hd : zEE nt o.dst with
   | false=>rw [hd] at h;exact h.elim
   | true=>
     rw [hd,cond_true] at h;rw [cond_true];split at h
     . split at h
       . split at h
         . exact hM _ _ _ _ _ _ ‹_› _ _ (λv e rd hh=>ih _ _ _ _ _ hh) h
         . exact h.elim
       . split at h
         . split at h
           . exact ih _ _ _ _ _ h
           . exact ⟨h.1,ih _ _ _ _ _ h.2⟩
           . exact ⟨λe=>ih _ _ _ _ _ (h.1 e),λe=>ih _ _ _ _ _ (h.2 e)⟩
           . exact ⟨h.1,λe=>ih _ _ _ _ _ (h.2.1 e),λe=>ih _ _ _ _ _ (h.2.2 e)⟩
           . exact h.elim
         . exact h.elim
     . exact ih _ _ _ _ _ h
     . exact h.elim
theorem zBn {n n' : Fr -> Hp -> Nat -> Prop} {K K' : Kt} (hn : ∀ fr H nx,n fr H nx -> n' fr H nx) (hK : ∀ e fr H nx,K e fr H nx -> K' e fr H nx) : ∀ e fr H nx,Yt n K e fr H nx -> Yt n' K' e fr H nx:=by
 intro e fr H nx h;cases e<;>first | exact hn _ _ _ h | exact hK _ _ _ _ h
theorem blkK_mono {id : Nat} {K K' : Kt} (hK : ∀ e fr H nx,K e fr H nx -> K' e fr H nx) : ∀ e fr H nx,blkK id K e fr H nx -> blkK id K' e fr H nx:=by
 intro e fr H nx h;cases e with
 | exit id'=>
   have h' : (bif Nat.beq id' id then K .normal fr H nx else K (.exit id') fr H nx):=h;show (bif Nat.beq id' id then K' .normal fr H nx else K' (.exit id') fr H nx);cases hb : Nat.beq id' id with
   | true=>rw [hb] at h';exact hK _ _ _ _ h'
   | false=>rw [hb] at h';exact hK _ _ _ _ h'
 | normal=>exact hK _ _ _ _ h
 | goto l=>exact hK _ _ _ _ h
 | ret=>exact hK _ _ _ _ h
 | panic c=>exact hK _ _ _ _ h
 | outgrown=>exact hK _ _ _ _ h
theorem iter_mono {np : Nat} {R : Fr -> Hp -> Nat -> Kt -> Prop} (hR : ∀ K K' : Kt,(∀ e fr H nx,K e fr H nx -> K' e fr H nx) -> ∀ fr H nx,R fr H nx K -> R fr H nx K') {K K' : Kt} (hK : ∀ e fr H nx,K e fr H nx -> K' e fr H nx) :
 ∀ n fr H nx,iter np R K n fr H nx -> iter np R K' n fr H nx:=by
 intro n;induction n with
 | zero=>intro fr H nx h;exact h
 | succ n ih=>
   intro fr H nx h;obtain ⟨fr',H',rho,nx',h0,hrho,h1,h2,h3⟩:=h;exact ⟨fr',H',rho,nx',h0,hrho,h1,h2,hR _ _ (zBn ih hK) _ _ _ h3⟩
theorem zBo {T : YU} {Q : Qs} (hM : zCe Q) {wd nt np : Nat} : ∀ (c : Code) (K K' : Kt),(∀ e fr H nx,K e fr H nx -> K' e fr H nx) -> ∀ fr H nx,qR T Q wd nt np c fr H nx K -> qR T Q wd nt np c fr H nx K':=by
 intro c;induction c with
 | skip=>intro K K' hK fr H nx h;exact hK _ _ _ _ h
 | region id ops draw=>
   intro K K' hK fr H nx0 h;unfold qR at h ⊢;refine runR_mono hM (λfr H nx log h=>?_) _ _ _ _ _ _ h;cases hb : (!draw || zEn ops.toList log.reverse) with
   | true=>rw [hb] at h;exact hK _ _ _ _ h
   | false=>
     rw [hb,cond_false] at h;show litK _ _ _ _ _ _ _ _;unfold litK at h ⊢;split at h
     . rename_i L hL;cases hlo : zEU T ops.toList L fr log.reverse nx0 with
       | true=>rw [hlo] at h;exact hK _ _ _ _ h
       | false=>rw [hlo] at h;exact h.elim
     . exact h.elim
 | seq a b iha ihb=>
   intro K K' hK fr H nx h;exact iha _ _ (zBn (λfr H nx h=>ihb _ _ hK _ _ _ h) hK) _ _ _ h
 | cond c a b iha ihb=>
   intro K K' hK fr H nx h;unfold qR at h ⊢;split at h
   . exact ⟨λe=>iha _ _ hK _ _ _ (h.1 e),λe=>ihb _ _ hK _ _ _ (h.2 e)⟩
   . exact h.elim
 | block id c ih=>intro K K' hK fr H nx h;exact ih _ _ (blkK_mono hK) _ _ _ h
 | loop c ih=>
   intro K K' hK fr H nx h;obtain ⟨n,hn⟩:=h;exact ⟨n,iter_mono (λK K' hk fr H nx h=>ih K K' hk fr H nx h) hK n _ _ _ hn⟩
 | exit id=>intro K K' hK fr H nx h;exact hK _ _ _ _ h
 | ret=>intro K K' hK fr H nx h;exact hK _ _ _ _ h
 | label l=>intro K K' hK fr H nx h;exact hK _ _ _ _ h
 | rangeFunc=>intro K K' hK fr H nx h;exact h.elim
 | scope=>intro K K' hK fr H nx h;exact h.elim
 | goto=>intro K K' hK fr H nx h;exact h.elim
 | refuse=>intro K K' hK fr H nx h;exact h.elim
structure Hd where
 fr : Fr
 H : Hp
 nx : Nat
def To {σ : Type} (S : σ -> Hd) (np : Nat) (fr : Fr) (H : Hp) (s : σ) (rho : List (Nat × Option Nat)) : Prop:=
 zEB np ⟨H,(S s).H,rho,(S s).nx,false⟩ = true /\ WkF ⟨H,(S s).H,rho,(S s).nx,false⟩ fr (S s).fr /\ WkH ⟨H,(S s).H,rho,(S s).nx,false⟩ (S s).H
def zA8 {σ : Type} (S : σ -> Hd) (μ : σ -> Nat) (np m : Nat) (fr : Fr) (H : Hp) : Prop:=∃ s rho,μ s < m /\ To S np fr H s rho
theorem zU {T : YU} {Q : Qs} (hM : zCe Q) {wd nt np : Nat} {c : Code} {K : Kt} {σ : Type} (S : σ -> Hd) (μ : σ -> Nat) (hnp : ∀ s,Nat.ble np (S s).nx = true)
 (hround : ∀ s,qR T Q wd nt np c (S s).fr (S s).H (S s).nx (Yt (λfr H _=>zA8 S μ np (μ s) fr H) K)) {fr : Fr} {H : Hp} {nx : Nat} (s0 : σ) (rho : List (Nat × Option Nat)) (h0 : To S np fr H s0 rho) :
 ∃ n,iter np (qR T Q wd nt np c) K n fr H nx:=by
 have key : ∀ m s rho fr H nx,μ s < m -> To S np fr H s rho -> iter np (qR T Q wd nt np c) K m fr H nx:=by
  intro m;induction m with
  | zero=>intro s rho fr H nx h;omega
  | succ m ih=>
    intro s rho fr H nx hm h1;refine ⟨(S s).fr,(S s).H,rho,(S s).nx,hnp s,h1.1,h1.2.1,h1.2.2,zBo hM c _ _ (zBn (λfr H nx h=>?_) (λ_ _ _ _ h=>h)) _ _ _ (hround s)⟩;obtain ⟨s',rho',h3,h4⟩:=h;exact ih s' rho' fr H nx (by omega) h4
 exact ⟨μ s0 + 1,key _ s0 rho _ _ _ (by omega) h0⟩
def QR (P : Program) : Qs:=λf args H nm wd=>some λK=>∃ v e rd,zC0 P f args H nm wd ⟨none,v,e,rd⟩ /\ K v e rd
theorem QR_ok (P : Program) : zBI P (QR P):=by
 intro f args H nm wd q _ h K hK;injection h with h;subst h;exact hK
theorem runR_det {P : Program} {T : YU} {Q : Qs} {wd nt : Nat} (hwd : 0 < wd) (hQ : zBI P Q) {all : List Oper} : ∀ (os : List Oper) (i : Nat) (fr : Fr) (H : Hp) (nx : Nat) (log : Log) (K : Fr -> Hp -> Nat -> Log -> Prop),Yw T Q wd nt all os i fr H nx log K ->
 ∃ fr' H' nx' log',K fr' H' nx' log' /\ ∀ K' : Fr -> Hp -> Nat -> Log -> Prop,K' fr' H' nx' log' -> Yw T (QR P) wd nt all os i fr H nx log K':=by
 intro os;induction os with
 | nil=>intro i fr H nx log K h;exact ⟨fr,H,nx,log,h,λK' h'=>h'⟩
 | cons o os ih=>
   intro i fr H nx log K h;unfold Yw at h;cases hd : zEE nt o.dst with
   | false=>rw [hd] at h;exact h.elim
   | true=>
     rw [hd,cond_true] at h;split at h
     . rename_i hw;split at h
       . rename_i f args hc;split at h
         . rename_i q hq hG;obtain ⟨v,e,rd,h1,h2⟩:=hQ _ _ _ _ _ _ hwd hq _ h;obtain ⟨a,b,c,d,hK,hr⟩:=ih _ _ _ _ _ _ h2;refine ⟨a,b,c,d,hK,λK' hK'=>?_⟩;unfold Yw;simp only [hd,cond_true,hw,hc,hG,QR];exact ⟨v,e,rd,h1,hr K' hK'⟩
         . exact h.elim
       . rename_i hc;split at h
         . rename_i pre val eff rd hs;split at h
           . rename_i hG;obtain ⟨a,b,c,d,hK,hr⟩:=ih _ _ _ _ _ _ h;refine ⟨a,b,c,d,hK,λK' hK'=>?_⟩;unfold Yw;simp only [hd,cond_true,hw,hs,hc,hG];exact hr K' hK'
           . rename_i hG;obtain ⟨a,b,c,d,hK,hr⟩:=ih _ _ _ _ _ _ h.2;refine ⟨a,b,c,d,hK,λK' hK'=>?_⟩;unfold Yw;simp only [hd,cond_true,hw,hs,hc,hG];exact ⟨h.1,hr K' hK'⟩
           . rename_i b hG;rcases Bool.eq_false_or_eq_true b with hb | hb
             . subst hb;obtain ⟨a,b,c,d,hK,hr⟩:=ih _ _ _ _ _ _ (h.1 rfl);refine ⟨a,b,c,d,hK,λK' hK'=>?_⟩;unfold Yw;simp only [hd,cond_true,hw,hs,hc,hG];exact ⟨λ_=>hr K' hK',(λh=>nomatch h)⟩
             . subst hb;obtain ⟨a,b,c,d,hK,hr⟩:=ih _ _ _ _ _ _ (h.2 rfl);refine ⟨a,b,c,d,hK,λK' hK'=>?_⟩;unfold Yw;simp only [hd,cond_true,hw,hs,hc,hG];exact ⟨(λh=>nomatch h),λ_=>hr K' hK'⟩
           . rename_i p b hG;rcases Bool.eq_false_or_eq_true b with hb | hb
             . subst hb;obtain ⟨a,b,c,d,hK,hr⟩:=ih _ _ _ _ _ _ (h.2.1 rfl);refine ⟨a,b,c,d,hK,λK' hK'=>?_⟩;unfold Yw;simp only [hd,cond_true,hw,hs,hc,hG];exact ⟨h.1,λ_=>hr K' hK',(λh=>nomatch h)⟩
             . subst hb;obtain ⟨a,b,c,d,hK,hr⟩:=ih _ _ _ _ _ _ (h.2.2 rfl);refine ⟨a,b,c,d,hK,λK' hK'=>?_⟩;unfold Yw;simp only [hd,cond_true,hw,hs,hc,hG];exact ⟨h.1,(λh=>nomatch h),λ_=>hr K' hK'⟩
           . exact h.elim
         . exact h.elim
     . rename_i hw;obtain ⟨a,b,c,d,hK,hr⟩:=ih _ _ _ _ _ _ h;refine ⟨a,b,c,d,hK,λK' hK'=>?_⟩;unfold Yw;simp only [hd,cond_true,hw];exact hr K' hK'
     . exact h.elim
def Det (R : Kt -> Prop) (K : Kt) : Prop:=∃ e fr H nx,K e fr H nx /\ ∀ K' : Kt,K' e fr H nx -> R K'
theorem exec_det {P : Program} {T : YU} {Q : Qs} {wd nt np : Nat} (hwd : 0 < wd) (hQ : zBI P Q) : ∀ (c : Code) (fr : Fr) (H : Hp) (nx : Nat) (K : Kt),qR T Q wd nt np c fr H nx K -> Det (qR T (QR P) wd nt np c fr H nx) K:=by
 intro c;induction c with
 | skip=>intro fr H nx K h;exact ⟨_,_,_,_,h,λK' h'=>h'⟩
 | region id ops draw=>
   intro fr H nx K h;unfold qR at h;obtain ⟨a,b,c,d,hK,hr⟩:=runR_det hwd hQ _ _ _ _ _ _ _ h;cases hb : (!draw || zEn ops.toList d.reverse) with
   | false=>
     rw [hb,cond_false] at hK;unfold litK at hK;split at hK
     . rename_i L hL;cases hlo : zEU T ops.toList L a d.reverse nx with
       | false=>rw [hlo] at hK;exact hK.elim
       | true=>
         rw [hlo,cond_true] at hK;refine ⟨_,_,_,_,hK,λK' hK'=>?_⟩;unfold qR;refine hr _ ?_;rw [hb,cond_false];unfold litK;rw [hL];dsimp only;rw [hlo];exact hK'
     . exact hK.elim
   | true=>
     rw [hb,cond_true] at hK;refine ⟨_,_,_,_,hK,λK' hK'=>?_⟩;unfold qR;refine hr _ ?_;rw [hb,cond_true];exact hK'
 | seq a b iha ihb=>
   intro fr H nx K h;unfold qR at h;obtain ⟨e,fr1,H1,nx1,hK,hr⟩:=iha _ _ _ _ h;cases e with
   | normal=>
     obtain ⟨e2,fr2,H2,nx2,hK2,hr2⟩:=ihb _ _ _ _ hK;refine ⟨e2,fr2,H2,nx2,hK2,λK' hK'=>?_⟩;unfold qR;exact hr _ (hr2 K' hK')
   | _=>
     refine ⟨_,_,_,_,hK,λK' hK'=>?_⟩;unfold qR;exact hr _ hK'
 | cond x a b iha ihb=>
   intro fr H nx K h;unfold qR at h;split at h
   . rename_i t ht;rcases Bool.eq_false_or_eq_true t with hb | hb
     . subst hb;obtain ⟨e,fr1,H1,nx1,hK,hr⟩:=iha _ _ _ _ (h.1 rfl);refine ⟨_,_,_,_,hK,λK' hK'=>?_⟩;unfold qR;rw [ht];exact ⟨λ_=>hr K' hK',(λh=>nomatch h)⟩
     . subst hb;obtain ⟨e,fr1,H1,nx1,hK,hr⟩:=ihb _ _ _ _ (h.2 rfl);refine ⟨_,_,_,_,hK,λK' hK'=>?_⟩;unfold qR;rw [ht];exact ⟨(λh=>nomatch h),λ_=>hr K' hK'⟩
   . exact h.elim
 | block id c ih=>
   intro fr H nx K h;unfold qR at h;obtain ⟨e,fr1,H1,nx1,hK,hr⟩:=ih _ _ _ _ h;cases e with
   | exit j=>
     cases hb : Nat.beq j id with
     | true=>
       simp only [blkK,hb,cond_true] at hK;refine ⟨_,_,_,_,hK,λK' hK'=>?_⟩;unfold qR;refine hr _ ?_;simp only [blkK,hb,cond_true];exact hK'
     | false=>
       simp only [blkK,hb,cond_false] at hK;refine ⟨_,_,_,_,hK,λK' hK'=>?_⟩;unfold qR;refine hr _ ?_;simp only [blkK,hb,cond_false];exact hK'
   | _=>
     refine ⟨_,_,_,_,hK,λK' hK'=>?_⟩;unfold qR;exact hr _ hK'
 | loop c ih=>
   intro fr H nx K h;unfold qR at h;obtain ⟨n,h⟩:=h;have key : ∀ n fr H nx,iter np (qR T Q wd nt np c) K n fr H nx -> ∃ e fr1 H1 nx1,K e fr1 H1 nx1 /\ ∀ K' : Kt,K' e fr1 H1 nx1 -> ∃ m,iter np (qR T (QR P) wd nt np c) K' m fr H nx:=by
    intro n;induction n with
    | zero=>intro fr H nx h;exact h.elim
    | succ n ihn=>
      intro fr H nx h;obtain ⟨fr',H',rho,nx',h0,hrho,h1,h2,h3⟩:=h;obtain ⟨e,fr1,H1,nx1,hK,hr⟩:=ih _ _ _ _ h3;cases e with
      | normal=>
        obtain ⟨e2,fr2,H2,nx2,hK2,hr2⟩:=ihn _ _ _ hK;refine ⟨e2,fr2,H2,nx2,hK2,λK' hK'=>?_⟩;obtain ⟨m,hm⟩:=hr2 K' hK';exact ⟨m + 1,fr',H',rho,nx',h0,hrho,h1,h2,hr _ hm⟩
      | _=>exact ⟨_,_,_,_,hK,λK' hK'=>⟨1,fr',H',rho,nx',h0,hrho,h1,h2,hr _ hK'⟩⟩
   obtain ⟨e,fr1,H1,nx1,hK,hr⟩:=key n _ _ _ h;refine ⟨e,fr1,H1,nx1,hK,λK' hK'=>?_⟩;unfold qR;exact hr K' hK'
 | exit id=>intro fr H nx K h;exact ⟨_,_,_,_,h,λK' h'=>h'⟩
 | ret=>intro fr H nx K h;exact ⟨_,_,_,_,h,λK' h'=>h'⟩
 | label l=>intro fr H nx K h;exact ⟨_,_,_,_,h,λK' h'=>h'⟩
 | _=>intro fr H nx K h;exact h.elim
theorem zEV {α : Type} {P : Program} {T : YU} {Q : Qs} {wd nt np : Nat} (hwd : 0 < wd) (hQ : zBI P Q) {c : Code} {fr : Fr} {H : Hp} {nx : Nat} {rv : List ResultVar} {post : α -> FV -> Hp -> Nat -> Prop} {S : α -> Prop}
 (h : qR T Q wd nt np c fr H nx (qQ T rv λx Hf nf=>∃ a,S a /\ post a x Hf nf)) : ∃ a,S a /\ qR T (QR P) wd nt np c fr H nx (qQ T rv (post a)):=by
 obtain ⟨e,fr1,H1,nx1,hK,hr⟩:=exec_det hwd hQ _ _ _ _ _ h;have : ∃ a,S a /\ qQ T rv (post a) e fr1 H1 nx1:=by
  cases e with
  | ret=>
    simp only [qQ] at hK ⊢;split at hK
    . obtain ⟨a,h1,h2⟩:=hK;exact ⟨a,h1,h2⟩
    . exact hK.elim
  | normal=>
    simp only [qQ] at hK ⊢;split at hK
    . obtain ⟨a,h1,h2⟩:=hK;exact ⟨a,h1,h2⟩
    . exact hK.elim
  | _=>exact hK.elim
 obtain ⟨a,h1,h2⟩:=this;exact ⟨a,h1,hr _ h2⟩
end Go.Proofs.Ytfaibcgakcmhcaa.AX
namespace Go.Proofs.Ytfaibcgakcmhcaa.AX
open Go.RowKit
abbrev Zk:=List FV -> Hp -> Nat -> Nat -> Option Qf
structure EntOk (P : Program) (f : FuncId) (x : Zk) : Prop where
 ok : ∀ args H nm wd q,0 < wd -> x args H nm wd = some q -> ∀ K,q K -> ∃ v e rd,zC0 P f args H nm wd ⟨none,v,e,rd⟩ /\ K v e rd
 mono : ∀ args H nm wd q,x args H nm wd = some q -> ∀ K K' : FV -> Hp -> List Nat -> Prop,(∀ v e rd,K v e rd -> K' v e rd) -> q K -> q K'
abbrev CsL:=List (Nat × Option Zk)
def qH (l : CsL) : Qs:=λf args H nm wd=>match qu none l f with
 | some e=>e args H nm wd
 | none=>none
def qV (P : Program) : CsL -> Prop
 | []=>True
 | (_,none) :: l=>qV P l
 | (f,some g) :: l=>EntOk P f g /\ qV P l
theorem qV.at {P : Program} : ∀ {l : CsL},qV P l -> ∀ f g,qu none l f = some g -> EntOk P f g:=by
 intro l;induction l with
 | nil=>intro _ f g h;cases h
 | cons p l ih=>
   obtain ⟨k,x⟩:=p;intro h f g hf;by_cases hk : f = k
   . subst hk;rw [zn] at hf;subst hf;exact h.1
   . rw [zZ _ _ _ hk] at hf;cases x with
     | none=>exact ih h f g hf
     | some y=>exact ih h.2 f g hf
theorem zb {P : Program} {l : CsL} (h : qV P l) : zBI P (qH l):=by
 intro f args H nm wd q hwd hq;unfold qH at hq;split at hq
 . rename_i g hg;exact (h.at f g hg).ok args H nm wd q hwd hq
 . cases hq
theorem zV {P : Program} {l : CsL} (h : qV P l) : zCe (qH l):=by
 intro f args H nm wd q hq;unfold qH at hq;split at hq
 . rename_i g hg;exact (h.at f g hg).mono args H nm wd q hq
 . cases hq
def zB6 (r : QK) (H : Hp) (rd : List Nat) (b : Nat) : Prop:=∃ nm e x,zX H nm = some e /\ r nm = some x /\ x.b = b /\ nm ∉ rd
def Bo (H : Hp) (rd : List Nat) (x y : FV) : Prop:=∀ cx r w v,St cx r H w -> x.rel r cx.X (wr r H) w v -> y.rel (λ_=>none) (λb=>cx.X b \/ wr r H b) (zB6 r H rd) w v
def BoL (H : Hp) (rd : List Nat) (l l' : List FV) : Prop:=l.length = l'.length /\ ∀ (i : Nat) x y,l[i]? = some x -> l'[i]? = some y -> Bo H rd x y
theorem FV.rel_w {r : QK} {X W W' : Nat -> Prop} {w : World} (h : ∀ b,W' b -> W b) (x : FV) (v : Value) (hx : x.rel r X W w v) : x.rel r X W' w v:=
 FV.rel_ext ⟨λ_ _ h=>h,Nat.le_refl _,λ_ _ _=>rfl,λb _ hb=>h b hb⟩ x v hx
theorem CV.rel_w {r : QK} {X W W' : Nat -> Prop} {w : World} (h : ∀ b,W' b -> W b) (x : CV) (v : Value) (hx : x.rel r X W w v) : x.rel r X W' w v:=
 CV.rel_ext ⟨λ_ _ h=>h,Nat.le_refl _,λ_ _ _=>rfl,λb _ hb=>h b hb⟩ x v hx
theorem Bo.more {H : Hp} {rd rd' : List Nat} {x y : FV} (h : Bo H rd x y) (hs : ∀ k ∈ rd,k ∈ rd') : Bo H rd' x y:=λcx r w v st hx=>
 FV.rel_w (λb ⟨nm,e,x,h1,h2,h3,h4⟩=>⟨nm,e,x,h1,h2,h3,λh=>h4 (hs nm h)⟩) _ _ (h cx r w v st hx)
structure Codec (α : Type) where
 enc : α -> FV
 dec : Hp -> FV -> Option (α × Option Prop × List Nat)
 sound : ∀ H H' x a p rd,dec H x = some (a,p,rd) -> Qh p -> (∀ k ∈ rd,zX H k = zX H' k) -> Bo H' rd x (enc a)
structure AC (α : Type) where
 enc : α -> List FV
 dec : Hp -> List FV -> Option (α × Option Prop × List Nat)
 sound : ∀ H H' l a p rd,dec H l = some (a,p,rd) -> Qh p -> (∀ k ∈ rd,zX H k = zX H' k) -> BoL H' rd l (enc a)
def AC.nil : AC Unit where
 enc _:=[]
 dec _ l:=match l with
  | []=>some ((),none,[])
  | _=>none
 sound H H' l a p rd h _ _:=by
  split at h
  . exact ⟨rfl,λi x y h=>by cases i<;>cases h⟩
  . cases h
def AC.cons {α β : Type} (c : Codec α) (d : AC β) : AC (α × β) where
 enc a:=c.enc a.1 :: d.enc a.2
 dec H l:=match l with
  | x :: l=>match c.dec H x with
    | some (a,p,rd)=>match d.dec H l with
      | some (b,q,rd')=>some ((a,b),zBX p q,rd ++ rd')
      | none=>none
    | none=>none
  | []=>none
 sound H H' l a p rd h hp hh:=by
  split at h
  . rename_i x l;split at h
    . rename_i a0 p0 rd0 h0;split at h
      . rename_i b q rd' h1;injection h with h;injection h with e1 e2;injection e2 with e2 e3;subst e1 e2 e3;obtain ⟨hp1,hp2⟩:=YV.1 hp;have s1:=c.sound H H' x a0 p0 rd0 h0 hp1 (λk hk=>hh k (List.mem_append_left _ hk));obtain ⟨s2,s3⟩:=d.sound H H' l b q rd' h1 hp2 (λk hk=>hh k (List.mem_append_right _ hk));refine ⟨by simp [s2],λi x y hx hy=>?_⟩;cases i with
        | zero=>simp only [List.getElem?_cons_zero,Option.some.injEq] at hx hy;subst hx hy;exact s1.more λk hk=>List.mem_append_left _ hk
        | succ i=>exact (s3 i x y (by simpa using hx) (by simpa using hy)).more λk hk=>List.mem_append_right _ hk
      . cases h
    . cases h
  . cases h
def pAnd : Option Prop -> Prop -> Prop
 | none,q=>q
 | some p,q=>p /\ q
theorem YA {p : Option Prop} {q : Prop} : pAnd p q ↔ Qh p /\ q:=by cases p<;>simp [pAnd,Qh]
structure Done (H : Hp) (x spec : FV) : Prop where
 le : LeF ⟨H,[],[],0,true⟩ x spec
def Ze (P : Program) (f : FuncId) (args : List FV) (spec : FV) : Prop:=
 ∀ X w (vals : Array Value),zAe (λ_=>none) X (λ_=>False) w args vals -> Xw X w -> Calls P f vals w λe w'=>∃ v,e = .returned v /\ Below w.heap.size w w' /\ spec.rel (λ_=>none) X X w' v
theorem st_xw {cx : Cx} {r : QK} {H : Hp} {w : World} (st : St cx r H w) : Xw (λb=>cx.X b \/ wr r H b) w:=by
 refine ⟨?_,λp hp=>?_⟩
 . rintro b (hx | ⟨k,e,x,_,hx,rfl⟩)
   . exact Nat.lt_of_lt_of_le (st.xlt.lt b hx) st.size
   . exact (st.dom k x hx).1
 . obtain ⟨h1,h2,h3⟩:=st.xlt.gl p hp;refine ⟨Nat.lt_of_lt_of_le h1 st.size,?_,λj k n hkn=>?_⟩
   . rintro (hx | ⟨k,e,x,he,hx,hb⟩)
     . exact h2 (.inl hx)
     . rcases (st.dom k x hx).2.1 with hd | hd
       . omega
       . exact h2 (.inr (.inl (by rw [<- hb];exact hd)))
   . rw [<- h3 j k n hkn];exact zA6 (st.kept _ h1 λhE=>h2 (.inr (.inr hE)))
theorem zCa {X Y : Nat -> Prop} {w : World} (h : zCl X w) (hY : ∀ p ∈ GL,Y p.1 -> X p.1) : zCl Y w:=λp hp=>⟨(h p hp).1,λhy=>(h p hp).2.1 (hY p hp hy),(h p hp).2.2⟩
theorem zBN {w : World} {X : Nat -> Prop} (hX : Xw X w) : St ⟨w,λ_=>False,λ_=>False,X,λ_=>none⟩ (λ_=>none) [] w:=
 ⟨rfl,rfl,rfl,Nat.le_refl _,λ_ _ _=>rfl,⟨hX.1,zCa hX.2 λp _ h=>h.elim id λh=>h.elim False.elim False.elim⟩,(λ_ _ h=>by cases h),(λ_ _ _ h=>by cases h),(λ_ _ _ _ _ _ h=>by cases h),(λ_ _ h=>by cases h),λ_ _ h=>by cases h⟩
theorem zDW {r : QK} : wr r [] = λ_=>False:=by
 funext b
 simp [wr,zX,qu]
theorem ren_nil {H : Hp} {r : QK} : Wc.ren ⟨H,[],[],0,true⟩ r = λ_=>none:=by
 funext k
 have : Nat.blt k 0 = false:=by
  cases hb : Nat.blt k 0 with
  | false=>rfl
  | true=>exact absurd (Nat.le_of_ble_eq_true hb) (by omega)
 simp [Wc.ren,Wc.src,zAG,this]
section
variable {P : Program} {T : YU} {Q : Qs} {wd : Nat}
theorem zt (hwd : 0 < wd) (hT : qP P T) (hQ : zBI P Q) (hm : P.follows .mixedOrders = true) {f : FuncId} {fn : Func} {c : Code} (hf : P.funcs[f]? = some fn) (hb : fn.body = some c) (args : List FV) (hn : args.length <= fn.ntmps) (spec : FV)
 (h : qR T Q wd fn.ntmps 0 c (Yn args 0) [] 0 (qQ T fn.results.toList λx H _=>Done H x spec)) : Ze P f args spec:=by
 intro X w vals hrel hX;have hrel' : zAe (λ_=>none) X (wr (λ_=>none) []) w args vals:=by rw [zDW];exact hrel
 refine (zDa hwd hT hQ hm hf hb hn h (λ_ _ h=>by cases h) (zBN hX) hrel' (λ_ _=>⟨rfl,rfl⟩)).mono λe w' he=>?_;obtain ⟨v,r',x,Hf,nf,rfl,hfin,st,_,hx,_⟩:=he;refine ⟨v,rfl,⟨st.os,st.tape,st.output,st.size,λb hb=>st.kept b hb id⟩,?_⟩;have h1:=hfin.le (λk e' h=>by cases h) _ r' w' v st hx;rw [ren_nil] at h1;refine FV.rel_w (λb hb=>?_) _ _ h1;exact .inr ⟨rfl,hb⟩
end
theorem zF5 {P : Program} {f : FuncId} (hb : zAJ P f) {args args' : List FV} {H : Hp} {rd : List Nat} {nm wd : Nat} {spec : FV} (hbo : ∀ H',(∀ k ∈ rd,zX H k = zX H' k) -> BoL H' rd args args') (h : Ze P f args' spec) : zC0 P f args H nm wd ⟨none,spec,[],rd⟩:=by
 refine ⟨hb,λH' hh cx r w vals st hfr _ hrel=>?_⟩;obtain ⟨h1,h2⟩:=hbo H' hh;refine (h (λb=>cx.X b \/ wr r H' b) w vals ⟨hrel.1.trans h1,λi y u hy hu=>?_⟩ ?_).mono λe w' he=>?_
 . have hi : i < args.length:=by rw [h1];exact (List.getElem?_eq_some_iff.1 hy).1
   exact FV.rel_w (λ_ h=>h.elim) _ _ (h2 i _ y (List.getElem?_eq_getElem hi) hy cx r w u st (hrel.2 i _ u (List.getElem?_eq_getElem hi) hu))
 . exact st_xw st
 . obtain ⟨v,rfl,hbel,hv⟩:=he;obtain ⟨g1,g2⟩:=st.below hbel;exact ⟨v,rfl,r,g1,g2,λ_ _=>rfl,λk e he=>.inr ⟨e,he⟩,FV.rel_into (λb hb=>.inl hb) (λb hb=>.inr hb) _ _ hv⟩
def qr {α R : Type} (A : AC α) (p : α -> Prop) (F : α -> R) (enc : R -> FV) : Zk:=λargs H _ _=>
 match A.dec H args with
 | some (a,q,rd)=>some λK=>pAnd q (p a /\ ∀ s,s = F a -> K (enc s) [] rd)
 | none=>none
theorem zx {α R : Type} {A : AC α} {p : α -> Prop} {F : α -> R} {enc : R -> FV} {P : Program} {f : FuncId} (hb : zAJ P f) (h : ∀ a,p a -> Ze P f (A.enc a) (enc (F a))) : EntOk P f (qr A p F enc):=by
 refine ⟨λargs H nm wd q _ hq K hK=>?_,λargs H nm wd q hq K K' hKK hK=>?_⟩
 . unfold qr at hq;split at hq
   . rename_i a pr rd hd;injection hq with hq;subst hq;obtain ⟨h1,h2,h3⟩:=YA.1 hK;exact ⟨_,_,_,zF5 hb (λH' hh=>A.sound H H' args a pr rd hd h1 hh) (h a h2),h3 _ rfl⟩
   . cases hq
 . unfold qr at hq;split at hq
   . injection hq with hq;subst hq;obtain ⟨h1,h2,h3⟩:=YA.1 hK;exact YA.2 ⟨h1,h2,λs hs=>hKK _ _ _ (h3 s hs)⟩
   . cases hq
def resN (kd : Option Nat) (rest : Option (List EV)) (nm : Nat) : FV:=
 match kd,rest with
 | some n,none=>zL (.os nm 0 n)
 | some n,some l=>.tup (.c (.os nm 0 n) :: l)
 | none,none=>zL (.ptr nm 0 0 false)
 | none,some l=>.tup (.c (.ptr nm 0 0 false) :: l)
def NF (x : CV) : Prop:=∀ r r' X W w v,x.rel r X W w v -> x.rel r' X W w v
def NFE (x : EV) : Prop:=∀ r r' X W w v,x.rel r X W w v -> x.rel r' X W w v
theorem zA1 {k : IntKind} {a : Int} : NF (.int k a):=λ_ _ _ _ _ _ h=>h
theorem zB7 {a : Bool} : NF (.bool a):=λ_ _ _ _ _ _ h=>h
theorem nf_nils : NF .nils:=λ_ _ _ _ _ _ h=>h
theorem zD9 {sh : Bool} {n sz : Nat} {f : Nat -> Nat -> CV} (h : ∀ i,i < n -> ∀ j,j < sz -> NF (f i j)) : NF (.sl sh n sz f):=by
 rintro r r' X W w v ⟨a,cap,rfl,h1,h2⟩;refine ⟨a,cap,rfl,h1,λh0=>?_⟩;obtain ⟨ad,rfl,hs,ho,hX,hlt,hc⟩:=h2 h0;refine ⟨ad,rfl,hs,ho,hX,hlt,λi hi j hj=>?_⟩;obtain ⟨u,hu,hr⟩:=hc i hi j hj;exact ⟨u,hu,h i hi j hj _ _ _ _ _ _ hr⟩
theorem zCy {x : CV} (h : NF x) : NFE (.c x):=h
def at0 (o : Option Bi) : QK:=λk=>if k = 0 then o else none
def orB (X : Nat -> Prop) (o : Option Bi) (b : Nat) : Prop:=X b \/ ∃ x,o = some x /\ x.b = b
def zBG (P : Program) (f : FuncId) (args : List FV) (kd : Option Nat) (rest : Option (List EV)) (e' : Ent) : Prop:=
 ∀ X w (vals : Array Value),zAe (λ_=>none) X (λ_=>False) w args vals -> Xw X w -> Calls P f vals w λe w'=>∃ v o,e = .returned v /\ Below w.heap.size w w' /\ (∀ x,o = some x -> w.heap.size <= x.b /\ x.b < w'.heap.size) /\
   Yy (λ_=>none) X (orB X o) w' e' o w'.heap /\ (resN kd rest 0).rel (at0 o) X (orB X o) w' v
structure FinN (kd : Option Nat) (rest : Option (List EV)) (e' : Ent) (x : FV) (H : Hp) : Prop where
 ex : ∃ rho,LeF ⟨H,[(0,some e')],[(0,rho)],1,true⟩ x (resN kd rest 0) /\ WkE ⟨H,[(0,some e')],[(0,rho)],1,true⟩ e' rho
section
variable {P : Program} {T : YU} {Q : Qs} {wd : Nat}
theorem zBh (hwd : 0 < wd) (hT : qP P T) (hQ : zBI P Q) (hm : P.follows .mixedOrders = true) {f : FuncId} {fn : Func} {c : Code} (hf : P.funcs[f]? = some fn) (hb : fn.body = some c) (args : List FV) (hn : args.length <= fn.ntmps) {kd : Option Nat} {rest : Option (List EV)} {e' : Ent}
 (hnf : ∀ i,i < e'.n -> ∀ j,j < e'.sz -> NF (e'.f i j)) (h : qR T Q wd fn.ntmps 0 c (Yn args 0) [] 0 (qQ T fn.results.toList λx H _=>FinN kd rest e' x H)) : zBG P f args kd rest e':=by
 intro X w vals hrel hX;have hrel' : zAe (λ_=>none) X (wr (λ_=>none) []) w args vals:=by rw [zDW];exact hrel
 refine (zDa hwd hT hQ hm hf hb hn h (λ_ _ h=>by cases h) (zBN hX) hrel' (λ_ _=>⟨rfl,rfl⟩)).mono λe w' he=>?_;obtain ⟨v,r',x,Hf,nf,rfl,⟨rho,hfin,hent⟩,st,_,hx,_⟩:=he;have hsrc : ∀ k,Wc.src ⟨Hf,[(0,some e')],[(0,rho)],1,true⟩ k = if k = 0 then rho else none:=λk=>by
  unfold Wc.src;simp only [zAG];by_cases hk : k = 0
  . subst hk;simp
  . have h1 : Nat.beq k 0 = false:=by
     cases hb : Nat.beq k 0 with
     | false=>rfl
     | true=>exact absurd (Nat.eq_of_beq_eq_true hb) hk
    have h2 : Nat.blt k 1 = false:=by
     cases hb : Nat.blt k 1 with
     | false=>rfl
     | true=>have:=Nat.le_of_ble_eq_true hb;omega
    simp [h1,h2,hk]
 have hren : Wc.ren ⟨Hf,[(0,some e')],[(0,rho)],1,true⟩ r' = at0 (rho.bind r'):=by
  funext k
  unfold Wc.ren at0;rw [hsrc];by_cases hk : k = 0
  . rw [if_pos hk,if_pos hk];cases rho<;>rfl
  . rw [if_neg hk,if_neg hk]
 have hlive : Wc.Live ⟨Hf,[(0,some e')],[(0,rho)],1,true⟩:=λk e1 he1 k0 hk0=>by
  rw [hsrc] at hk0;split at hk0
  . subst hk0;unfold WkE at hent;simp only at hent;split at hent
    . rename_i e2 hh;exact ⟨e2,hh⟩
    . exact hent.elim
  . cases hk0
 have hwr : ∀ b,orB X (rho.bind r') b -> Wc.wr ⟨Hf,[(0,some e')],[(0,rho)],1,true⟩ ⟨w,λ_=>False,λ_=>False,X,λ_=>none⟩ r' b:=λb hb=>by
  rcases hb with hb | ⟨y,hy,hyb⟩
  . exact .inr ⟨rfl,hb⟩
  . refine .inl ⟨0,e',y,zn _ _ _ _,?_,hyb⟩;rw [hren];show (if 0 = 0 then _ else _) = _;rw [if_pos rfl];exact hy
 refine ⟨v,rho.bind r',rfl,⟨st.os,st.tape,st.output,st.size,λb hb=>st.kept b hb id⟩,λy hy=>?_,?_,?_⟩
 . cases rho with
   | none=>cases hy
   | some j=>
     have hy' : r' j = some y:=hy;obtain ⟨d1,d2,_⟩:=st.dom j y hy';exact ⟨d2.resolve_right id,d1⟩
 . cases rho with
   | none=>
     obtain ⟨g1,g2,g3⟩:=hent;exact ⟨g3,(λh=>by rw [g2] at h;cases h),.inl ⟨rfl,g1⟩⟩
   | some j=>
     unfold WkE at hent;simp only at hent;split at hent
     . rename_i e2 hh;exact (st.blk j e2 hh).map hent.t hent.n hent.sz hent.v rfl (λ_ _=>rfl) λi hi j' hj u hu=>by
        have h1:=hent.f i hi j' hj hlive _ r' w' u st hu;exact CV.rel_w hwr _ _ (hnf i (by rw [<- hent.n];exact hi) j' (by rw [<- hent.sz];exact hj) _ _ _ _ _ _ h1)
     . exact hent.elim
 . have h1:=hfin hlive _ r' w' v st hx;rw [hren] at h1;exact FV.rel_w hwr _ _ h1
end
theorem resN_into {kd : Option Nat} {rest : Option (List EV)} {o : Option Bi} {nm : Nat} {r : QK} {X' X W : Nat -> Prop} {w : World} {v : Value} (hr : r nm = o) (hrest : ∀ l,rest = some l -> ∀ x ∈ l,NFE x) (hX : ∀ b,X b -> orB X' o b) (hW : ∀ b,W b -> orB X' o b) (h : (resN kd rest 0).rel (at0 o) X' (orB X' o) w v) : (resN kd rest nm).rel r X W w v:=by
 have hos : ∀ n u,(CV.os 0 0 n).rel (at0 o) X' (orB X' o) w u -> (CV.os nm 0 n).rel r X W w u:=by
  rintro n u ⟨a,cap,rfl,h1,h2⟩;refine ⟨a,cap,rfl,h1,λh0=>?_⟩;obtain ⟨x,hx,h3⟩:=h2 h0;exact ⟨x,⟨by rw [hr];exact hx.1,hx.2⟩,h3⟩
 have hpt : ∀ u,(CV.ptr 0 0 0 false).rel (at0 o) X' (orB X' o) w u -> (CV.ptr nm 0 0 false).rel r X W w u:=by
  rintro u ⟨x,hx,rfl⟩;exact ⟨x,⟨by rw [hr];exact hx.1,hx.2⟩,rfl⟩
 have htup : ∀ (a b : CV) l,rest = some l -> (∀ u,a.rel (at0 o) X' (orB X' o) w u -> b.rel r X W w u) -> (FV.tup (.c a :: l)).rel (at0 o) X' (orB X' o) w v -> (FV.tup (.c b :: l)).rel r X W w v:=by
  rintro a b l hl hab ⟨vs,rfl,h1,h2⟩;refine ⟨vs,rfl,by simpa using h1,λi x u hx hu=>?_⟩;cases i with
  | zero=>
    simp only [List.getElem?_cons_zero,Option.some.injEq] at hx;subst hx;exact hab u (h2 0 _ u rfl hu)
  | succ i=>
    have hx' : l[i]? = some x:=by simpa using hx
    have:=hrest l hl x (List.mem_of_getElem? hx') _ (λ_=>none) _ _ _ _ (h2 (i + 1) x u (by simpa using hx) hu);exact EV.rel_into hX hW _ _ this
 cases kd with
 | some n=>
   cases rest with
   | none=>exact hos n v h
   | some l=>exact htup _ _ l rfl (hos n) h
 | none=>
   cases rest with
   | none=>exact hpt v h
   | some l=>exact htup _ _ l rfl hpt h
theorem zEA {P : Program} {f : FuncId} (hb : zAJ P f) {args args' : List FV} {H : Hp} {rd : List Nat} {nm wd : Nat} (hwd : 0 < wd) {kd : Option Nat} {rest : Option (List EV)} {e' : Ent} (hrest : ∀ l,rest = some l -> ∀ x ∈ l,NFE x)
 (hbo : ∀ H',(∀ k ∈ rd,zX H k = zX H' k) -> BoL H' rd args args') (h : zBG P f args' kd rest e') : zC0 P f args H nm wd ⟨none,resN kd rest nm,[(nm,some e')],rd⟩:=by
 refine ⟨hb,λH' hh cx r w vals st hfr _ hrel=>?_⟩;obtain ⟨h1,h2⟩:=hbo H' hh;refine (h (λb=>cx.X b \/ wr r H' b) w vals ⟨hrel.1.trans h1,λi y u hy hu=>?_⟩ (st_xw st)).mono λe w' he=>?_
 . have hi : i < args.length:=by rw [h1];exact (List.getElem?_eq_some_iff.1 hy).1
   exact FV.rel_w (λ_ h=>h.elim) _ _ (h2 i _ y (List.getElem?_eq_getElem hi) hy cx r w u st (hrel.2 i _ u (List.getElem?_eq_getElem hi) hu))
 . obtain ⟨v,o,rfl,hbel,ho,hent,hv⟩:=he;obtain ⟨hr0,hh0⟩:=hfr nm (Nat.le_refl _) (by omega);have hr2 : ∀ k x,r k = some x -> (if k = nm then o else r k) = some x:=λk x hx=>by
    by_cases hk : k = nm
    . subst hk;rw [hr0] at hx;cases hx
    . rw [if_neg hk];exact hx
   have hl0 : zX ((nm,some e') :: H') nm = some e':=zn _ _ _ _;have hl : ∀ k,k ≠ nm -> zX ((nm,some e') :: H') k = zX H' k:=λk hk=>zZ _ _ _ hk;have hwr2 : ∀ b,wr (λk=>if k = nm then o else r k) ((nm,some e') :: H') b -> orB (λb=>cx.X b \/ wr r H' b) o b:=by
    rintro b ⟨k,e,x,he,hx,hxb⟩;by_cases hk : k = nm
    . subst hk;have hx' : (if k = k then o else r k) = some x:=hx;rw [if_pos rfl] at hx';exact .inr ⟨x,hx',hxb⟩
    . have hx' : (if k = nm then o else r k) = some x:=hx;rw [if_neg hk] at hx';rw [hl k hk] at he;exact .inl (.inr ⟨k,e,x,he,hx',hxb⟩)
   obtain ⟨g1,g2⟩:=st.below hbel;have hdomo : ∀ x,o = some x -> x.b < w'.heap.size /\ cx.w0.heap.size <= x.b /\ ¬ cx.X x.b:=λx hx=>by
    obtain ⟨a1,a2⟩:=ho x hx;refine ⟨a2,Nat.le_trans st.size a1,λhX=>?_⟩;have:=Nat.lt_of_lt_of_le (st.xlt.lt _ hX) st.size;omega
   have hE : Ext r (wr r H') w (λk=>if k = nm then o else r k) (wr (λk=>if k = nm then o else r k) ((nm,some e') :: H')) w':=by
    refine ⟨hr2,hbel.size,λb hb _=>hbel.block b hb,λb hb hw=>?_⟩;rcases hwr2 b hw with (hX | hw) | ⟨x,hx,hxb⟩
    . obtain ⟨k,e,x,he,hx,hxb⟩:=hw;by_cases hk : k = nm
      . subst hk;have hx' : (if k = k then o else r k) = some x:=hx;rw [if_pos rfl] at hx';obtain ⟨a1,a2⟩:=ho x hx';omega
      . have hx' : (if k = nm then o else r k) = some x:=hx;rw [if_neg hk] at hx';rw [hl k hk] at he;exact ⟨k,e,x,he,hx',hxb⟩
    . exact hw
    . obtain ⟨a1,a2⟩:=ho x hx;omega
   refine ⟨v,rfl,λk=>if k = nm then o else r k,hE,⟨g2.os,g2.tape,g2.output,g2.size,g2.kept,g2.xlt,λk x hx=>?_,λk e x he hx=>?_,λn m e1 e2 x y hn hm hx hy hxy=>?_,λk b hk=>hr2 k b (g2.pin k b hk),λk e he=>?_⟩,λk hk=>if_neg (by omega),λk e he=>?_,?_⟩
   . by_cases hk : k = nm
     . simp only [if_pos hk] at hx;obtain ⟨a1,a2,a3⟩:=hdomo x hx;exact ⟨a1,.inl a2,a3⟩
     . simp only [if_neg hk] at hx;exact g2.dom k x hx
   . by_cases hk : k = nm
     . simp only [if_pos hk] at hx;exact .inl (hdomo x hx).2.1
     . simp only [if_neg hk] at hx;have he' : zX ((nm,some e') :: H') k = some e:=he;rw [hl k hk] at he';exact g2.ow k e x he' hx
   . have lt : ∀ k x,k ≠ nm -> (if k = nm then o else r k) = some x -> x.b < w.heap.size:=λk x hk hx=>by rw [if_neg hk] at hx;exact (st.dom k x hx).1
     have ge : ∀ x,(if nm = nm then o else r nm) = some x -> w.heap.size <= x.b:=λx hx=>by rw [if_pos rfl] at hx;exact (ho x hx).1
     by_cases h : n = nm
     . by_cases h' : m = nm
       . omega
       . have:=lt m y h' hy;subst h;have:=ge x hx;omega
     . by_cases h' : m = nm
       . have:=lt n x h hx;subst h';have:=ge y hy;omega
       . have hn' : zX ((nm,some e') :: H') n = some e1:=hn;have hm' : zX ((nm,some e') :: H') m = some e2:=hm;rw [hl n h] at hn';rw [hl m h'] at hm';simp only [if_neg h] at hx;simp only [if_neg h'] at hy;exact st.inj n m e1 e2 x y hn' hm' hx hy hxy
   . have he' : zX ((nm,some e') :: H') k = some e:=he;by_cases hk : k = nm
     . subst hk;rw [hl0] at he';injection he' with he';subst he';simp only [if_true];exact hent.map rfl rfl rfl rfl rfl (λ_ _=>rfl) λi _ j _ u hu=>CV.rel_into (λb hb=>.inl (.inl hb)) hwr2 _ _ hu
     . rw [hl k hk] at he';simp only [if_neg hk];have hold:=st.old he' rfl (w':=w') λx hx=>hbel.block _ (st.dom k x hx).1;exact hold.ext hE
   . have he' : zX ((nm,some e') :: H') k = some e:=he;by_cases hk : k = nm
     . exact .inl ⟨.inl (by omega),by omega⟩
     . rw [hl k hk] at he';exact .inr ⟨e,he'⟩
   . exact resN_into (if_pos rfl) hrest (λb hb=>.inl (.inl hb)) hwr2 hv
def newE {α R : Type} (A : AC α) (p : α -> Prop) (F : α -> R) (kd : R -> Option Nat) (rest : R -> Option (List EV)) (ent : R -> Ent) : Zk:=λargs H nm _=>
 match A.dec H args with
 | some (a,q,rd)=>some λK=>pAnd q (p a /\ ∀ s,s = F a -> K (resN (kd s) (rest s) nm) [(nm,some (ent s))] rd)
 | none=>none
theorem zA2 {α R : Type} {A : AC α} {p : α -> Prop} {F : α -> R} {kd : R -> Option Nat} {rest : R -> Option (List EV)} {ent : R -> Ent} {P : Program} {f : FuncId} (hb : zAJ P f) (hrest : ∀ s l,rest s = some l -> ∀ x ∈ l,NFE x) (h : ∀ a,p a -> zBG P f (A.enc a) (kd (F a)) (rest (F a)) (ent (F a))) : EntOk P f (newE A p F kd rest ent):=by
 refine ⟨λargs H nm wd q hwd hq K hK=>?_,λargs H nm wd q hq K K' hKK hK=>?_⟩
 . unfold newE at hq;split at hq
   . rename_i a pr rd hd;injection hq with hq;subst hq;obtain ⟨h1,h2,h3⟩:=YA.1 hK;exact ⟨_,_,_,zEA hb hwd (hrest _) (λH' hh=>A.sound H H' args a pr rd hd h1 hh) (h a h2),h3 _ rfl⟩
   . cases hq
 . unfold newE at hq;split at hq
   . injection hq with hq;subst hq;obtain ⟨h1,h2,h3⟩:=YA.1 hK;exact YA.2 ⟨h1,h2,λs hs=>hKK _ _ _ (h3 s hs)⟩
   . cases hq
theorem CV.rel_sub {X W X' W' : Nat -> Prop} {r : QK} {w : World} (hX : ∀ b,X' b -> X b \/ W b) (hW : ∀ b,W' b -> W b) : ∀ (x : CV) (v : Value),x.rel r X W w v -> x.rel r X' W' w v:=by
 intro x;induction x with
 | top=>intro v h;exact h
 | int=>intro v h;exact h
 | bool=>intro v h;exact h
 | ptr nm i j s=>intro v h;exact h
 | nilp=>intro v h;exact h
 | nils=>intro v h;exact h
 | mp nm=>intro v h;exact h
 | sl sh n sz f ih=>
   rintro v ⟨a,cap,rfl,h1,h2⟩;refine ⟨a,cap,rfl,h1,λh0=>?_⟩;obtain ⟨ad,rfl,hs,ho,hx,hlt,hc⟩:=h2 h0;refine ⟨ad,rfl,hs,λh=>ho (hW _ h),λe h=>(hX _ h).elim (hx e) ho,hlt,λi hi j hj=>?_⟩;obtain ⟨u,hu,hr⟩:=hc i hi j hj;exact ⟨u,hu,ih i j u hr⟩
 | rp sh m g ih=>
   rintro v ⟨ad,rfl,hs,ho,hx,hlt,hc⟩;refine ⟨ad,rfl,hs,λh=>ho (hW _ h),λe h=>(hX _ h).elim (hx e) ho,hlt,λj hj=>?_⟩;obtain ⟨u,hu,hr⟩:=hc j hj;exact ⟨u,hu,ih j u hr⟩
 | os nm i n=>intro v h;exact h
 | oa nm i j n es=>intro v h;exact h
 | fn f n m a ih=>
   rintro v ⟨fs,cs,rfl,h1,h2,h3,h4⟩;exact ⟨fs,cs,rfl,h1,h2,λk u hu=>ih k u (h3 k u hu),λk u hu=>ih _ u (h4 k u hu)⟩
def YE (P : Program) (f : FuncId) (rest : List FV) (e : Ent) (val : FV) (e' : Ent) : Prop:=
 ∀ X w (x : Bi) (vals : Array Value),x.b < w.heap.size -> ¬ X x.b -> Xw (λb=>X b \/ b = x.b) w -> Yy (λ_=>none) X (λb=>b = x.b) w e (some x) w.heap -> zAe (at0 (some x)) X (λb=>b = x.b) w (.e (.c (.ptr 0 0 0 false)) :: rest) vals ->
   Calls P f vals w λen w'=>∃ v,en = .returned v /\ w'.os = w.os /\ w'.tape = w.tape /\ w'.output = w.output /\ w.heap.size <= w'.heap.size /\ (∀ b,b < w.heap.size -> b ≠ x.b -> w'.heap[b]? = w.heap[b]?) /\
    Yy (λ_=>none) X (orB X (some x)) w' e' (some x) w'.heap /\ val.rel (λ_=>none) X (orB X (some x)) w' v
structure FinM (val : FV) (e' : Ent) (x : FV) (H : Hp) : Prop where
 le : LeF ⟨H,[(0,some e')],[],1,true⟩ x val
 ent : WkE ⟨H,[(0,some e')],[],1,true⟩ e' (some 0)
def NFF (x : FV) : Prop:=∀ r r' X W w v,x.rel r X W w v -> x.rel r' X W w v
section
variable {P : Program} {T : YU} {Q : Qs} {wd : Nat}
theorem zF3 (hwd : 0 < wd) (hT : qP P T) (hQ : zBI P Q) (hm : P.follows .mixedOrders = true) {f : FuncId} {fn : Func} {c : Code} (hf : P.funcs[f]? = some fn) (hb : fn.body = some c) (rest : List FV) (hn : rest.length + 1 <= fn.ntmps) {e e' : Ent} {val : FV}
 (hval : NFF val) (hnf : ∀ i,i < e'.n -> ∀ j,j < e'.sz -> NF (e'.f i j)) (h : qR T Q wd fn.ntmps 1 c (Yn (.e (.c (.ptr 0 0 0 false)) :: rest) 0) [(0,some e)] 1 (qQ T fn.results.toList λx H _=>FinM val e' x H)) : YE P f rest e val e':=by
 intro X w x vals hxb hxX hX hent hrel;have hwr : wr (at0 (some x)) [(0,some e)] = λb=>b = x.b:=by
  funext b
  apply propext;constructor
  . rintro ⟨k,e1,y,_,hy,rfl⟩;unfold at0 at hy;split at hy
    . injection hy with hy;rw [hy]
    . cases hy
  . rintro rfl;exact ⟨0,e,x,zn _ _ _ _,if_pos rfl,rfl⟩
 have hk0 : ∀ k e1,zX [(0,some e)] k = some e1 -> k = 0 /\ e1 = e:=λk e1 h=>by
  by_cases hk : k = 0
  . subst hk;have : zX [(0,some e)] 0 = some e:=zn _ _ _ _;rw [this] at h;injection h with h;exact ⟨rfl,h.symm⟩
  . have : zX [(0,some e)] k = none:=zZ _ _ _ hk;rw [this] at h;cases h
 have st0 : St ⟨w,λb=>b = x.b,λb=>b = x.b,X,at0 (some x)⟩ (at0 (some x)) [(0,some e)] w:=by
  refine ⟨rfl,rfl,rfl,Nat.le_refl _,λ_ _ _=>rfl,⟨λb hb=>hX.1 b (.inl hb),zCa hX.2 λp _ h=>h.elim .inl λh=>h.elim .inr .inr⟩,λk y hy=>?_,λk e1 y _ hy=>?_,λn m e1 e2 y z h1 h2 _ _ _=>?_,λk b hk=>hk,λk e1 he1=>?_⟩
  . unfold at0 at hy;split at hy
    . injection hy with hy;subst hy;exact ⟨hxb,.inr rfl,hxX⟩
    . cases hy
  . unfold at0 at hy;split at hy
    . injection hy with hy;subst hy;exact .inr rfl
    . cases hy
  . rw [(hk0 n e1 h1).1,(hk0 m e2 h2).1]
  . obtain ⟨rfl,rfl⟩:=hk0 k e1 he1;rw [hwr];exact hent.map rfl rfl rfl rfl (if_pos rfl).symm (λ_ _=>rfl) λi _ j _ u hu=>CV.rel_ext ⟨λ_ _ h=>(by cases h),Nat.le_refl _,λ_ _ _=>rfl,λ_ _ h=>h⟩ _ _ hu
 refine (zDa (np:=1) hwd hT hQ hm hf hb (by simpa using hn) h (λk b hk=>by
  have hk' : (if k = 0 then some x else none) = some b:=hk;split at hk'
  . omega
  . cases hk') st0 (by rw [hwr];exact hrel) (λk hk=>⟨if_neg (by omega),zZ _ _ _ (by omega)⟩)).mono λen w' he=>?_
 obtain ⟨v,r',y,Hf,nf,rfl,⟨hfin,hent'⟩,st,_,hy,_⟩:=he;have hr0 : r' 0 = some x:=st.pin 0 x (show (if 0 = 0 then some x else none) = some x from if_pos rfl);have hren : ∀ k,Wc.ren ⟨Hf,[(0,some e')],[],1,true⟩ r' k = at0 (some x) k:=λk=>by
  unfold Wc.ren Wc.src at0;simp only [zAG];by_cases hk : k = 0
  . subst hk;have h2 : Nat.blt 0 1 = true:=rfl;simp [h2,hr0]
  . have h2 : Nat.blt k 1 = false:=by
     cases hb : Nat.blt k 1 with
     | false=>rfl
     | true=>have:=Nat.le_of_ble_eq_true hb;omega
    simp [h2,hk]
 have hren : Wc.ren ⟨Hf,[(0,some e')],[],1,true⟩ r' = at0 (some x):=funext hren;unfold WkE at hent';simp only at hent';split at hent'
 . rename_i e2 hh;have hlive : Wc.Live ⟨Hf,[(0,some e')],[],1,true⟩:=λk e1 he1 k0 hk0'=>by
    have hk : k = 0:=by
     by_cases hk : k = 0
     . exact hk
     . have : zX [(0,some e')] k = none:=zZ _ _ _ hk;have he1' : zX [(0,some e')] k = some e1:=he1;rw [this] at he1';cases he1'
    subst hk;have : Wc.src ⟨Hf,[(0,some e')],[],1,true⟩ 0 = some 0:=rfl;rw [this] at hk0';injection hk0' with hk0';subst hk0';exact ⟨e2,hh⟩
   have hwr2 : ∀ b,orB X (some x) b -> Wc.wr ⟨Hf,[(0,some e')],[],1,true⟩ ⟨w,λb=>b = x.b,λb=>b = x.b,X,at0 (some x)⟩ r' b:=λb hb=>by
    rcases hb with hb | ⟨z,hz,hzb⟩
    . exact .inr ⟨rfl,hb⟩
    . injection hz with hz;subst hz;exact .inl ⟨0,e',x,zn _ _ _ _,by rw [hren];exact if_pos rfl,hzb⟩
   refine ⟨v,rfl,st.os,st.tape,st.output,st.size,λb hb hne=>st.kept b hb hne,?_,?_⟩
   . exact (st.blk 0 e2 hh).map hent'.t hent'.n hent'.sz hent'.v hr0 (λ_ _=>rfl) λi hi j' hj u hu=>by
      have h1:=hent'.f i hi j' hj hlive _ r' w' u st hu;exact CV.rel_w hwr2 _ _ (hnf i (by rw [<- hent'.n];exact hi) j' (by rw [<- hent'.sz];exact hj) _ _ _ _ _ _ h1)
   . have h1:=hfin hlive _ r' w' v st hy;exact FV.rel_w hwr2 _ _ (hval _ _ _ _ _ _ h1)
 . exact hent'.elim
end
theorem xw_more {X Y : Nat -> Prop} {w : World} (h : Xw X w) (hY : ∀ b,Y b -> X b) : Xw Y w:=⟨λb hb=>h.1 b (hY b hb),zCa h.2 λp _ hp=>hY _ hp⟩
theorem zF4 {P : Program} {f : FuncId} (hb : zAJ P f) {k : Nat} {s : Bool} {rest rest' : List FV} {H : Hp} {rd : List Nat} {nm wd : Nat} {e e' : Ent} {val : FV} (hk : zX H k = some e) (hv : e.v = true) (hkr : k ∉ rd) (hnf : ∀ i,i < e.n -> ∀ j,j < e.sz -> NF (e.f i j))
 (hbo : ∀ H',(∀ k ∈ rd,zX H k = zX H' k) -> BoL H' rd rest rest') (h : YE P f rest' e val e') (he' : e'.v = true) : zC0 P f (.e (.c (.ptr k 0 0 s)) :: rest) H nm wd ⟨none,val,[(k,some e')],k :: rd⟩:=by
 refine ⟨hb,λH' hh cx r w vals st hfr _ hrel=>?_⟩;obtain ⟨h1,h2⟩:=hbo H' (λk hk=>hh k (List.mem_cons_of_mem _ hk));have hk' : zX H' k = some e:=by rw [<- hh k (List.mem_cons_self ..)];exact hk
 obtain ⟨g1,g2,g3⟩:=st.blk k e hk';rcases g3 with ⟨_,g4⟩ | ⟨x,cs,c1,c2,c3,c4,c5,c6⟩ | ⟨hfit,_⟩
 . have:=g2 hv;omega
 . obtain ⟨d1,d2,d3⟩:=st.dom k x c1;have hXx : ¬ (cx.X x.b \/ zB6 r H' [k] x.b):=by
    rintro (hX | ⟨k2,e2,y,he2,hy,hyb,hne⟩)
    . exact d3 hX
    . have:=st.inj k2 k e2 e y x he2 hk' hy c1 hyb;exact hne (by rw [this];exact List.mem_singleton.2 rfl)
   have hsubX : ∀ b,(cx.X b \/ zB6 r H' [k] b) -> cx.X b \/ wr r H' b:=by
    rintro b (hX | ⟨k2,e2,y,he2,hy,hyb,_⟩)
    . exact .inl hX
    . exact .inr ⟨k2,e2,y,he2,hy,hyb⟩
   have hsubW : ∀ b,b = x.b -> wr r H' b:=λb hb=>⟨k,e,x,hk',c1,hb.symm⟩;have hXlt : Xw (λb=>(cx.X b \/ zB6 r H' [k] b) \/ b = x.b) w:=xw_more (st_xw st) λb hb=>hb.elim (hsubX b) λh=>.inr (hsubW b h);refine (h (λb=>cx.X b \/ zB6 r H' [k] b) w x vals d1 hXx hXlt ?_ ⟨by rw [hrel.1];simp [h1],λi y u hy hu=>?_⟩).mono λen w' he=>?_
   . refine ⟨g1,g2,.inr (.inl ⟨x,cs,rfl,c2,c3,c4,c5,λi hi j hj u hu=>?_⟩)⟩;exact CV.rel_sub hsubX hsubW _ _ (hnf i hi j hj _ _ _ _ _ _ (c6 i hi j hj u hu))
   . cases i with
     | zero=>
       simp only [List.getElem?_cons_zero,Option.some.injEq] at hy;subst hy;obtain ⟨z,hz,hzv⟩:=hrel.2 0 _ u rfl hu;have hz1:=hz.1;rw [c1] at hz1;injection hz1 with hz1;subst hz1;exact ⟨x,⟨if_pos rfl,hz.2⟩,hzv⟩
     | succ i=>
       have hy' : rest'[i]? = some y:=by simpa using hy
       have hi : i < rest.length:=by rw [h1];exact (List.getElem?_eq_some_iff.1 hy').1
       have h3:=h2 i _ y (List.getElem?_eq_getElem hi) hy' cx r w u st (hrel.2 (i + 1) _ u (by simp [List.getElem?_eq_getElem hi]) hu);have h4 : y.rel (at0 (some x)) (λb=>cx.X b \/ wr r H' b) (zB6 r H' rd) w u:=FV.rel_ext ⟨λ_ _ h=>(by cases h),Nat.le_refl _,λ_ _ _=>rfl,λ_ _ h=>h⟩ _ _ h3;have h5 : y.rel (at0 (some x)) (λb=>cx.X b \/ wr r H' b) (λb=>b = x.b) w u:=FV.rel_w (λb hb=>⟨k,e,x,hk',c1,hb.symm,hkr⟩) _ _ h4;cases y with
       | top=>trivial
       | e y=>
         cases y with
         | c y=>exact CV.rel_sub (λb hb=>.inl (hsubX b hb)) (λb hb=>hb) _ _ h5
         | agg n g=>obtain ⟨cs',e1,e2,e3⟩:=h5;exact ⟨cs',e1,e2,λi u hu=>CV.rel_sub (λb hb=>.inl (hsubX b hb)) (λb hb=>hb) _ _ (e3 i u hu)⟩
       | tup l=>
         obtain ⟨vs,e1,e2,e3⟩:=h5;refine ⟨vs,e1,e2,λi z u hz hu=>?_⟩;have:=e3 i z u hz hu;cases z with
         | c z=>exact CV.rel_sub (λb hb=>.inl (hsubX b hb)) (λb hb=>hb) _ _ this
         | agg n g=>obtain ⟨cs',e1,e2,e3⟩:=this;exact ⟨cs',e1,e2,λi u hu=>CV.rel_sub (λb hb=>.inl (hsubX b hb)) (λb hb=>hb) _ _ (e3 i u hu)⟩
   . obtain ⟨v,rfl,o1,o2,o3,o4,o5,o6,o7⟩:=he;have hY : ∀ b,cx.X b \/ wr r H' b -> orB (λb=>cx.X b \/ zB6 r H' [k] b) (some x) b:=by
      rintro b (hX | ⟨k2,e2,y,he2,hy,hyb⟩)
      . exact .inl (.inl hX)
      . by_cases hk2 : k2 = k
        . subst hk2;rw [c1] at hy;injection hy with hy;subst hy;exact .inr ⟨x,rfl,hyb⟩
        . exact .inl (.inr ⟨k2,e2,y,he2,hy,hyb,λhm=>hk2 (List.mem_singleton.1 hm)⟩)
     have hl0 : zX ((k,some e') :: H') k = some e':=zn _ _ _ _;have hl : ∀ j,j ≠ k -> zX ((k,some e') :: H') j = zX H' j:=λj hj=>zZ _ _ _ hj;have live : ∀ j e1,zX ((k,some e') :: H') j = some e1 -> ∃ e2,zX H' j = some e2:=λj e1 hj=>by
      by_cases hjk : j = k
      . subst hjk;exact ⟨e,hk'⟩
      . rw [hl j hjk] at hj;exact ⟨e1,hj⟩
     have hwr2 : ∀ b,wr r ((k,some e') :: H') b -> wr r H' b:=by
      rintro b ⟨j,e1,y,h1,h2,h3⟩;obtain ⟨e2,h1⟩:=live j e1 h1;exact ⟨j,e2,y,h1,h2,h3⟩
     have hE : Ext r (wr r H') w r (wr r ((k,some e') :: H')) w':=⟨λ_ _ h=>h,o4,λb hb hw=>o5 b hb λhbx=>hw ⟨k,e,x,hk',c1,hbx.symm⟩,λb _ hb=>hwr2 b hb⟩;refine ⟨v,rfl,r,hE,⟨o1.trans st.os,o2.trans st.tape,o3.trans st.output,Nat.le_trans st.size o4,λb hb hne=>?_,st.xlt,λj y hy=>?_,λj e1 y hj hy=>?_,λn m e1 e2 y z h1 h2 hy hz hyz=>?_,st.pin,λj e1 hj=>?_⟩,λ_ _=>rfl,λj e1 hj=>.inr (live j e1 hj),?_⟩
     . rw [<- st.kept b hb hne];refine o5 b (Nat.lt_of_lt_of_le hb st.size) λhbx=>?_;rcases st.ow k e x hk' c1 with h | h
       . omega
       . exact hne (hbx ▸ h)
     . obtain ⟨a1,a2,a3⟩:=st.dom j y hy;exact ⟨Nat.lt_of_lt_of_le a1 o4,a2,a3⟩
     . obtain ⟨e2,hj⟩:=live j e1 hj;exact st.ow j e2 y hj hy
     . obtain ⟨e1',h1⟩:=live n e1 h1;obtain ⟨e2',h2⟩:=live m e2 h2;exact st.inj n m e1' e2' y z h1 h2 hy hz hyz
     . have hj' : zX ((k,some e') :: H') j = some e1:=hj;by_cases hjk : j = k
       . subst hjk;rw [hl0] at hj';injection hj' with hj';subst hj';rw [c1];exact o6.map rfl rfl rfl rfl rfl (λ_ _=>rfl) λi _ q _ u hu=>CV.rel_into (λb hb=>hY b (.inl hb)) (λb hb=>hY b (.inr (hwr2 b hb))) _ _ hu
       . rw [hl j hjk] at hj';have hold:=st.old hj' rfl (w':=w') λy hy=>o5 _ (st.dom j y hy).1 λhyx=>hjk (st.inj j k e1 e y x hj' hk' hy c1 hyx);exact hold.ext hE
     . exact FV.rel_into (λb hb=>hY b (.inl hb)) (λb hb=>hY b (.inr (hwr2 b hb))) _ _ o7
 . have hf : e.v = false:=hfit.1;rw [hv] at hf;cases hf
def Ya : CV -> Int
 | .int _ n=>n
 | _=>0
def valB : CV -> Bool
 | .bool b=>b
 | _=>false
def isK (k : IntKind) : CV -> Bool
 | .int k' _=>YR k k'
 | _=>false
def isB : CV -> Bool
 | .bool _=>true
 | _=>false
theorem Qc {k : IntKind} {x : CV} (h : isK k x = true) : x = .int k (Ya x):=by
 unfold isK at h;split at h
 . rename_i k' n;have : k = k':=by simpa [YR] using h
   subst this;rfl
 . cases h
theorem isB_eq {x : CV} (h : isB x = true) : x = .bool (valB x):=by
 unfold isB at h;split at h
 . rfl
 . cases h
def okA (k : IntKind) (g : Nat -> CV) (o : Nat) : Nat -> Bool
 | 0=>true
 | n + 1=>isK k (g (o + n)) && okA k g o n
theorem okA_at {k : IntKind} {g : Nat -> CV} {o : Nat} : ∀ {n : Nat},okA k g o n = true -> ∀ i,i < n -> g (o + i) = .int k (Ya (g (o + i))):=by
 intro n;induction n with
 | zero=>intro _ i h;omega
 | succ n ih=>
   intro h i hi;simp only [okA,Bool.and_eq_true] at h;by_cases he : i = n
   . subst he;exact Qc h.1
   . exact ih h.2 i (by omega)
def gi (k : IntKind) : CV -> Option Int
 | .int k' n=>bif YR k k' then some n else none
 | _=>none
theorem gi_eq {k : IntKind} {x : CV} {n : Int} (h : gi k x = some n) : x = .int k n:=by
 unfold gi at h;split at h
 . rename_i k' m;cases hk : YR k k' with
   | false=>rw [hk] at h;cases h
   | true=>
     rw [hk,cond_true] at h;injection h with h;have : k = k':=by simpa [YR] using hk
     rw [h,this]
 . cases h
def gb : CV -> Option Bool
 | .bool b=>some b
 | _=>none
theorem gb_eq {x : CV} {b : Bool} (h : gb x = some b) : x = .bool b:=by
 unfold gb at h;split at h
 . injection h with h;rw [h]
 . cases h
def gc : FV -> Option CV
 | .e (.c x)=>some x
 | _=>none
theorem gc_eq {x : FV} {y : CV} (h : gc x = some y) : x = .e (.c y):=by
 unfold gc at h;split at h
 . injection h with h;rw [h]
 . cases h
def ga (m : Nat) : FV -> Option (Nat -> CV)
 | .e (.agg n f)=>bif Nat.beq n m then some f else none
 | _=>none
theorem ga_eq {m : Nat} {x : FV} {f : Nat -> CV} (h : ga m x = some f) : x = .e (.agg m f):=by
 unfold ga at h;split at h
 . rename_i n g;cases hb : Nat.beq n m with
   | false=>rw [hb] at h;cases h
   | true=>
     rw [hb,cond_true] at h;injection h with h;rw [h,Nat.eq_of_beq_eq_true hb]
 . cases h
theorem bind_some {α β : Type} {x : Option α} {f : α -> Option β} {b : β} (h : (x.bind f) = some b) : ∃ a,x = some a /\ f a = some b:=by
 cases x with
 | none=>cases h
 | some a=>exact ⟨a,rfl,h⟩
def zBw (x : CV) : Prop:=∀ r r' X X' W W' w w' v,x.rel r X W w v -> x.rel r' X' W' w' v
theorem Qz {k : IntKind} {a : Int} : zBw (.int k a):=λ_ _ _ _ _ _ _ _ _ h=>h
theorem flat_bool {a : Bool} : zBw (.bool a):=λ_ _ _ _ _ _ _ _ _ h=>h
theorem zBw.nf {x : CV} (h : zBw x) : NF x:=λr r' X W w v hx=>h _ _ _ _ _ _ _ _ _ hx
theorem zBw.cl {x : CV} (h : zBw x) : Cl x:=λc _ _ cx r w v _ hx=>h _ _ _ _ _ _ _ _ _ hx
theorem zBw.le {c : Wc} {x : CV} (h : zBw x) : Zu c x x:=λ_ cx r w v _ hx=>h _ _ _ _ _ _ _ _ _ hx
structure Elem (α : Type) where
 sz : Nat
 cell : α -> Nat -> CV
 rd : (Nat -> CV) -> α
 ok : (Nat -> CV) -> Bool
 ok_eq : ∀ g,ok g = true -> ∀ j,j < sz -> g j = cell (rd g) j
 flat : ∀ a j,zBw (cell a j)
def eI (k : IntKind) : Elem Int where
 sz:=1
 cell a _:=.int k a
 rd g:=Ya (g 0)
 ok g:=isK k (g 0)
 ok_eq g h j hj:=by have : j = 0:=by omega
                    subst this;exact Qc h
 flat _ _:=Qz
def vget {n : Nat} (a : Fin n -> Int) (j : Nat) : Int:=if h : j < n then a ⟨j,h⟩ else 0
theorem vget_lt {n : Nat} (a : Fin n -> Int) {j : Nat} (h : j < n) : vget a j = a ⟨j,h⟩:=dif_pos h
def eA (k : IntKind) (n : Nat) : Elem (Fin n -> Int) where
 sz:=n
 cell a j:=.int k (vget a j)
 rd g:=λq=>Ya (g q.1)
 ok g:=okA k g 0 n
 ok_eq g h j hj:=by
  have:=okA_at h j hj;rw [Nat.zero_add] at this;rw [vget_lt _ hj];exact this
 flat _ _:=Qz
theorem Zd {c : Wc} {b : Bool} {x y z : CV} (hb : b = false) (h : Zu c y z) : Zu c (Zp b x y) z:=by rw [QS,hb];exact h
theorem ZU {c : Wc} {b : Bool} {x y z : CV} (hb : b = true) (h : Zu c x z) : Zu c (Zp b x y) z:=by rw [QS,hb];exact h
def cI (k : IntKind) : Codec Int where
 enc n:=.e (.c (.int k n))
 dec _ x:=(gc x).bind λy=>(gi k y).bind λn=>some (n,none,[])
 sound H H' x a p rd h _ _:=by
  obtain ⟨y,h1,h⟩:=bind_some h;obtain ⟨n,h2,h⟩:=bind_some h;injection h with h;injection h with h h';injection h' with h' h'';subst h h'';rw [gc_eq h1,gi_eq h2];exact λcx r w v _ hx=>hx
def cB : Codec Bool where
 enc n:=.e (.c (.bool n))
 dec _ x:=(gc x).bind λy=>(gb y).bind λn=>some (n,none,[])
 sound H H' x a p rd h _ _:=by
  obtain ⟨y,h1,h⟩:=bind_some h;obtain ⟨n,h2,h⟩:=bind_some h;injection h with h;injection h with h h';injection h' with h' h'';subst h h'';rw [gc_eq h1,gb_eq h2];exact λcx r w v _ hx=>hx
theorem bo_agg {H : Hp} {rd : List Nat} {n : Nat} {f g : Nat -> CV} (hg : ∀ j,j < n -> f j = g j) (hf : ∀ j,zBw (g j)) : Bo H rd (.e (.agg n f)) (.e (.agg n g)):=by
 rintro cx r w v _ ⟨cs,rfl,h1,h2⟩;refine ⟨cs,rfl,h1,λi u hu=>?_⟩;have hi : i < n:=by rw [<- h1];exact (Array.getElem?_eq_some_iff.1 hu).1
 have:=h2 i u hu;rw [hg i hi] at this;exact hf i _ _ _ _ _ _ _ _ _ this
def cE {α : Type} (E : Elem α) : Codec α where
 enc a:=.e (.agg E.sz (E.cell a))
 dec _ x:=(ga E.sz x).bind λf=>bif E.ok f then some (E.rd f,none,[]) else none
 sound H H' x a p rd h _ _:=by
  obtain ⟨f,h1,h⟩:=bind_some h;obtain ⟨hk,h⟩:=qZ h;injection h with h h';injection h' with h' h'';subst h h'';rw [ga_eq h1];exact bo_agg (E.ok_eq f hk) (E.flat _)
def QG {α : Type} [Inhabited α] (E : Elem α) (l : List α) (i j : Nat) : CV:=E.cell (l.getD i default) j
def toL {α : Type} (E : Elem α) (n : Nat) (g : Nat -> Nat -> CV) : List α:=(List.range n).map λi=>E.rd (g i)
theorem zDI {α : Type} (E : Elem α) (n : Nat) (g : Nat -> Nat -> CV) : (toL E n g).length = n:=by simp [toL]
theorem zEk {α : Type} [Inhabited α] {E : Elem α} {n : Nat} {g : Nat -> Nat -> CV} {i : Nat} (h : i < n) : (toL E n g).getD i default = E.rd (g i):=by simp [toL,h]
theorem bo_sl {α : Type} [Inhabited α] {E : Elem α} {H : Hp} {x : FV} {n : Nat} {g : Nat -> Nat -> CV} {p : Option Prop} {rd : List Nat} (hsz : 0 < E.sz) (h : zAg H E.sz x = some ⟨n,g,p,rd⟩) (hp : Qh p) (hok : ∀ i,i < n -> E.ok (g i) = true) :
 Bo H rd x (.e (.c (.sl false (toL E n g).length E.sz (QG E (toL E n g))))):=by
 intro cx r w v st hx;rw [zDI];have key : ∀ i,i < n -> ∀ j,j < E.sz -> QG E (toL E n g) i j = g i j:=λi hi j hj=>by
  unfold QG;rw [zEk hi];exact (E.ok_eq _ (hok i hi) j hj).symm
 unfold zAg at h;split at h
 . rename_i sh n' s f;obtain ⟨hb,h⟩:=qZ h;injection h with h1 h2 h3 h4;subst h1 h2 h3 h4;obtain ⟨a,cap,rfl,c1,c2⟩:=hx;refine ⟨a,cap,rfl,c1,λh0=>?_⟩;obtain ⟨ad,rfl,hs,ho,hX,hlt,hc⟩:=c2 h0;refine ⟨ad,rfl,hs,λ⟨k,e,x,q1,q2,q3,_⟩=>ho ⟨k,e,x,q1,q2,q3⟩,(λh=>by cases h),hlt,λi hi j hj=>?_⟩;have hsE : s = E.sz:=Nat.eq_of_beq_eq_true hb;subst hsE;obtain ⟨u,hu,hr⟩:=hc i hi j hj;refine ⟨u,hu,?_⟩;rw [<- key i hi j hj] at hr;exact E.flat _ _ _ _ _ _ _ _ _ _ _ hr
 . injection h with h;injection h with h1 h2 h3 h4;subst h1 h2 h3 h4;have : v = .slice none 0 0:=hx;subst this;exact ⟨none,0,rfl,Nat.le_refl _,λh=>absurd h (Nat.lt_irrefl _)⟩
 . rename_i k i n';split at h
   . rename_i et en es ev f he;obtain ⟨hb,h⟩:=qZ h;injection h with h1 h2 h3 h4;subst h1 h2 h3 h4;have hsE : es = E.sz:=Nat.eq_of_beq_eq_true hb;subst hsE;obtain ⟨a,cap,rfl,c1,c2⟩:=hx;refine ⟨a,cap,rfl,c1,λh0=>?_⟩;obtain ⟨x,hx,rfl,_⟩:=c2 (by omega);have hp' : i + n' <= en:=hp;obtain ⟨_,_,hxs,_⟩:=Yp st he hx;simp only at hxs;refine ⟨⟨x.b,i * x.sz,none⟩,rfl,rfl,?_,(λh=>by cases h),(st.dom k x hx.1).1,λq hq j hj=>?_⟩
     . rintro ⟨k2,e2,y,q1,q2,q3,q4⟩;have:=st.inj k2 k e2 _ y x q1 he q2 hx.1 q3;exact q4 (by rw [this];exact List.mem_singleton.2 rfl)
     . obtain ⟨u,hu,hr⟩:=YK st he hx (i:=i + q) (j:=j) (show i + q < en by omega) hj;refine ⟨u,?_,?_⟩
       . rw [<- hu];show w.cell? ⟨x.b,i * x.sz + (q * E.sz + j),none⟩ = _;rw [show i * x.sz + (q * E.sz + j) = (i + q) * x.sz + j by rw [hxs,Nat.add_mul];omega]
       . have:=key q hq j hj;rw [this];have hr' : (f (i + q) j).rel r cx.X (wr r H) w u:=hr;have e2 : f (i + q) j = E.cell (E.rd (f (i + q))) j:=E.ok_eq _ (hok q hq) j hj;rw [e2] at hr';show CV.rel _ _ _ w (f (i + q) j) u;rw [e2];exact E.flat _ _ _ _ _ _ _ _ _ _ _ hr'
   . cases h
 . rename_i k i j0 n' s;split at h
   . rename_i et en es ev f he;obtain ⟨hb,h⟩:=qZ h;injection h with h1 h2 h3 h4;subst h1 h2 h3 h4;have hsE : s = E.sz:=Nat.eq_of_beq_eq_true hb;subst hsE;obtain ⟨a,cap,rfl,c1,c2⟩:=hx;refine ⟨a,cap,rfl,c1,λh0=>?_⟩;obtain ⟨x,hx,rfl⟩:=c2 h0;have hp' : i < en /\ j0 + n' * E.sz <= es:=hp;refine ⟨⟨x.b,i * x.sz + j0,none⟩,rfl,rfl,?_,(λh=>by cases h),(st.dom k x hx.1).1,λq hq j hj=>?_⟩
     . rintro ⟨k2,e2,y,q1,q2,q3,q4⟩;have:=st.inj k2 k e2 _ y x q1 he q2 hx.1 q3;exact q4 (by rw [this];exact List.mem_singleton.2 rfl)
     . have hlt : q * E.sz + j < n' * E.sz:=by have:=Qd (sz:=E.sz) hq;omega
       obtain ⟨u,hu,hr⟩:=YK st he hx (i:=i) (j:=j0 + (q * E.sz + j)) (show i < en from hp'.1) (show j0 + (q * E.sz + j) < es by omega);refine ⟨u,?_,?_⟩
       . rw [<- hu];show w.cell? ⟨x.b,i * x.sz + j0 + (q * E.sz + j),none⟩ = _;rw [Nat.add_assoc]
       . have:=key q hq j hj;rw [this];have hr' : (f i (j0 + (q * E.sz + j))).rel r cx.X (wr r H) w u:=hr;have e2 : f i (j0 + (q * E.sz + j)) = E.cell (E.rd λt=>f i (j0 + (q * E.sz + t))) j:=E.ok_eq _ (hok q hq) j hj;rw [e2] at hr';show CV.rel _ _ _ w (f i (j0 + (q * E.sz + j))) u;rw [e2];exact E.flat _ _ _ _ _ _ _ _ _ _ _ hr'
   . cases h
 . cases h
def cSl {α : Type} [Inhabited α] (E : Elem α) (hsz : 0 < E.sz) : Codec (List α) where
 enc l:=.e (.c (.sl false l.length E.sz (QG E l)))
 dec H x:=match zAg H E.sz x with
  | some ⟨n,g,p,rd⟩=>some (toL E n g,zBX p (some (∀ i,i < n -> E.ok (g i) = true)),rd)
  | none=>none
 sound H H' x a p rd h hp hh:=by
  split at h
  . rename_i n g q rd' hs;injection h with h;injection h with h h';injection h' with h' h'';subst h h' h'';obtain ⟨h1,h2⟩:=YV.1 hp;exact bo_sl hsz (Yv hs hh) h1 h2
  . cases h
def slR {α : Type} [Inhabited α] (E : Elem α) (l : List α) : CV:=.sl true l.length E.sz (QG E l)
def Qy {α : Type} [Inhabited α] (E : Elem α) (l : List α) : CV:=.sl false l.length E.sz (QG E l)
def zA0 {α : Type} [Inhabited α] (E : Elem α) (t : TypeId) (l : List α) : Ent:=⟨t,l.length,E.sz,false,QG E l⟩
theorem Ye {α : Type} [Inhabited α] {E : Elem α} (hE : ∀ a,E.rd (E.cell a) = a) (l : List α) : toL E l.length (QG E l) = l:=by
 apply List.ext_getElem
 . simp [toL]
 . intro i h1 h2;simp only [toL,List.getElem_map,List.getElem_range];have : QG E l i = E.cell (l.getD i default):=rfl;rw [this,hE];simp [List.getD_eq_getElem?_getD,List.getElem?_eq_getElem h2]
theorem row_nf {α : Type} [Inhabited α] (E : Elem α) (l : List α) (i j : Nat) : NF (QG E l i j):=(E.flat _ _).nf
theorem zO {α : Type} [Inhabited α] (E : Elem α) (l : List α) : Cl (.sl false l.length E.sz (QG E l)):=cl_sl λi _ j _=>(E.flat _ _).cl
theorem cl_slR {α : Type} [Inhabited α] (E : Elem α) (l : List α) : Cl (.sl true l.length E.sz (QG E l)):=cl_sl λi _ j _=>(E.flat _ _).cl
end Go.Proofs.Ytfaibcgakcmhcaa.AX
namespace Go.Proofs.Ytfaibcgakcmhcaa.AX
def tyO : List (Nat × Option TI):=[
 (1,some ⟨.other,1,[.top],[],8⟩),
 (2,some ⟨.int .i64,1,[.int .i64 0],[],8⟩),
 (3,some ⟨.int .i64,1,[.int .i64 0],[],8⟩),
 (4,some ⟨.bool,1,[.bool false],[],1⟩),
 (5,some ⟨.int .u8,1,[.int .u8 0],[],1⟩),
 (6,some ⟨.int .u8,1,[.int .u8 0],[],1⟩),
 (7,some ⟨.struct [(0,1,some false),(1,1,some false),(2,1,some false),(3,1,some false)],4,[.int .i64 0,.int .i64 0,.bool false,.int .u8 0],[],24⟩),
 (8,some ⟨.struct [(0,1,some false),(1,1,some false),(2,1,some false),(3,1,some false)],4,[.int .i64 0,.int .i64 0,.bool false,.int .u8 0],[],24⟩),
 (12,some ⟨.int .u64,1,[.int .u64 0],[],8⟩),
 (13,some ⟨.struct [(0,1,some false),(1,1,some false)],2,[.top,.int .u64 0],[],24⟩),
 (14,some ⟨.struct [(0,1,some false),(1,1,some false)],2,[.top,.int .u64 0],[],24⟩),
 (15,some ⟨.ptr 120,1,[.nilp],[],8⟩),
 (16,some ⟨.ptr 123,1,[.nilp],[],8⟩),
 (17,some ⟨.ptr 132,1,[.nilp],[],8⟩),
 (18,some ⟨.struct [(0,1,some false)],1,[.nilp],[],8⟩),
 (19,some ⟨.struct [(0,1,some false)],1,[.nilp],[],8⟩),
 (21,some ⟨.int .i32,1,[.int .i32 0],[],4⟩),
 (22,some ⟨.slice 3 1 true,1,[.nils],[],24⟩),
 (23,some ⟨.ptr 72,1,[.nilp],[],8⟩),
 (24,some ⟨.other,1,[.top],[],8⟩),
 (25,some ⟨.slice 78 3 true,1,[.nils],[],24⟩),
 (26,some ⟨.slice 37 2 true,1,[.nils],[],24⟩),
 (27,some ⟨.int .u64,1,[.int .u64 0],[],8⟩),
 (28,some ⟨.int .u64,1,[.int .u64 0],[],8⟩),
 (29,some ⟨.other,1,[.top],[],8⟩),
 (30,some ⟨.slice 5 1 true,1,[.nils],[],24⟩),
 (31,some ⟨.struct [(0,1,some false),(1,1,some false),(2,1,some false)],3,[.int .u64 0,.int .i64 0,.nils],[],40⟩),
 (32,some ⟨.struct [(0,1,some false),(1,1,some false),(2,1,some false)],3,[.int .u64 0,.int .i64 0,.nils],[],40⟩),
 (33,some ⟨.int .i64,1,[.int .i64 0],[],8⟩),
 (36,some ⟨.int .u32,1,[.int .u32 0],[],4⟩),
 (37,some ⟨.arr 2 3 1 (some false),2,[.int .i64 0,.int .i64 0],[false,false],16⟩),
 (38,some ⟨.other,1,[.top],[],8⟩),
 (39,some ⟨.other,1,[.top],[],8⟩),
 (41,some ⟨.other,1,[.top],[],8⟩),
 (42,some ⟨.other,1,[.top],[],8⟩),
 (43,some ⟨.other,1,[.top],[],8⟩),
 (45,some ⟨.other,1,[.top],[],8⟩),
 (48,some ⟨.other,1,[.top],[],8⟩),
 (49,some ⟨.arr 64 4 1 (some false),64,[.bool false,.bool false,.bool false,.bool false,.bool false,.bool false,.bool false,.bool false,.bool false,.bool false,.bool false,.bool false,.bool false,.bool false,.bool false,.bool false,.bool false,.bool false,.bool false,.bool false,.bool false,.bool false,.bool false,.bool false,.bool false,.bool false,.bool false,.bool false,.bool false,.bool false,.bool false,.bool false,.bool false,.bool false,.bool false,.bool false,.bool false,.bool false,.bool false,.bool false,.bool false,.bool false,.bool false,.bool false,.bool false,.bool false,.bool false,.bool false,.bool false,.bool false,.bool false,.bool false,.bool false,.bool false,.bool false,.bool false,.bool false,.bool false,.bool false,.bool false,.bool false,.bool false,.bool false,.bool false],[true,true,true,true,true,true,true,true,true,true,true,true,true,true,true,true,true,true,true,true,true,true,true,true,true,true,true,true,true,true,true,true,true,true,true,true,true,true,true,true,true,true,true,true,true,true,true,true,true,true,true,true,true,true,true,true,true,true,true,true,true,true,true,true],64⟩),
 (50,some ⟨.arr 6 49 64 (some true),384,List.replicate 384 (.bool false),[],384⟩),
 (51,some ⟨.slice 32 3 true,1,[.nils],[],24⟩),
 (53,some ⟨.other,1,[.top],[],8⟩),
 (54,some ⟨.other,1,[.top],[],8⟩),
 (55,some ⟨.other,1,[.top],[],8⟩),
 (56,some ⟨.slice 60 3 true,1,[.nils],[],24⟩),
 (57,some ⟨.other,1,[.top],[],8⟩),
 (58,some ⟨.other,1,[.top],[],8⟩),
 (59,some ⟨.struct [(0,1,some false),(1,1,some false),(2,1,some false)],3,[.int .u64 0,.int .i64 0,.int .u32 0],[false,false,false],24⟩),
 (60,some ⟨.struct [(0,1,some false),(1,1,some false),(2,1,some false)],3,[.int .u64 0,.int .i64 0,.int .u32 0],[false,false,false],24⟩),
 (62,some ⟨.other,1,[.top],[],8⟩),
 (64,some ⟨.other,1,[.top],[],8⟩),
 (65,some ⟨.slice 25 1 true,1,[.nils],[],24⟩),
 (66,some ⟨.arr 8 3 1 (some false),8,[.int .i64 0,.int .i64 0,.int .i64 0,.int .i64 0,.int .i64 0,.int .i64 0,.int .i64 0,.int .i64 0],[false,false,false,false,false,false,false,false],64⟩),
 (67,some ⟨.other,1,[.top],[],8⟩),
 (68,some ⟨.arr 8 51 1 (some false),8,[.nils,.nils,.nils,.nils,.nils,.nils,.nils,.nils],[],192⟩),
 (69,some ⟨.other,1,[.top],[],8⟩),
 (72,some ⟨.struct [(0,1,some false),(1,1,some false)],2,[.nils,.int .i64 0],[],32⟩),
 (76,some ⟨.slice 85 11 true,1,[.nils],[],24⟩),
 (77,some ⟨.struct [(0,1,some false),(1,1,some false),(2,1,some false)],3,[.int .u64 0,.int .i64 0,.nils],[],40⟩),
 (78,some ⟨.struct [(0,1,some false),(1,1,some false),(2,1,some false)],3,[.int .u64 0,.int .i64 0,.nils],[],40⟩),
 (79,some ⟨.ptr 78,1,[.nilp],[],8⟩),
 (82,some ⟨.struct [(0,1,some false),(1,1,some false),(2,1,some false),(3,1,some false),(4,1,some false),(5,1,some false),(6,1,some false),(7,1,some false)],8,[.int .i64 0,.int .i64 0,.int .i64 0,.int .i64 0,.int .i64 0,.int .i64 0,.int .i64 0,.bool false],[false,false,false,false,false,false,false,true],64⟩),
 (84,some ⟨.struct [(0,1,some false),(1,1,some false),(2,8,some true),(10,1,some false)],11,[.int .i64 0,.nils,.int .i64 0,.int .i64 0,.int .i64 0,.int .i64 0,.int .i64 0,.int .i64 0,.int .i64 0,.bool false,.int .i64 0],[],104⟩),
 (85,some ⟨.struct [(0,1,some false),(1,1,some false),(2,8,some true),(10,1,some false)],11,[.int .i64 0,.nils,.int .i64 0,.int .i64 0,.int .i64 0,.int .i64 0,.int .i64 0,.int .i64 0,.int .i64 0,.bool false,.int .i64 0],[],104⟩),
 (86,some ⟨.other,1,[.top],[],8⟩),
 (88,some ⟨.other,1,[.top],[],8⟩),
 (91,some ⟨.other,1,[.top],[],8⟩),
 (92,some ⟨.ptr 85,1,[.nilp],[],8⟩),
 (96,some ⟨.other,1,[.top],[],8⟩),
 (97,some ⟨.int .u64,1,[.int .u64 0],[],8⟩),
 (101,some ⟨.other,1,[.top],[],8⟩),
 (105,some ⟨.other,1,[.top],[],8⟩),
 (106,some ⟨.other,1,[.top],[],8⟩),
 (112,some ⟨.other,1,[.top],[],8⟩),
 (113,some ⟨.other,1,[.top],[],8⟩),
 (114,some ⟨.other,1,[.top],[],8⟩),
 (116,some ⟨.other,1,[.top],[],8⟩),
 (119,some ⟨.struct [(0,1,some false),(1,1,some false),(2,1,some false),(3,1,some false)],4,[.nilp,.nilp,.nilp,.top],[],40⟩),
 (120,some ⟨.struct [(0,1,some false),(1,1,some false),(2,1,some false),(3,1,some false)],4,[.nilp,.nilp,.nilp,.top],[],40⟩),
 (123,some ⟨.struct [(0,0,some true)],0,[],[],0⟩),
 (128,some ⟨.ptr 5,1,[.nilp],[],8⟩)]
def T : YU:=λt=>qu none tyO t
def zDs (P : Program) : List (Nat × Option TI) -> Prop
 | []=>True
 | (_,none) :: rest=>zDs P rest
 | (t,some ti) :: rest=>ZI P t ti /\ zDs P rest
theorem zDs.at {P : Program} : ∀ {l : List (Nat × Option TI)},zDs P l -> ∀ t ti,qu none l t = some ti -> ZI P t ti:=by
 intro l;induction l with
 | nil=>intro _ t ti h;cases h
 | cons p l ih=>
   obtain ⟨k,x⟩:=p;intro h t ti ht;by_cases hk : t = k
   . subst hk;rw [zn] at ht;subst ht;exact h.1
   . rw [zZ _ _ _ hk] at ht;cases x with
     | none=>exact ih h t ti ht
     | some y=>exact ih h.2 t ti ht
theorem ty1 : ZI Try.prog 1 ⟨.other,1,[.top],[],8⟩:=⟨by kernel_rfl,by kernel_rfl,by kernel_rfl⟩
theorem ty2 : ZI Try.prog 2 ⟨.int .i64,1,[.int .i64 0],[],8⟩:=⟨by kernel_rfl,by kernel_rfl,by kernel_rfl⟩
theorem ty3 : ZI Try.prog 3 ⟨.int .i64,1,[.int .i64 0],[],8⟩:=⟨by kernel_rfl,by kernel_rfl,by kernel_rfl⟩
theorem ty4 : ZI Try.prog 4 ⟨.bool,1,[.bool false],[],1⟩:=⟨by kernel_rfl,by kernel_rfl,by kernel_rfl⟩
theorem ty5 : ZI Try.prog 5 ⟨.int .u8,1,[.int .u8 0],[],1⟩:=⟨by kernel_rfl,by kernel_rfl,by kernel_rfl⟩
theorem ty6 : ZI Try.prog 6 ⟨.int .u8,1,[.int .u8 0],[],1⟩:=⟨by kernel_rfl,by kernel_rfl,by kernel_rfl⟩
theorem ty7 : ZI Try.prog 7 ⟨.struct [(0,1,some false),(1,1,some false),(2,1,some false),(3,1,some false)],4,[.int .i64 0,.int .i64 0,.bool false,.int .u8 0],[],24⟩:=⟨by kernel_rfl,by kernel_rfl,by kernel_rfl⟩
theorem ty8 : ZI Try.prog 8 ⟨.struct [(0,1,some false),(1,1,some false),(2,1,some false),(3,1,some false)],4,[.int .i64 0,.int .i64 0,.bool false,.int .u8 0],[],24⟩:=⟨by kernel_rfl,by kernel_rfl,by kernel_rfl⟩
theorem ty12 : ZI Try.prog 12 ⟨.int .u64,1,[.int .u64 0],[],8⟩:=⟨by kernel_rfl,by kernel_rfl,by kernel_rfl⟩
theorem ty13 : ZI Try.prog 13 ⟨.struct [(0,1,some false),(1,1,some false)],2,[.top,.int .u64 0],[],24⟩:=⟨by kernel_rfl,by kernel_rfl,by kernel_rfl⟩
theorem ty14 : ZI Try.prog 14 ⟨.struct [(0,1,some false),(1,1,some false)],2,[.top,.int .u64 0],[],24⟩:=⟨by kernel_rfl,by kernel_rfl,by kernel_rfl⟩
theorem ty15 : ZI Try.prog 15 ⟨.ptr 120,1,[.nilp],[],8⟩:=⟨by kernel_rfl,by kernel_rfl,by kernel_rfl⟩
theorem ty16 : ZI Try.prog 16 ⟨.ptr 123,1,[.nilp],[],8⟩:=⟨by kernel_rfl,by kernel_rfl,by kernel_rfl⟩
theorem ty17 : ZI Try.prog 17 ⟨.ptr 132,1,[.nilp],[],8⟩:=⟨by kernel_rfl,by kernel_rfl,by kernel_rfl⟩
theorem ty18 : ZI Try.prog 18 ⟨.struct [(0,1,some false)],1,[.nilp],[],8⟩:=⟨by kernel_rfl,by kernel_rfl,by kernel_rfl⟩
theorem ty19 : ZI Try.prog 19 ⟨.struct [(0,1,some false)],1,[.nilp],[],8⟩:=⟨by kernel_rfl,by kernel_rfl,by kernel_rfl⟩
theorem ty21 : ZI Try.prog 21 ⟨.int .i32,1,[.int .i32 0],[],4⟩:=⟨by kernel_rfl,by kernel_rfl,by kernel_rfl⟩
theorem ty22 : ZI Try.prog 22 ⟨.slice 3 1 true,1,[.nils],[],24⟩:=⟨by kernel_rfl,by kernel_rfl,by kernel_rfl⟩
theorem ty23 : ZI Try.prog 23 ⟨.ptr 72,1,[.nilp],[],8⟩:=⟨by kernel_rfl,by kernel_rfl,by kernel_rfl⟩
theorem ty24 : ZI Try.prog 24 ⟨.other,1,[.top],[],8⟩:=⟨by kernel_rfl,by kernel_rfl,by kernel_rfl⟩
theorem ty25 : ZI Try.prog 25 ⟨.slice 78 3 true,1,[.nils],[],24⟩:=⟨by kernel_rfl,by kernel_rfl,by kernel_rfl⟩
theorem ty26 : ZI Try.prog 26 ⟨.slice 37 2 true,1,[.nils],[],24⟩:=⟨by kernel_rfl,by kernel_rfl,by kernel_rfl⟩
theorem ty27 : ZI Try.prog 27 ⟨.int .u64,1,[.int .u64 0],[],8⟩:=⟨by kernel_rfl,by kernel_rfl,by kernel_rfl⟩
theorem ty28 : ZI Try.prog 28 ⟨.int .u64,1,[.int .u64 0],[],8⟩:=⟨by kernel_rfl,by kernel_rfl,by kernel_rfl⟩
theorem ty29 : ZI Try.prog 29 ⟨.other,1,[.top],[],8⟩:=⟨by kernel_rfl,by kernel_rfl,by kernel_rfl⟩
theorem ty30 : ZI Try.prog 30 ⟨.slice 5 1 true,1,[.nils],[],24⟩:=⟨by kernel_rfl,by kernel_rfl,by kernel_rfl⟩
theorem ty31 : ZI Try.prog 31 ⟨.struct [(0,1,some false),(1,1,some false),(2,1,some false)],3,[.int .u64 0,.int .i64 0,.nils],[],40⟩:=⟨by kernel_rfl,by kernel_rfl,by kernel_rfl⟩
theorem ty32 : ZI Try.prog 32 ⟨.struct [(0,1,some false),(1,1,some false),(2,1,some false)],3,[.int .u64 0,.int .i64 0,.nils],[],40⟩:=⟨by kernel_rfl,by kernel_rfl,by kernel_rfl⟩
theorem ty33 : ZI Try.prog 33 ⟨.int .i64,1,[.int .i64 0],[],8⟩:=⟨by kernel_rfl,by kernel_rfl,by kernel_rfl⟩
theorem ty36 : ZI Try.prog 36 ⟨.int .u32,1,[.int .u32 0],[],4⟩:=⟨by kernel_rfl,by kernel_rfl,by kernel_rfl⟩
theorem ty37 : ZI Try.prog 37 ⟨.arr 2 3 1 (some false),2,[.int .i64 0,.int .i64 0],[false,false],16⟩:=⟨by kernel_rfl,by kernel_rfl,by kernel_rfl⟩
theorem ty38 : ZI Try.prog 38 ⟨.other,1,[.top],[],8⟩:=⟨by kernel_rfl,by kernel_rfl,by kernel_rfl⟩
theorem ty39 : ZI Try.prog 39 ⟨.other,1,[.top],[],8⟩:=⟨by kernel_rfl,by kernel_rfl,by kernel_rfl⟩
theorem ty41 : ZI Try.prog 41 ⟨.other,1,[.top],[],8⟩:=⟨by kernel_rfl,by kernel_rfl,by kernel_rfl⟩
theorem ty42 : ZI Try.prog 42 ⟨.other,1,[.top],[],8⟩:=⟨by kernel_rfl,by kernel_rfl,by kernel_rfl⟩
theorem ty43 : ZI Try.prog 43 ⟨.other,1,[.top],[],8⟩:=⟨by kernel_rfl,by kernel_rfl,by kernel_rfl⟩
theorem ty45 : ZI Try.prog 45 ⟨.other,1,[.top],[],8⟩:=⟨by kernel_rfl,by kernel_rfl,by kernel_rfl⟩
theorem ty48 : ZI Try.prog 48 ⟨.other,1,[.top],[],8⟩:=⟨by kernel_rfl,by kernel_rfl,by kernel_rfl⟩
theorem ty49 : ZI Try.prog 49 ⟨.arr 64 4 1 (some false),64,[.bool false,.bool false,.bool false,.bool false,.bool false,.bool false,.bool false,.bool false,.bool false,.bool false,.bool false,.bool false,.bool false,.bool false,.bool false,.bool false,.bool false,.bool false,.bool false,.bool false,.bool false,.bool false,.bool false,.bool false,.bool false,.bool false,.bool false,.bool false,.bool false,.bool false,.bool false,.bool false,.bool false,.bool false,.bool false,.bool false,.bool false,.bool false,.bool false,.bool false,.bool false,.bool false,.bool false,.bool false,.bool false,.bool false,.bool false,.bool false,.bool false,.bool false,.bool false,.bool false,.bool false,.bool false,.bool false,.bool false,.bool false,.bool false,.bool false,.bool false,.bool false,.bool false,.bool false,.bool false],[true,true,true,true,true,true,true,true,true,true,true,true,true,true,true,true,true,true,true,true,true,true,true,true,true,true,true,true,true,true,true,true,true,true,true,true,true,true,true,true,true,true,true,true,true,true,true,true,true,true,true,true,true,true,true,true,true,true,true,true,true,true,true,true],64⟩:=⟨by kernel_rfl,by kernel_rfl,by kernel_rfl⟩
theorem ty50 : ZI Try.prog 50 ⟨.arr 6 49 64 (some true),384,List.replicate 384 (.bool false),[],384⟩:=⟨by kernel_rfl,by kernel_rfl,by kernel_rfl⟩
theorem ty51 : ZI Try.prog 51 ⟨.slice 32 3 true,1,[.nils],[],24⟩:=⟨by kernel_rfl,by kernel_rfl,by kernel_rfl⟩
theorem ty53 : ZI Try.prog 53 ⟨.other,1,[.top],[],8⟩:=⟨by kernel_rfl,by kernel_rfl,by kernel_rfl⟩
theorem ty54 : ZI Try.prog 54 ⟨.other,1,[.top],[],8⟩:=⟨by kernel_rfl,by kernel_rfl,by kernel_rfl⟩
theorem ty55 : ZI Try.prog 55 ⟨.other,1,[.top],[],8⟩:=⟨by kernel_rfl,by kernel_rfl,by kernel_rfl⟩
theorem ty56 : ZI Try.prog 56 ⟨.slice 60 3 true,1,[.nils],[],24⟩:=⟨by kernel_rfl,by kernel_rfl,by kernel_rfl⟩
theorem ty57 : ZI Try.prog 57 ⟨.other,1,[.top],[],8⟩:=⟨by kernel_rfl,by kernel_rfl,by kernel_rfl⟩
theorem ty58 : ZI Try.prog 58 ⟨.other,1,[.top],[],8⟩:=⟨by kernel_rfl,by kernel_rfl,by kernel_rfl⟩
theorem ty59 : ZI Try.prog 59 ⟨.struct [(0,1,some false),(1,1,some false),(2,1,some false)],3,[.int .u64 0,.int .i64 0,.int .u32 0],[false,false,false],24⟩:=⟨by kernel_rfl,by kernel_rfl,by kernel_rfl⟩
theorem ty60 : ZI Try.prog 60 ⟨.struct [(0,1,some false),(1,1,some false),(2,1,some false)],3,[.int .u64 0,.int .i64 0,.int .u32 0],[false,false,false],24⟩:=⟨by kernel_rfl,by kernel_rfl,by kernel_rfl⟩
theorem ty62 : ZI Try.prog 62 ⟨.other,1,[.top],[],8⟩:=⟨by kernel_rfl,by kernel_rfl,by kernel_rfl⟩
theorem ty64 : ZI Try.prog 64 ⟨.other,1,[.top],[],8⟩:=⟨by kernel_rfl,by kernel_rfl,by kernel_rfl⟩
theorem ty65 : ZI Try.prog 65 ⟨.slice 25 1 true,1,[.nils],[],24⟩:=⟨by kernel_rfl,by kernel_rfl,by kernel_rfl⟩
theorem ty66 : ZI Try.prog 66 ⟨.arr 8 3 1 (some false),8,[.int .i64 0,.int .i64 0,.int .i64 0,.int .i64 0,.int .i64 0,.int .i64 0,.int .i64 0,.int .i64 0],[false,false,false,false,false,false,false,false],64⟩:=⟨by kernel_rfl,by kernel_rfl,by kernel_rfl⟩
theorem ty67 : ZI Try.prog 67 ⟨.other,1,[.top],[],8⟩:=⟨by kernel_rfl,by kernel_rfl,by kernel_rfl⟩
theorem ty68 : ZI Try.prog 68 ⟨.arr 8 51 1 (some false),8,[.nils,.nils,.nils,.nils,.nils,.nils,.nils,.nils],[],192⟩:=⟨by kernel_rfl,by kernel_rfl,by kernel_rfl⟩
theorem ty69 : ZI Try.prog 69 ⟨.other,1,[.top],[],8⟩:=⟨by kernel_rfl,by kernel_rfl,by kernel_rfl⟩
theorem ty72 : ZI Try.prog 72 ⟨.struct [(0,1,some false),(1,1,some false)],2,[.nils,.int .i64 0],[],32⟩:=⟨by kernel_rfl,by kernel_rfl,by kernel_rfl⟩
theorem ty76 : ZI Try.prog 76 ⟨.slice 85 11 true,1,[.nils],[],24⟩:=⟨by kernel_rfl,by kernel_rfl,by kernel_rfl⟩
theorem ty77 : ZI Try.prog 77 ⟨.struct [(0,1,some false),(1,1,some false),(2,1,some false)],3,[.int .u64 0,.int .i64 0,.nils],[],40⟩:=⟨by kernel_rfl,by kernel_rfl,by kernel_rfl⟩
theorem ty78 : ZI Try.prog 78 ⟨.struct [(0,1,some false),(1,1,some false),(2,1,some false)],3,[.int .u64 0,.int .i64 0,.nils],[],40⟩:=⟨by kernel_rfl,by kernel_rfl,by kernel_rfl⟩
theorem ty79 : ZI Try.prog 79 ⟨.ptr 78,1,[.nilp],[],8⟩:=⟨by kernel_rfl,by kernel_rfl,by kernel_rfl⟩
theorem ty82 : ZI Try.prog 82 ⟨.struct [(0,1,some false),(1,1,some false),(2,1,some false),(3,1,some false),(4,1,some false),(5,1,some false),(6,1,some false),(7,1,some false)],8,[.int .i64 0,.int .i64 0,.int .i64 0,.int .i64 0,.int .i64 0,.int .i64 0,.int .i64 0,.bool false],[false,false,false,false,false,false,false,true],64⟩:=⟨by kernel_rfl,by kernel_rfl,by kernel_rfl⟩
theorem ty84 : ZI Try.prog 84 ⟨.struct [(0,1,some false),(1,1,some false),(2,8,some true),(10,1,some false)],11,[.int .i64 0,.nils,.int .i64 0,.int .i64 0,.int .i64 0,.int .i64 0,.int .i64 0,.int .i64 0,.int .i64 0,.bool false,.int .i64 0],[],104⟩:=⟨by kernel_rfl,by kernel_rfl,by kernel_rfl⟩
theorem ty85 : ZI Try.prog 85 ⟨.struct [(0,1,some false),(1,1,some false),(2,8,some true),(10,1,some false)],11,[.int .i64 0,.nils,.int .i64 0,.int .i64 0,.int .i64 0,.int .i64 0,.int .i64 0,.int .i64 0,.int .i64 0,.bool false,.int .i64 0],[],104⟩:=⟨by kernel_rfl,by kernel_rfl,by kernel_rfl⟩
theorem ty86 : ZI Try.prog 86 ⟨.other,1,[.top],[],8⟩:=⟨by kernel_rfl,by kernel_rfl,by kernel_rfl⟩
theorem ty88 : ZI Try.prog 88 ⟨.other,1,[.top],[],8⟩:=⟨by kernel_rfl,by kernel_rfl,by kernel_rfl⟩
theorem ty91 : ZI Try.prog 91 ⟨.other,1,[.top],[],8⟩:=⟨by kernel_rfl,by kernel_rfl,by kernel_rfl⟩
theorem ty92 : ZI Try.prog 92 ⟨.ptr 85,1,[.nilp],[],8⟩:=⟨by kernel_rfl,by kernel_rfl,by kernel_rfl⟩
theorem ty96 : ZI Try.prog 96 ⟨.other,1,[.top],[],8⟩:=⟨by kernel_rfl,by kernel_rfl,by kernel_rfl⟩
theorem ty97 : ZI Try.prog 97 ⟨.int .u64,1,[.int .u64 0],[],8⟩:=⟨by kernel_rfl,by kernel_rfl,by kernel_rfl⟩
theorem ty101 : ZI Try.prog 101 ⟨.other,1,[.top],[],8⟩:=⟨by kernel_rfl,by kernel_rfl,by kernel_rfl⟩
theorem ty105 : ZI Try.prog 105 ⟨.other,1,[.top],[],8⟩:=⟨by kernel_rfl,by kernel_rfl,by kernel_rfl⟩
theorem ty106 : ZI Try.prog 106 ⟨.other,1,[.top],[],8⟩:=⟨by kernel_rfl,by kernel_rfl,by kernel_rfl⟩
theorem ty112 : ZI Try.prog 112 ⟨.other,1,[.top],[],8⟩:=⟨by kernel_rfl,by kernel_rfl,by kernel_rfl⟩
theorem ty113 : ZI Try.prog 113 ⟨.other,1,[.top],[],8⟩:=⟨by kernel_rfl,by kernel_rfl,by kernel_rfl⟩
theorem ty114 : ZI Try.prog 114 ⟨.other,1,[.top],[],8⟩:=⟨by kernel_rfl,by kernel_rfl,by kernel_rfl⟩
theorem ty116 : ZI Try.prog 116 ⟨.other,1,[.top],[],8⟩:=⟨by kernel_rfl,by kernel_rfl,by kernel_rfl⟩
theorem ty119 : ZI Try.prog 119 ⟨.struct [(0,1,some false),(1,1,some false),(2,1,some false),(3,1,some false)],4,[.nilp,.nilp,.nilp,.top],[],40⟩:=⟨by kernel_rfl,by kernel_rfl,by kernel_rfl⟩
theorem ty120 : ZI Try.prog 120 ⟨.struct [(0,1,some false),(1,1,some false),(2,1,some false),(3,1,some false)],4,[.nilp,.nilp,.nilp,.top],[],40⟩:=⟨by kernel_rfl,by kernel_rfl,by kernel_rfl⟩
theorem ty123 : ZI Try.prog 123 ⟨.struct [(0,0,some true)],0,[],[],0⟩:=⟨by kernel_rfl,by kernel_rfl,by kernel_rfl⟩
theorem ty128 : ZI Try.prog 128 ⟨.ptr 5,1,[.nilp],[],8⟩:=⟨by kernel_rfl,by kernel_rfl,by kernel_rfl⟩
theorem zN : qP Try.prog T:=(show zDs Try.prog tyO from ⟨ty1,ty2,ty3,ty4,ty5,ty6,ty7,ty8,ty12,ty13,ty14,ty15,ty16,ty17,ty18,ty19,ty21,ty22,ty23,ty24,ty25,ty26,ty27,ty28,ty29,ty30,ty31,ty32,ty33,ty36,ty37,ty38,ty39,ty41,ty42,ty43,ty45,ty48,ty49,ty50,ty51,ty53,ty54,ty55,ty56,ty57,ty58,ty59,ty60,ty62,ty64,ty65,ty66,ty67,ty68,ty69,ty72,ty76,ty77,ty78,ty79,ty82,ty84,ty85,ty86,ty88,ty91,ty92,ty96,ty97,ty101,ty105,ty106,ty112,ty113,ty114,ty116,ty119,ty120,ty123,ty128,trivial⟩).at
theorem zP : Try.prog.follows .mixedOrders = true:=by kernel_rfl
end Go.Proofs.Ytfaibcgakcmhcaa.AX
namespace Go.Proofs.Ytfaibcgakcmhcaa.AX
open Go.RowKit
def LE0 : CsL:=[]
theorem qC : qV Try.prog LE0:=trivial
theorem zF2 {f g : Nat -> CV} : ∀ {n off : Nat},ZF f g n off = true ↔ ∀ i,i < n -> zA5 (f (off + i)) (g (off + i)) = true:=by
 intro n;induction n with
 | zero=>intro off;simp [ZF]
 | succ n ih=>
   intro off;simp only [ZF,Bool.and_eq_true,ih];constructor
   . rintro ⟨h1,h2⟩ i hi;cases i with
     | zero=>exact h1
     | succ i=>have:=h2 i (by omega);rw [show off + 1 + i = off + (i + 1) by omega] at this;exact this
   . intro h;refine ⟨h 0 (by omega),λi hi=>?_⟩;have:=h (i + 1) (by omega);rw [show off + 1 + i = off + (i + 1) by omega];exact this
theorem leC_eq {c : Wc} {x y z : CV} (h : Zu c x y) (e : y = z) : Zu c x z:=e ▸ h
theorem qL {α : Type} [Inhabited α] {l : List α} {i : Nat} (h : i < l.length) : l.drop i = l.getD i default :: l.drop (i + 1):=by
 rw [List.drop_eq_getElem_cons h,List.getD_eq_getElem?_getD,List.getElem?_eq_getElem h];rfl
theorem Zt (n : Nat) : Nat.blt n n = false:=by
 cases hb : Nat.blt n n with
 | false=>rfl
 | true=>have:=Nat.le_of_ble_eq_true hb;omega
theorem zDV {c : Wc} {t : TypeId} {α : Type} [Inhabited α] {E : Elem α} {L : List α} {x : α} {n : Nat} {f : Nat -> Nat -> CV} (hn : n = L.length + 1) (h1 : ∀ i,i < L.length -> ∀ j,j < E.sz -> Zu c (f i j) (QG E L i j)) (h2 : zCz E.sz λj=>Zu c (f L.length j) (E.cell x j)) :
 LeN c ⟨t,n,E.sz,false,f⟩ (zA0 E t (L ++ [x])):=by
 refine ⟨rfl,by simp [zA0,hn],rfl,rfl,λi hi j hj=>?_⟩;have hi' : i < n:=hi;show Zu c (f i j) (E.cell ((L ++ [x]).getD i default) j);by_cases h : i < L.length
 . have : (L ++ [x]).getD i default = L.getD i default:=by
    simp [List.getD_eq_getElem?_getD,List.getElem?_append_left h]
   rw [this];exact h1 i h j hj
 . have hi2 : i = L.length:=by omega
   subst hi2;have : (L ++ [x]).getD L.length default = x:=by simp [List.getD_eq_getElem?_getD]
   rw [this];exact zDX h2 j hj
theorem zCx {c : Wc} {k : Nat} {t : TypeId} {α : Type} [Inhabited α] {E : Elem α} {L : List α} (he : zX c.H k = some (zA0 E t L)) (hd : c.dead k = true) : Zu c (.os k 0 L.length) (slR E L):=
 ZQ he hd rfl rfl (by simp [zA0]) λq _ j _=>by rw [Nat.zero_add];exact (E.flat _ _).le
theorem zBM {c : Wc} {t : TypeId} {α : Type} [Inhabited α] {E : Elem α} {L : List α} : LeN c (zA0 E t L) (zA0 E t L):=zEm rfl λ_ _ _ _=>(E.flat _ _).le
theorem beq_of {a b : Nat} (h : a = b) : Nat.beq a b = true:=by subst h;simp
theorem zAz {a b : Nat} (h : a ≠ b) : Nat.beq a b = false:=by
 cases hb : Nat.beq a b with
 | false=>rfl
 | true=>exact absurd (Nat.eq_of_beq_eq_true hb) h
theorem YH {c : Wc} {α : Type} {E : Elem α} {a b : α} {j : Nat} (h : a = b) : Zu c (E.cell a j) (E.cell b j):=by rw [h];exact (E.flat _ _).le
theorem blt_lt {a b : Nat} (h : a < b) : Nat.blt a b = true:=Nat.ble_eq_true_of_le h
theorem blt_zero (n : Nat) : Nat.blt n 0 = false:=rfl
def qM (n : Nat) (f : Nat -> Nat -> CV) (q : Int) : Ent:=⟨72,1,2,true,λ_ j=>bif Nat.beq j 0 then .sl true n 1 f else .int .i64 q⟩
abbrev rI (l : List Int) : Nat -> Nat -> CV:=QG (eI .i64) l
def rngL (l : List Int) : Prop:=∀ i,-9223372036854775808 <= l.getD i default /\ l.getD i default <= 9223372036854775807
structure TapeOk (n : Nat) (f : Nat -> Nat -> CV) (q : Int) : Prop where
 len : n <= 400
 lo : 0 <= q
 hi : q <= n
 row : ∃ l : List Int,f = rI l /\ rngL l
theorem TapeOk.at {n : Nat} {f : Nat -> Nat -> CV} {q q' : Int} (h : TapeOk n f q) (h1 : 0 <= q') (h2 : q' <= n) : TapeOk n f q':=⟨h.len,h1,h2,h.row⟩
theorem ZW {c : Wc} {n : Nat} {l : List Int} {q : Int} : LeN c (qM n (rI l) q) (qM n (rI l) q):=
 zA3 ⟨⟨trivial,Yo (λ_=>rfl) rfl rfl λi _ j _=>zC rfl⟩,zC rfl⟩
theorem TapeOk.le {c : Wc} {n : Nat} {f : Nat -> Nat -> CV} {q : Int} (h : TapeOk n f q) : LeN c (qM n f q) (qM n f q):=by
 obtain ⟨_,_,_,l,rfl,_⟩:=h;exact ZW
theorem zFc {n : Nat} {l : List Int} {q : Int} : ∀ i,i < (qM n (rI l) q).n -> ∀ j,j < (qM n (rI l) q).sz -> NF ((qM n (rI l) q).f i j):=by
 intro i _ j _;show NF (bif Nat.beq j 0 then _ else _);cases Nat.beq j 0 with
 | true=>exact zD9 λi _ j _=>zA1
 | false=>exact zA1
theorem zGH {P : Program} {fid : FuncId} {rest : List FV} {n : Nat} {f : Nat -> Nat -> CV} {q : Int} {g : Nat -> Nat -> CV} {val : FV} {e' : Ent} (h0 : g 0 0 = .sl true n 1 f) (h1 : g 0 1 = .int .i64 q) (h : YE P fid rest (qM n f q) val e') : YE P fid rest ⟨72,1,2,true,g⟩ val e':=by
 intro X w x vals a1 a2 a3 hent hrel;refine h X w x vals a1 a2 a3 ?_ hrel;refine hent.map rfl rfl rfl rfl rfl (λ_ _=>rfl) λi hi j hj u hu=>?_;have hi' : i < 1:=hi;have hj' : j < 2:=hj;have e0 : i = 0:=by omega
 subst e0;rcases (show j = 0 \/ j = 1 by omega) with rfl | rfl
 . have t : (CV.sl true n 1 f).rel (λ_=>none) X (λb=>b = x.b) w u:=by rw [<- h0];exact hu
   exact t
 . have t : (CV.int .i64 q).rel (λ_=>none) X (λb=>b = x.b) w u:=by rw [<- h1];exact hu
   exact t
def zAc {α R : Type} (A : AC α) (p : α -> Prop) (S : α -> R -> Prop) (enc : R -> FV) : Zk:=λargs H _ _=>
 match args with
 | .e (.c (.ptr k 0 0 _)) :: rest=>
   match zX H k with
   | some ⟨t,en,es,v,g⟩=>
     match g 0 0,g 0 1 with
     | .sl true n s f,.int .i64 q=>
       match A.dec H rest with
       | some (a,pq,rd)=>bif Nat.beq t 72 && Nat.beq en 1 && Nat.beq es 2 && v && Nat.beq s 1 && !(rd.any (Nat.beq k)) then
          some λK=>pAnd pq ((TapeOk n f q /\ p a) /\ ∀ r,S a r -> ∀ q',TapeOk n f q' -> K (enc r) [(k,some (qM n f q'))] (k :: rd)) else none
       | none=>none
     | _,_=>none
   | none=>none
 | _=>none
theorem Qp {α R : Type} {A : AC α} {p : α -> Prop} {S : α -> R -> Prop} {enc : R -> FV} {P : Program} {f : FuncId} (hb : zAJ P f)
 (h : ∀ n l q a,TapeOk n (rI l) q -> p a -> ∃ r q',S a r /\ TapeOk n (rI l) q' /\ YE P f (A.enc a) (qM n (rI l) q) (enc r) (qM n (rI l) q')) : EntOk P f (zAc A p S enc):=by
 refine ⟨λargs H nm wd q _ hq K hK=>?_,λargs H nm wd q hq K K' hKK hK=>?_⟩
 . unfold zAc at hq;split at hq
   . rename_i k s rest;split at hq
     . rename_i t en es v g he;split at hq
       . rename_i n s f q0 hg0 hg1;split at hq
         . rename_i a pr rd hd;obtain ⟨hc,hq⟩:=qZ hq;subst hq;simp only [Bool.and_eq_true,Bool.not_eq_true'] at hc;obtain ⟨⟨⟨⟨⟨c1,c2⟩,c3⟩,c4⟩,c5⟩,c6⟩:=hc;have c1:=Nat.eq_of_beq_eq_true c1;have c2:=Nat.eq_of_beq_eq_true c2;have c3:=Nat.eq_of_beq_eq_true c3;have c5:=Nat.eq_of_beq_eq_true c5;subst c1 c2 c3 c4 c5;have hkr : k ∉ rd:=λhm=>by
            have : rd.any (Nat.beq k) = true:=List.any_eq_true.2 ⟨k,hm,by simp⟩;rw [c6] at this;cases this
           obtain ⟨h1,⟨h2,h2'⟩,h3⟩:=YA.1 hK;obtain ⟨l,rfl,hl⟩:=h2.row;obtain ⟨r,q',g1,g2,g3⟩:=h n l q0 a h2 h2';refine ⟨_,_,_,zF4 hb he rfl hkr ?_ (λH' hh=>A.sound H H' rest a pr rd hd h1 hh) (zGH hg0 hg1 g3) rfl,h3 _ g1 _ g2⟩;intro i hi j hj;have hi' : i < 1:=hi;have hj' : j < 2:=hj;have e0 : i = 0:=by omega
           subst e0;rcases (show j = 0 \/ j = 1 by omega) with rfl | rfl
           . show NF (g 0 0);rw [hg0];exact zD9 λi _ j _=>zA1
           . show NF (g 0 1);rw [hg1];exact zA1
         . cases hq
       . cases hq
     . cases hq
   . cases hq
 . unfold zAc at hq;split at hq
   . split at hq
     . split at hq
       . split at hq
         . obtain ⟨hc,hq⟩:=qZ hq;subst hq;obtain ⟨h1,h2,h3⟩:=YA.1 hK;exact YA.2 ⟨h1,h2,λr hr q' hq'=>hKK _ _ _ (h3 r hr q' hq')⟩
         . cases hq
       . cases hq
     . cases hq
   . cases hq
section
variable {P : Program} {T : YU} {Q : Qs} {wd : Nat}
theorem qw (hwd : 0 < wd) (hT : qP P T) (hQ : zBI P Q) (hm : P.follows .mixedOrders = true) {f : FuncId} {fn : Func} {c : Code} (hf : P.funcs[f]? = some fn) (hb : fn.body = some c) (rest : List FV) (hn : rest.length + 1 <= fn.ntmps) {n : Nat} {l : List Int} {q : Int} {R : Type} {S : R -> Prop} {enc : R -> FV} (hnf : ∀ r,NFF (enc r))
 (h : qR T Q wd fn.ntmps 1 c (Yn (.e (.c (.ptr 0 0 0 false)) :: rest) 0) [(0,some (qM n (rI l) q))] 1 (qQ T fn.results.toList λx H _=>∃ r : R × Int,(S r.1 /\ TapeOk n (rI l) r.2) /\ FinM (enc r.1) (qM n (rI l) r.2) x H)) :
 ∃ r q',S r /\ TapeOk n (rI l) q' /\ YE P f rest (qM n (rI l) q) (enc r) (qM n (rI l) q'):=by
 obtain ⟨⟨r,q'⟩,h1,h2⟩:=zEV (α:=R × Int) (post:=λa x H _=>FinM (enc a.1) (qM n (rI l) a.2) x H) (S:=λa=>S a.1 /\ TapeOk n (rI l) a.2) hwd hQ h;exact ⟨r,q',h1.1,h1.2,zF3 hwd hT (QR_ok P) hm hf hb rest hn (hnf r) zFc h2⟩
end
theorem zCR {k : IntKind} {a : Int} : NFF (.e (.c (.int k a))):=λ_ _ _ _ _ _ h=>h
theorem nff_bool {a : Bool} : NFF (.e (.c (.bool a))):=λ_ _ _ _ _ _ h=>h
theorem nff_c {x : CV} (h : NF x) : NFF (.e (.c x)):=h
theorem nff_elem {α : Type} (E : Elem α) (a : α) : NFF (.e (.agg E.sz (E.cell a))):=by
 rintro r r' X W w v ⟨cs,rfl,h1,h2⟩;exact ⟨cs,rfl,h1,λi u hu=>(E.flat _ _).nf _ _ _ _ _ _ (h2 i u hu)⟩
theorem zDv (x m : Int) (h : 1 <= m) : -m < x.tmod m /\ x.tmod m < m:=by
 have h1:=Int.tmod_lt_of_pos x (show 0 < m by omega);have h2:=Int.tmod_lt_of_pos (-x) (show 0 < m by omega);rw [Int.neg_tmod] at h2;omega
theorem next_ok (n : Nat) (l : List Int) (q m : Int) (ht : TapeOk n (rI l) q) (h1 : 1 <= m) (h2 : m <= 4611686018427387904) :
 ∃ r q',(0 <= r /\ r < m) /\ TapeOk n (rI l) q' /\ YE Try.prog 10 [(cI .i64).enc m] (qM n (rI l) q) ((cI .i64).enc r) (qM n (rI l) q'):=by
 refine qw (wd:=1) (by decide) zN (zb qC) zP Try.func10 rfl _ (by show 1 + 1 <= _;decide) (λ_=>zCR) ?_;have a1:=ht.len;have a2:=ht.lo;have a3:=ht.hi;have a5:=zDv (l.getD q.toNat default) m h1;repeat' (first | (apply And.intro<;>intro hc<;>(first | exact Bool.noConfusion hc | (simp only [zb0] at hc) | skip)) | (refine And.intro zp0 ?_) | (apply And.intro) | (intro s hs))
 . exact ⟨(0,q),⟨⟨by omega,by omega⟩,ht⟩,⟨zB rfl,ZW⟩⟩
 . refine ⟨((l.getD q.toNat default).tmod m + m,q + 1),⟨⟨by omega,by omega⟩,ht.at (by omega) (by omega)⟩,⟨zB ?_,zA3 ⟨⟨trivial,Yo (λ_=>rfl) rfl rfl λi _ j _=>zC rfl⟩,zC ?_⟩⟩⟩
   . exact IntWalk.i64_in _ (by omega)
   . exact IntWalk.i64_in _ (by omega)
 . refine ⟨((l.getD q.toNat default).tmod m,q + 1),⟨⟨by omega,by omega⟩,ht.at (by omega) (by omega)⟩,⟨zB ?_,zA3 ⟨⟨trivial,Yo (λ_=>rfl) rfl rfl λi _ j _=>zC rfl⟩,zC ?_⟩⟩⟩
   . rfl
   . exact IntWalk.i64_in _ (by omega)
def modF (v n : Int) : Int:=if v.tmod n < 0 then v.tmod n + n else v.tmod n
theorem mod_ok (v n : Int) (h1 : 1 <= n) (h2 : n <= 4611686018427387904) : Ze Try.prog 27 [(cI .i64).enc v,(cI .i64).enc n] ((cI .i64).enc (modF v n)):=by
 have a5:=zDv v n h1;refine zt (wd:=1) (by decide) zN (zb qC) zP Try.func27 rfl _ (by show 2 <= _;decide) _ ?_;repeat' (first | (apply And.intro<;>intro hc<;>(first | exact Bool.noConfusion hc | (simp only [zb0] at hc) | skip)) | (refine And.intro zp0 ?_) | (apply And.intro) | (intro s hs))
 . refine Done.mk (zB ?_);rw [modF,if_pos hc];exact IntWalk.i64_in _ (by omega)
 . refine Done.mk (zB ?_);rw [modF,if_neg hc]
abbrev nextE : Zk:=zAc (AC.cons (cI .i64) AC.nil) (λa=>1 <= a.1 /\ a.1 <= 4611686018427387904) (λa (r : Int)=>0 <= r /\ r < a.1) (cI .i64).enc
def LT0 : CsL:=(10,some nextE) :: (27,some (qr (AC.cons (cI .i64) (AC.cons (cI .i64) AC.nil)) (λa=>1 <= a.2.1 /\ a.2.1 <= 4611686018427387904) (λa=>modF a.1 a.2.1) (cI .i64).enc)) :: []
theorem zE7 : qV Try.prog LT0:=⟨Qp ⟨_,Try.func10,rfl,by kernel_rfl⟩ λn l q a ht hp=>next_ok n l q a.1 ht hp.1 hp.2,zx ⟨_,Try.func27,rfl,by kernel_rfl⟩ λa h=>mod_ok a.1 a.2.1 h.1 h.2,trivial⟩
theorem bool_ok (n : Nat) (l : List Int) (q m : Int) (ht : TapeOk n (rI l) q) (h1 : 1 <= m) (h2 : m <= 4611686018427387904) :
 ∃ (r : Bool) (q' : Int),True /\ TapeOk n (rI l) q' /\ YE Try.prog 19 [(cI .i64).enc m] (qM n (rI l) q) (cB.enc r) (qM n (rI l) q'):=by
 refine qw (wd:=1) (by decide) zN (zb zE7) zP Try.func19 rfl _ (by show 1 + 1 <= _;decide) (λ_=>nff_bool) ?_;repeat' (first | (apply And.intro<;>intro hc<;>(first | exact Bool.noConfusion hc | (simp only [zb0] at hc) | skip)) | (refine And.intro zj ?_) | (apply And.intro) | (intro s hs))
 . exact ⟨(_,_),⟨trivial,by assumption⟩,⟨zG rfl,ZW⟩⟩
theorem bo_shI {H : Hp} {n : Nat} {l : List Int} : Bo H [] (.e (.c (.sl true n 1 (rI l)))) (.e (.c (.sl true n 1 (rI l)))):=by
 rintro cx r w v st ⟨a,cap,rfl,h1,h2⟩;refine ⟨a,cap,rfl,h1,λh0=>?_⟩;obtain ⟨ad,rfl,hs,ho,hX,hlt,hc⟩:=h2 h0;refine ⟨ad,rfl,hs,λ⟨k,e,x,q1,q2,q3,_⟩=>ho ⟨k,e,x,q1,q2,q3⟩,λ_ h=>h.elim (hX rfl) ho,hlt,λi hi j hj=>?_⟩;obtain ⟨u,hu,hr⟩:=hc i hi j hj;exact ⟨u,hu,hr⟩
theorem new_ok (n : Nat) (l : List Int) : zBG Try.prog 9 [.e (.c (.sl true n 1 (rI l)))] none none (qM (min n 400) (rI l) 0):=by
 refine zBh (wd:=1) (by decide) zN (zb qC) zP Try.func9 rfl _ (by show 1 <= _;decide) zFc ?_;repeat' (first | (apply And.intro<;>intro hc<;>(first | exact Bool.noConfusion hc | (simp only [zb0] at hc) | skip)) | (refine And.intro zp0 ?_) | (apply And.intro) | (intro s hs))
 . refine ⟨⟨some 9,zF rfl,?_⟩⟩;exact zA3 ⟨⟨trivial,Yo (λ_=>rfl) (by show 400 - 0 = min n 400;omega) rfl λi _ j _=>zC (by rw [Nat.zero_add])⟩,zC rfl⟩
 . refine ⟨⟨some 6,zF rfl,?_⟩⟩;exact zA3 ⟨⟨trivial,Yo (λ_=>rfl) (by omega) rfl λi _ j _=>zC rfl⟩,zC rfl⟩
def zCS : Zk:=λargs H nm _=>
 match args with
 | [.e (.c (.sl true n s f))]=>bif Nat.beq s 1 then some λK=>(∃ l,f = rI l /\ rngL l) /\ ∀ m,∀ q,TapeOk m f q -> K (zL (.ptr nm 0 0 false)) [(nm,some (qM m f q))] [] else none
 | _=>none
theorem zFd : EntOk Try.prog 9 zCS:=by
 refine ⟨λargs H nm wd q hwd hq K hK=>?_,λargs H nm wd q hq K K' hKK hK=>?_⟩
 . unfold zCS at hq;split at hq
   . rename_i n s f;obtain ⟨hb,hq⟩:=qZ hq;subst hq;have hb:=Nat.eq_of_beq_eq_true hb;subst hb;obtain ⟨⟨l,rfl,hl⟩,hK⟩:=hK;refine ⟨_,_,_,zEA (args':=[.e (.c (.sl true n 1 (rI l)))]) (rd:=[]) ⟨_,Try.func9,rfl,by kernel_rfl⟩ hwd (kd:=none) (rest:=none) (λl h=>by cases h) (λH' _=>⟨rfl,λi x y hx hy=>?_⟩) (new_ok n l),hK (min n 400) 0 ⟨by omega,by omega,by omega,l,rfl,hl⟩⟩;cases i with
     | zero=>simp only [List.getElem?_cons_zero,Option.some.injEq] at hx hy;subst hx hy;exact bo_shI
     | succ i=>cases i<;>cases hx
   . cases hq
 . unfold zCS at hq;split at hq
   . obtain ⟨hb,hq⟩:=qZ hq;subst hq;exact ⟨hK.1,λm q h=>hKK _ _ _ (hK.2 m q h)⟩
   . cases hq
abbrev boolE : Zk:=zAc (AC.cons (cI .i64) AC.nil) (λa=>1 <= a.1 /\ a.1 <= 4611686018427387904) (λa (r : Bool)=>True) cB.enc
def LTb : CsL:=(19,some boolE) :: (9,some zCS) :: LT0
theorem zBA : qV Try.prog LTb:=⟨Qp ⟨_,Try.func19,rfl,by kernel_rfl⟩ λn l q a ht hp=>bool_ok n l q a.1 ht hp.1 hp.2,zFd,zE7⟩
theorem zEc {w : World} {a : Addr} {u : Value} (h : w.cell? a = some u) : a.spot = none:=by
 unfold World.cell? at h;split at h
 . split at h
   . cases h
   . rename_i hs;simpa using hs
 . cases h
theorem row_rel {w : World} {a : Option Addr} {len cap : Nat} {zs : List Int} (h : IsRow .i64 w a len cap zs) :
 (FV.e (.c (CV.sl true len 1 (rI zs)))).rel (λ_=>none) (λ_=>False) (λ_=>False) w (.slice a len cap):=by
 rcases h with ⟨rfl,rfl,rfl,rfl⟩ | ⟨ad,rfl,hl,hm,hz,hcell,hwz⟩
 . exact ⟨none,0,rfl,Nat.le_refl _,λh=>absurd h (Nat.lt_irrefl _)⟩
 . refine ⟨some ad,cap,rfl,hl,λh0=>?_⟩;have h1:=hcell 0 (by omega);rw [zCt] at h1;have hsp : ad.spot = none:=zEc h1;refine ⟨ad,rfl,hsp,λh=>h,λ_ h=>h,zBr h1,λi hi j hj=>?_⟩;have : j = 0:=by omega
   subst this;have h2:=hcell i (by omega);rw [addS hsp] at h2;exact ⟨_,by rw [show i * 1 + 0 = i by omega];exact h2,rfl⟩
theorem wf_i64 {n : Int} (h : (Lit.int .i64 n).wf = true) : -9223372036854775808 <= n /\ n <= 9223372036854775807:=by
 simp [Lit.wf,IntKind.min,IntKind.max,IntKind.bits,IntKind.signed] at h;omega
theorem rng_of {w : World} {a : Option Addr} {len cap : Nat} {zs : List Int} (h : IsRow .i64 w a len cap zs) : rngL zs:=by
 have hall : ∀ z ∈ zs,(Lit.int .i64 z).wf = true:=by
  rcases h with ⟨rfl,rfl,rfl,rfl⟩ | ⟨ad,rfl,hl,hm,hz,hcell,hwz⟩
  . intro z hz;cases hz
  . exact hwz
 intro i;by_cases hi : i < zs.length
 . have e : zs.getD i default = zs[i]:=by simp [List.getD_eq_getElem?_getD,List.getElem?_eq_getElem hi]
   rw [e];exact wf_i64 (hall _ (List.getElem_mem hi))
 . have e : zs.getD i default = 0:=by simp [List.getD_eq_getElem?_getD,List.getElem?_eq_none (by omega : zs.length <= i)]
   rw [e];omega
theorem relL1 {r : QK} {X W : Nat -> Prop} {w : World} {x : FV} {v : Value} (h : x.rel r X W w v) : zAe r X W w [x] #[v]:=
 ⟨rfl,λi y u hy hu=>by
   match i,hy,hu with
   | 0,hy,hu=>injection hy with hy;injection hu with hu;subst hy hu;exact h⟩
theorem zBq {r : QK} {X W : Nat -> Prop} {w : World} {x : FV} {v : Value} {xs : List FV} {vs : List Value} (h : x.rel r X W w v) (ht : zAe r X W w xs vs.toArray) : zAe r X W w (x :: xs) (v :: vs).toArray:=by
 refine ⟨by have:=ht.1;simp at this ⊢;omega,λi y u hy hu=>?_⟩;cases i with
 | zero=>simp at hy hu;subst hy hu;exact h
 | succ i=>exact ht.2 i y u (by simpa using hy) (by simpa using hu)
theorem walk_of {P : Program} {f : FuncId} {args : List FV} {vals : Array Value} {w : World} (h : Ze P f args (.e (.c (.bool true)))) (hr : zAe (λ_=>none) (λ_=>False) (λ_=>False) w args vals) (hg : zCl (λ_=>False) w:=by exact λp hp=>by cases hp) :
 Calls P f vals w λe w'=>e = .returned (.bool true) /\ Below w.heap.size w w':=
 (h (λ_=>False) w vals hr ⟨λ_ h=>h.elim,hg⟩).mono λe w' ⟨v,he,hb,hv⟩=>by
   have hv' : v = .bool true:=hv;subst hv';exact ⟨he,hb⟩
end Go.Proofs.Ytfaibcgakcmhcaa.AX
namespace Go.Proofs.Ytfaibcgakcmhcaa
open Go.ChangeShapes Go.WideShapes Go.RowKit AX
def KOk : Option IntKind -> Value -> Prop
 | some k,v=>∃ n,v = .int k n /\ (Lit.int k n).wf = true
 | none,v=>∃ b,v = .bool b
def Mt : List (Option IntKind) -> List Value -> Prop
 | [],[]=>True
 | k :: ks,v :: vs=>KOk k v /\ Mt ks vs
 | _,_=>False
theorem Mt.append {a b : List (Option IntKind)} {x y : List Value} (h : Mt a x) (h' : Mt b y) : Mt (a ++ b) (x ++ y):=by
 induction a generalizing x with
 | nil=>
   cases x with
   | nil=>exact h'
   | cons=>exact h.elim
 | cons k ks ih=>
   cases x with
   | nil=>exact h.elim
   | cons v vs=>exact ⟨h.1,ih h.2⟩
theorem Mt.len {a : List (Option IntKind)} {x : List Value} (h : Mt a x) : x.length = a.length:=by
 induction a generalizing x with
 | nil=>
   cases x with
   | nil=>rfl
   | cons=>exact h.elim
 | cons k ks ih=>
   cases x with
   | nil=>exact h.elim
   | cons v vs=>simp [ih h.2]
def flatFs (P : Program) (g : TypeId -> Option (List (Option IntKind))) : List Field -> Nat -> Option (List (Option IntKind))
 | [],_=>some []
 | fd :: rest,off=>
   match g fd.type with
   | some l=>bif Nat.beq fd.offset off && Nat.beq (P.cellsOf fd.type) l.length then (flatFs P g rest (off + l.length)).map (l ++ ·) else none
   | none=>none
def flat (P : Program) : Nat -> TypeId -> Option (List (Option IntKind))
 | 0,_=>none
 | f + 1,t=>
   match P.underlying t with
   | some .bool=>some [none]
   | some (.int k)=>some [some k]
   | some (.struct fs)=>
     match flatFs P (flat P f) fs.toList 0 with
     | some l=>bif Nat.beq (P.cellsOf t) l.length then some l else none
     | none=>none
   | some (.array n e)=>
     match flat P f e with
     | some l=>bif Nat.beq (P.cellsOf e) l.length && Nat.beq (P.cellsOf t) (n * l.length) then some (List.replicate n l).flatten else none
     | none=>none
   | _=>none
section
variable {H : Type} {enc : TypeId × Value -> H} {P : Program} {w : World} {base : Nat} {spare : Nat -> Bool} {held : Bool}
end
def cvOf : Value -> CV
 | .int k n=>.int k n
 | .bool b=>.bool b
 | _=>.top
def KOkC : Option IntKind -> CV -> Prop
 | some k,x=>∃ n,x = .int k n /\ (Lit.int k n).wf = true
 | none,x=>∃ b,x = .bool b
def MtC (ks : List (Option IntKind)) (g : Nat -> CV) : Prop:=∀ j k,ks[j]? = some k -> KOkC k (g j)
theorem KOk.cv {k : Option IntKind} {v : Value} (h : KOk k v) : KOkC k (cvOf v) /\ ∀ r X W w,(cvOf v).rel r X W w v:=by
 cases k with
 | some k=>obtain ⟨n,rfl,h⟩:=h;exact ⟨⟨n,rfl,h⟩,λ_ _ _ _=>rfl⟩
 | none=>obtain ⟨b,rfl⟩:=h;exact ⟨⟨b,rfl⟩,λ_ _ _ _=>rfl⟩
theorem Mt.at : ∀ {ks : List (Option IntKind)} {vs : List Value},Mt ks vs -> ∀ (j : Nat) k,ks[j]? = some k -> ∃ v,vs[j]? = some v /\ KOk k v:=by
 intro ks;induction ks with
 | nil=>intro vs _ j k h;simp at h
 | cons k0 ks ih=>
   intro vs h j k hk;cases vs with
   | nil=>exact h.elim
   | cons v vs=>
     cases j with
     | zero=>simp at hk;subst hk;exact ⟨v,rfl,h.1⟩
     | succ j=>simpa using ih h.2 j k (by simpa using hk)
def gOf (cs : List Value) (j : Nat) : CV:=cvOf (cs.getD j undef)
theorem Mt.g {ks : List (Option IntKind)} {vs : List Value} (h : Mt ks vs) : MtC ks (gOf vs) /\ ∀ r X W w (j : Nat) u,vs[j]? = some u -> (gOf vs j).rel r X W w u:=by
 have hlen:=h.len;refine ⟨λj k hk=>?_,λr X W w j u hu=>?_⟩
 . obtain ⟨v,hv,hko⟩:=h.at j k hk;have : gOf vs j = cvOf v:=by simp [gOf,List.getD_eq_getElem?_getD,hv]
   rw [this];exact hko.cv.1
 . have hj : j < ks.length:=by rw [<- hlen];exact (List.getElem?_eq_some_iff.1 hu).1
   obtain ⟨v,hv,hko⟩:=h.at j _ (List.getElem?_eq_getElem hj);rw [hu] at hv;injection hv with hv;subst hv;have : gOf vs j = cvOf u:=by simp [gOf,List.getD_eq_getElem?_getD,hu]
   rw [this];exact hko.cv.2 r X W w
section
variable {H : Type} {enc : TypeId × Value -> H} {P : Program} {w : World} {base : Nat} {spare : Nat -> Bool} {held : Bool}
theorem cells_lt {ad : Addr} {w : World} {u : Value} (h : w.cell? ad = some u) : ad.block < w.heap.size:=zBr h
end
theorem MtC.k {ks : List (Option IntKind)} {g : Nat -> CV} (h : MtC ks g) {j : Nat} {k : IntKind} (hj : ks[j]? = some (some k)) : isK k (g j) = true:=by
 obtain ⟨n,hn,_⟩:=h j _ hj;rw [hn];simp [isK,YR]
theorem MtC.b {ks : List (Option IntKind)} {g : Nat -> CV} (h : MtC ks g) {j : Nat} (hj : ks[j]? = some none) : isB (g j) = true:=by
 obtain ⟨n,hn⟩:=h j _ hj;rw [hn];rfl
theorem MtC.wf {ks : List (Option IntKind)} {g : Nat -> CV} (h : MtC ks g) {j : Nat} {k : IntKind} (hj : ks[j]? = some (some k)) : (Lit.int k (Ya (g j))).wf = true:=by
 obtain ⟨n,hn,hw⟩:=h j _ hj;rw [hn];exact hw
end Go.Proofs.Ytfaibcgakcmhcaa
namespace Go.Proofs.Ytfaibcgakcmhcaa.AX
open Go.RowKit
theorem zB5 {r : QK} {H : Hp} {rd : List Nat} {b : Nat} (h : zB6 r H rd b) : wr r H b:=by
 obtain ⟨nm,e,x,h1,h2,h3,_⟩:=h;exact ⟨nm,e,x,h1,h2,h3⟩
inductive ShC : CV -> Prop
 | int (k : IntKind) (n : Int) : ShC (.int k n)
 | bool (b : Bool) : ShC (.bool b)
 | nils : ShC .nils
 | top : ShC .top
 | sl (n sz : Nat) (f : Nat -> Nat -> CV) : (∀ i,i < n -> ∀ j,j < sz -> ShC (f i j)) -> ShC (.sl true n sz f)
theorem ShC.bo {x : CV} (h : ShC x) : ∀ {r r' : QK} {X W X' W' : Nat -> Prop} {w : World} {v : Value},(∀ b,X' b -> X b \/ W b) -> (∀ b,W' b -> X b \/ W b) -> x.rel r X W w v -> x.rel r' X' W' w v:=by
 induction h with
 | int k n=>intro _ _ _ _ _ _ _ _ _ _ h;exact h
 | bool b=>intro _ _ _ _ _ _ _ _ _ _ h;exact h
 | nils=>intro _ _ _ _ _ _ _ _ _ _ h;exact h
 | top=>intro _ _ _ _ _ _ _ _ _ _ h;exact h
 | sl n sz f hf ih=>
   rintro r r' X W X' W' w v hX hW ⟨a,cap,rfl,h1,h2⟩;refine ⟨a,cap,rfl,h1,λh0=>?_⟩;obtain ⟨ad,rfl,hs,ho,hx,hlt,hc⟩:=h2 h0;refine ⟨ad,rfl,hs,λh=>(hW _ h).elim (hx rfl) ho,λ_ h=>(hX _ h).elim (hx rfl) ho,hlt,λi hi j hj=>?_⟩;obtain ⟨u,hu,hr⟩:=hc i hi j hj;exact ⟨u,hu,ih i hi j hj hX hW hr⟩
theorem ShC.le {x : CV} (h : ShC x) {c : Wc} : Zu c x x:=by
 induction h with
 | int k n=>exact zC rfl
 | bool b=>exact zW rfl
 | nils=>exact zq
 | top=>exact zDJ
 | sl n sz f hf ih=>exact Yo (λ_=>rfl) rfl rfl λi hi j hj=>ih i hi j hj
theorem ShC.nf {x : CV} (h : ShC x) : NF x:=by
 induction h with
 | int k n=>exact zA1
 | bool b=>exact zB7
 | nils=>exact nf_nils
 | top=>exact λ_ _ _ _ _ _ h=>h
 | sl n sz f hf ih=>exact zD9 λi hi j hj=>ih i hi j hj
theorem shC_flat {α : Type} [Inhabited α] {E : Elem α} (hE : ∀ a j,j < E.sz -> ShC (E.cell a j)) (l : List α) : ShC (slR E l):=.sl _ _ _ λi _ j hj=>hE _ _ hj
structure NElem (α : Type) where
 sz : Nat
 cell : α -> Nat -> CV
 rd : (Nat -> CV) -> α
 ok : (Nat -> CV) -> Prop
 ok_rel : ∀ g,ok g -> ∀ j,j < sz -> ∀ r X W w v,(g j).rel r X W w v -> (cell (rd g) j).rel r X W w v
 sh : ∀ a j,j < sz -> ShC (cell a j)
section
variable {α : Type} (E : NElem α)
def cN : Codec α where
 enc a:=.e (.agg E.sz (E.cell a))
 dec _ x:=(ga E.sz x).bind λf=>some (E.rd f,some (E.ok f),[])
 sound H H' x a p rd h hp _:=by
  obtain ⟨f,h1,h⟩:=bind_some h;injection h with h;injection h with h h';injection h' with h' h'';subst h h' h'';rw [ga_eq h1];rintro cx r w v st ⟨cs,rfl,c1,c2⟩;refine ⟨cs,rfl,c1,λi u hu=>?_⟩;have hi : i < E.sz:=by rw [<- c1];exact (Array.getElem?_eq_some_iff.1 hu).1
  exact (E.sh _ i hi).bo (λ_ h=>h) (λb h=>.inr (zB5 h)) (E.ok_rel f hp i hi _ _ _ _ _ (c2 i u hu))
variable [Inhabited α]
def zo (l : List α) (i j : Nat) : CV:=E.cell (l.getD i default) j
def Ys (n : Nat) (g : Nat -> Nat -> CV) : List α:=(List.range n).map λi=>E.rd (g i)
def slN (l : List α) : CV:=.sl true l.length E.sz (zo E l)
def Zj (t : TypeId) (l : List α) : Ent:=⟨t,l.length,E.sz,false,zo E l⟩
end
theorem QW {α : Type} {E : NElem α} (n : Nat) (g : Nat -> Nat -> CV) : (Ys E n g).length = n:=by simp [Ys]
theorem toN_get {α : Type} [Inhabited α] {E : NElem α} {n : Nat} {g : Nat -> Nat -> CV} {i : Nat} (h : i < n) : (Ys E n g).getD i default = E.rd (g i):=by simp [Ys,h]
theorem zr {α : Type} [Inhabited α] {E : NElem α} (hE : ∀ a,E.rd (E.cell a) = a) (l : List α) : Ys E l.length (zo E l) = l:=by
 apply List.ext_getElem
 . simp [Ys]
 . intro i h1 h2;simp only [Ys,List.getElem_map,List.getElem_range];have : zo E l i = E.cell (l.getD i default):=rfl;rw [this,hE];simp [List.getD_eq_getElem?_getD,List.getElem?_eq_getElem h2]
theorem qK {α : Type} [Inhabited α] {E : NElem α} (l : List α) : ShC (slN E l):=.sl _ _ _ λi _ j hj=>E.sh _ j hj
theorem sl_toN {α : Type} [Inhabited α] {E : NElem α} {sh : Bool} {n : Nat} {g : Nat -> Nat -> CV} (hok : ∀ i,i < n -> E.ok (g i)) {r : QK} {X W : Nat -> Prop} {w : World} {v : Value} (h : (CV.sl sh n E.sz g).rel r X W w v) : (CV.sl sh (Ys E n g).length E.sz (zo E (Ys E n g))).rel r X W w v:=by
 rw [QW];obtain ⟨a,cap,rfl,h1,h2⟩:=h;refine ⟨a,cap,rfl,h1,λh0=>?_⟩;obtain ⟨ad,rfl,hs,ho,hx,hlt,hc⟩:=h2 h0;refine ⟨ad,rfl,hs,ho,hx,hlt,λi hi j hj=>?_⟩;obtain ⟨u,hu,hr⟩:=hc i hi j hj;refine ⟨u,hu,?_⟩;have:=E.ok_rel _ (hok i hi) j hj _ _ _ _ _ hr;unfold zo;rw [toN_get hi];exact this
theorem bo_slN {α : Type} [Inhabited α] {E : NElem α} {H : Hp} {x : FV} {n : Nat} {g : Nat -> Nat -> CV} {p : Option Prop} {rd : List Nat} (hsz : 0 < E.sz) (h : zAg H E.sz x = some ⟨n,g,p,rd⟩) (hp : Qh p) (hok : ∀ i,i < n -> E.ok (g i)) :
 Bo H rd x (.e (.c (.sl false (Ys E n g).length E.sz (zo E (Ys E n g))))):=by
 intro cx r w v st hx;rw [QW];have cell : ∀ i,i < n -> ∀ j,j < E.sz -> ∀ u,(g i j).rel r cx.X (wr r H) w u -> (zo E (Ys E n g) i j).rel (λ_=>none) (λb=>cx.X b \/ wr r H b) (zB6 r H rd) w u:=λi hi j hj u hu=>by
  unfold zo;rw [toN_get hi];exact (E.sh _ j hj).bo (λ_ h=>h) (λb h=>.inr (zB5 h)) (E.ok_rel _ (hok i hi) j hj _ _ _ _ _ hu)
 unfold zAg at h;split at h
 . rename_i sh n' s f;obtain ⟨hb,h⟩:=qZ h;injection h with h1 h2 h3 h4;subst h1 h2 h3 h4;obtain ⟨a,cap,rfl,c1,c2⟩:=hx;refine ⟨a,cap,rfl,c1,λh0=>?_⟩;obtain ⟨ad,rfl,hs,ho,hX,hlt,hc⟩:=c2 h0;refine ⟨ad,rfl,hs,λh=>ho (zB5 h),(λh=>by cases h),hlt,λi hi j hj=>?_⟩;have hsE : s = E.sz:=Nat.eq_of_beq_eq_true hb;subst hsE;obtain ⟨u,hu,hr⟩:=hc i hi j hj;exact ⟨u,hu,cell i hi j hj u hr⟩
 . injection h with h;injection h with h1 h2 h3 h4;subst h1 h2 h3 h4;have : v = .slice none 0 0:=hx;subst this;exact ⟨none,0,rfl,Nat.le_refl _,λh=>absurd h (Nat.lt_irrefl _)⟩
 . rename_i k i n';split at h
   . rename_i et en es ev f he;obtain ⟨hb,h⟩:=qZ h;injection h with h1 h2 h3 h4;subst h1 h2 h3 h4;have hsE : es = E.sz:=Nat.eq_of_beq_eq_true hb;subst hsE;obtain ⟨a,cap,rfl,c1,c2⟩:=hx;refine ⟨a,cap,rfl,c1,λh0=>?_⟩;obtain ⟨x,hx,rfl,_⟩:=c2 (by omega);have hp' : i + n' <= en:=hp;obtain ⟨_,_,hxs,_⟩:=Yp st he hx;simp only at hxs;refine ⟨⟨x.b,i * x.sz,none⟩,rfl,rfl,?_,(λh=>by cases h),(st.dom k x hx.1).1,λq hq j hj=>?_⟩
     . rintro ⟨k2,e2,y,q1,q2,q3,q4⟩;have:=st.inj k2 k e2 _ y x q1 he q2 hx.1 q3;exact q4 (by rw [this];exact List.mem_singleton.2 rfl)
     . obtain ⟨u,hu,hr⟩:=YK st he hx (i:=i + q) (j:=j) (show i + q < en by omega) hj;refine ⟨u,?_,cell q hq j hj u hr⟩;rw [<- hu];show w.cell? ⟨x.b,i * x.sz + (q * E.sz + j),none⟩ = _;rw [show i * x.sz + (q * E.sz + j) = (i + q) * x.sz + j by rw [hxs,Nat.add_mul];omega]
   . cases h
 . rename_i k i j0 n' s;split at h
   . rename_i et en es ev f he;obtain ⟨hb,h⟩:=qZ h;injection h with h1 h2 h3 h4;subst h1 h2 h3 h4;have hsE : s = E.sz:=Nat.eq_of_beq_eq_true hb;subst hsE;obtain ⟨a,cap,rfl,c1,c2⟩:=hx;refine ⟨a,cap,rfl,c1,λh0=>?_⟩;obtain ⟨x,hx,rfl⟩:=c2 h0;have hp' : i < en /\ j0 + n' * E.sz <= es:=hp;refine ⟨⟨x.b,i * x.sz + j0,none⟩,rfl,rfl,?_,(λh=>by cases h),(st.dom k x hx.1).1,λq hq j hj=>?_⟩
     . rintro ⟨k2,e2,y,q1,q2,q3,q4⟩;have:=st.inj k2 k e2 _ y x q1 he q2 hx.1 q3;exact q4 (by rw [this];exact List.mem_singleton.2 rfl)
     . have hlt : q * E.sz + j < n' * E.sz:=by have:=Qd (sz:=E.sz) hq;omega
       obtain ⟨u,hu,hr⟩:=YK st he hx (i:=i) (j:=j0 + (q * E.sz + j)) (show i < en from hp'.1) (show j0 + (q * E.sz + j) < es by omega);refine ⟨u,?_,cell q hq j hj u hr⟩;rw [<- hu];show w.cell? ⟨x.b,i * x.sz + j0 + (q * E.sz + j),none⟩ = _;rw [Nat.add_assoc]
   . cases h
 . cases h
def cNS {α : Type} [Inhabited α] (E : NElem α) (hsz : 0 < E.sz) : Codec (List α) where
 enc l:=.e (.c (.sl false l.length E.sz (zo E l)))
 dec H x:=match zAg H E.sz x with
  | some ⟨n,g,p,rd⟩=>some (Ys E n g,zBX p (some (∀ i,i < n -> E.ok (g i))),rd)
  | none=>none
 sound H H' x a p rd h hp hh:=by
  split at h
  . rename_i n g q rd' hs;injection h with h;injection h with h h';injection h' with h' h'';subst h h' h'';obtain ⟨h1,h2⟩:=YV.1 hp;exact bo_slN hsz (Yv hs hh) h1 h2
  . cases h
end Go.Proofs.Ytfaibcgakcmhcaa.AX
namespace Go.Proofs.Ytfaibcgakcmhcaa
structure Trk where
 min : Int
 dbl : Int
 red : Int
 start : Int
 len : Int
 fire : Int
 heard : Int
 fired : Bool
def ZD (t : Int) : Bool:=decide (0 <= t /\ t <= 1099511627776)
def qa (m d r : Int) : Bool:=decide (2 <= m /\ m <= 4096 /\ 0 <= d /\ d <= 16 /\ 0 <= r /\ r <= 64)
def Qe (m l : Int) : Nat -> Bool
 | 0=>false
 | k + 1=>Qe m l k || (l == m * 2 ^ k)
def ZN (t : Trk) : Bool:=
 qa t.min t.dbl t.red && ZD t.start && decide (0 <= t.heard /\ t.heard <= 1048576) && Qe t.min t.len (t.dbl.toNat + 1) && decide (t.start + t.len / 2 <= t.fire /\ t.fire <= t.start + t.len - 1)
def QL (t : Trk) (length now draw : Int) : Trk:={ t with start:=now,len:=length,fire:=now + length / 2 + draw % (length - length / 2),heard:=0,fired:=false }
def YL : Trk:=⟨0,0,0,0,0,0,0,false⟩
def zAA (m d r now draw : Int) : Trk × Int:=
 if ZD now = true /\ qa m d r = true then (QL ⟨m,d,r,0,0,0,0,false⟩ m now draw,0) else (YL,2)
def Qq (t : Trk) : Trk:=if ZN t = true then (if t.heard < 1048576 then { t with heard:=t.heard + 1 } else t) else YL
def Zq (t : Trk) (now draw : Int) : Trk × Int:=
 if ZN t = true then (if ZD now = true then (if t.len = t.min then (t,0) else (QL t t.min now draw,0)) else (YL,2)) else (YL,1)
def QM (t : Trk) (now : Int) : Trk × Bool:=
 if t.fired = false /\ t.fire <= now then ({ t with fired:=true },decide (t.red = 0 \/ t.heard < t.red)) else (t,false)
def Qr (t : Trk) (now draw : Int) : Trk × Bool × Int:=
 if ZN t = true then
  if ZD now = true /\ t.start <= now then
   (if t.start + t.len <= now then QL (QM t now).1 (Min.min (2 * t.len) (t.min * 2 ^ t.dbl.toNat)) now draw else (QM t now).1,(QM t now).2,0)
  else (YL,false,2)
 else (YL,false,1)
theorem Zi {c : Int} : ZD c = true ↔ 0 <= c /\ c <= 1099511627776:=by simp [ZD]
theorem Qv {m d r : Int} : qa m d r = true ↔ 2 <= m /\ m <= 4096 /\ 0 <= d /\ d <= 16 /\ 0 <= r /\ r <= 64:=by simp [qa]
theorem YX {m l : Int} {k : Nat} : Qe m l k = true ↔ ∃ j,j < k /\ l = m * 2 ^ j:=by
 induction k with
 | zero=>simp [Qe]
 | succ k ih=>
   simp only [Qe,Bool.or_eq_true,ih,beq_iff_eq];constructor
   . rintro (⟨j,hj,e⟩ | e)
     . exact ⟨j,by omega,e⟩
     . exact ⟨k,by omega,e⟩
   . rintro ⟨j,hj,e⟩;by_cases h : j = k
     . subst h;exact .inr e
     . exact .inl ⟨j,by omega,e⟩
theorem zDw {m : Int} {j : Nat} (hm : 2 <= m /\ m <= 4096) (hj : j <= 16) : m <= m * 2 ^ j /\ m * 2 ^ j <= 268435456:=by
 have e : ((2 ^ j : Nat) : Int) = 2 ^ j:=by simp
 have h1 : (1 : Int) <= 2 ^ j:=by
  have:=Nat.one_le_two_pow (n:=j);rw [<- e];omega
 have h2 : (2 : Int) ^ j <= 65536:=by
  have:=Nat.pow_le_pow_right (n:=2) (by omega) hj;rw [<- e];omega
 constructor
 . have:=Int.mul_le_mul_of_nonneg_left h1 (show 0 <= m by omega);omega
 . have:=Int.mul_le_mul hm.2 h2 (by omega) (by omega);omega
theorem zBp {m l d : Int} (hm : 2 <= m /\ m <= 4096) (hd : 0 <= d /\ d <= 16) (h : Qe m l (d.toNat + 1) = true) : m <= l /\ l <= 268435456:=by
 obtain ⟨j,hj,rfl⟩:=YX.1 h;exact zDw hm (by omega)
theorem qx {t : Trk} (h : ZN t = true) : (2 <= t.min /\ t.min <= 4096 /\ 0 <= t.dbl /\ t.dbl <= 16 /\ 0 <= t.red /\ t.red <= 64) /\ (0 <= t.start /\ t.start <= 1099511627776) /\ (0 <= t.heard /\ t.heard <= 1048576) /\ (t.min <= t.len /\ t.len <= 268435456) /\ Qe t.min t.len (t.dbl.toNat + 1) = true /\ t.start + t.len / 2 <= t.fire /\ t.fire <= t.start + t.len - 1:=by
 simp only [ZN,Bool.and_eq_true,decide_eq_true_eq,Qv,Zi] at h;obtain ⟨⟨⟨⟨h1,h2⟩,h3⟩,h4⟩,h5⟩:=h;exact ⟨h1,h2,h3,zBp ⟨h1.1,h1.2.1⟩ ⟨h1.2.2.1,h1.2.2.2.1⟩ h4,h4,h5⟩
structure TInv (x : Trk) (now : Int) : Prop where
 valid : ZN x = true
 lo : x.start <= now
 hi : now <= x.start + x.len
 fire : x.fired = false -> now <= x.fire
theorem zAw {t : Trk} (h1 : qa t.min t.dbl t.red = true) (h2 : ZD t.start = true) (h3 : 0 <= t.heard /\ t.heard <= 1048576) (h4 : Qe t.min t.len (t.dbl.toNat + 1) = true) (h5 : t.start + t.len / 2 <= t.fire /\ t.fire <= t.start + t.len - 1) : ZN t = true:=by
 unfold ZN;rw [h1,h2,h4,decide_eq_true h3,decide_eq_true h5];rfl
theorem zAK {t : Trk} (h : ZN t = true) : qa t.min t.dbl t.red = true /\ ZD t.start = true:=by
 simp only [ZN,Bool.and_eq_true] at h;exact ⟨h.1.1.1.1,h.1.1.1.2⟩
theorem zFe {m l d : Int} (hm : 2 <= m) (hd : 0 <= d) (h : Qe m l (d.toNat + 1) = true) : Qe m (min (2 * l) (m * 2 ^ d.toNat)) (d.toNat + 1) = true:=by
 obtain ⟨j,hj,rfl⟩:=YX.1 h;rw [YX];by_cases hjd : j = d.toNat
 . subst hjd;refine ⟨d.toNat,by omega,?_⟩;have : (0 : Int) <= m * 2 ^ d.toNat:=Int.mul_nonneg (by omega) (Int.pow_nonneg (by omega));omega
 . refine ⟨j + 1,by omega,?_⟩;have h1 : 2 * (m * 2 ^ j) = m * 2 ^ (j + 1):=by rw [Int.pow_succ];rw [<- Int.mul_assoc m,Int.mul_comm 2]
   have h2 : (2 : Int) ^ (j + 1) <= 2 ^ d.toNat:=by
    have:=Nat.pow_le_pow_right (n:=2) (by omega) (show j + 1 <= d.toNat by omega);have e1 : ((2 ^ (j + 1) : Nat) : Int) = 2 ^ (j + 1):=by simp
    have e2 : ((2 ^ d.toNat : Nat) : Int) = 2 ^ d.toNat:=by simp
    rw [<- e1,<- e2];omega
   have h3:=Int.mul_le_mul_of_nonneg_left h2 (show 0 <= m by omega);rw [h1];omega
theorem zC6 {x : Trk} {l now draw : Int} (hv : ZN x = true) (hf : Qe x.min l (x.dbl.toNat + 1) = true) (hn : 0 <= now /\ now <= 1099511627776) : ZN (QL x l now draw) = true /\ 2 <= l /\ l <= 268435456:=by
 have hn2:=qx hv;obtain ⟨p1,p2⟩:=zAK hv;have hl:=zBp ⟨hn2.1.1,hn2.1.2.1⟩ ⟨hn2.1.2.2.1,hn2.1.2.2.2.1⟩ hf;have hm : 0 <= draw % (l - l / 2) /\ draw % (l - l / 2) < l - l / 2:=⟨Int.emod_nonneg _ (by omega),Int.emod_lt_of_pos _ (by omega)⟩;refine ⟨zAw p1 (Zi.2 hn) ⟨by show (0 : Int) <= 0;omega,by show (0 : Int) <= _;omega⟩ hf ⟨?_,?_⟩,by omega,hl.2⟩
 . show now + l / 2 <= now + l / 2 + draw % (l - l / 2);omega
 . show now + l / 2 + draw % (l - l / 2) <= now + l - 1;omega
theorem zGI {x : Trk} {now : Int} (hv : ZN x = true) : ZN (QM x now).1 = true /\ (QM x now).1.start = x.start /\ (QM x now).1.len = x.len /\ (QM x now).1.fire = x.fire /\ (QM x now).1.min = x.min /\ (QM x now).1.dbl = x.dbl:=by
 unfold QM;split
 . have hn:=qx hv;obtain ⟨p1,p2⟩:=zAK hv;exact ⟨zAw p1 p2 hn.2.2.1 hn.2.2.2.2.1 hn.2.2.2.2.2,rfl,rfl,rfl,rfl,rfl⟩
 . exact ⟨hv,rfl,rfl,rfl,rfl,rfl⟩
structure TStep (x : Trk) (now : Int) (s : Trk × Bool × Int) : Prop where
 ok : s.2.2 = 0
 inv : TInv s.1 (now + 1)
 sends : s.2.1 = true -> x.fired = false /\ x.start + x.len / 2 <= now /\ now < x.start + x.len /\ (x.red = 0 \/ x.heard < x.red) /\ s.1.start = x.start /\ s.1.fired = true
 still : x.fired = true -> s.1.start = x.start -> s.1.fired = true
 turn : s.1.start ≠ x.start -> s.1.start = now /\ now = x.start + x.len /\ s.1.len = min (2 * x.len) (x.min * 2 ^ x.dbl.toNat)
end Go.Proofs.Ytfaibcgakcmhcaa
