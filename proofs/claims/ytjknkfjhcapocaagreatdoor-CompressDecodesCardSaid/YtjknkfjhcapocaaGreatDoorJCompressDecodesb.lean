/- Texts of one's own in one file: BAny, BExec, BLib, BLoop, BDet, BFn, BMeth, BCod, Tys, Ge, Tp, Lr, Fl, Bg, Plain, PkL, Oc, PkV, BIn, Rd, Ct, Ct2. -/
import Derived.Test.YtjknkfjhcapocaaGreatDoorJCompressDecodesa
import Derived.LoopN
import Derived.Test.YtjknkfjhcapocaaGreatDoorChecked
import Derived.IntWalk
import Derived.Deep.Slices
import Derived.OpenShut
import Derived.DataReads
import Derived.ChangeArms
import Derived.Laws.BitsAllLaws
set_option linter.unusedVariables false
set_option linter.unusedSimpArgs false
set_option maxHeartbeats 16000000
set_option maxRecDepth 20000
namespace Go.Proofs.YtjknkfjhcapocaaGreatDoor.AX
open Go.RowKit
def looks (all : List Oper) (o : Oper) : List Nat:=
 zE9 o.op ++ (match o.guard with | some (j,_)=>(guardT all j).toList | none=>[])
def zEN (l : List Nat) (t : Nat) : Bool:=l.any (Nat.beq t)
theorem zC8 {l : List Nat} {t : Nat} (h : t ∈ l) : zEN l t = true:=List.any_eq_true.2 ⟨t,h,by simp⟩
def dstIn (l : List Nat) : Option Tmp -> Bool
 | some t=>zEN l t
 | none=>false
def dstEq : Option Tmp -> Option Tmp -> Bool
 | some t,some u=>Nat.beq t u
 | _,_=>false
def meets (a b : List Nat) : Bool:=a.any (zEN b)
def zC9 (all : List Oper) (o : Oper) (l : List Nat × List Nat) (o' : Oper) (l' : List Nat × List Nat) : Bool:=
 dstIn (looks all o) o'.dst || dstIn (looks all o') o.dst || dstEq o.dst o'.dst || meets l.1 l'.1 || meets l.1 l'.2 || meets l.2 l'.1
def regOk (all : List Oper) (log : Log) : Bool:=
 let ms:=masks all []
 (List.range all.length).all λj=>
   match all[j]?,log[j]?,ms[j]? with
   | some oj,some lj,some m=>
     (oj.after.toList.all λe=>!Region.binds .any e || Nat.blt e.on j) &&
     (List.range j).all λi=>
       match all[i]?,log[i]? with
       | some oi,some li=>!zC9 all oi li oj lj || m.testBit i
       | _,_=>false
   | _,_,_=>false
def zE7 (all : List Oper) (log : Log) : Bool:=regOk all log && !(log.any λl=>zEN l.2 zDk)
theorem zIM {all : List Oper} {log : Log} (h : regOk all log = true) {j : Nat} {oj : Oper} (hj : all[j]? = some oj) : ∀ e ∈ oj.after,Region.binds .any e = true -> e.on < j:=by
 have hlt : j < all.length:=(List.getElem?_eq_some_iff.1 hj).1;have:=List.all_eq_true.1 h j (List.mem_range.2 hlt);simp only [hj] at this;split at this
 . rename_i o l m h1 h2 h3;injection h1 with h1;subst h1;simp only [Bool.and_eq_true] at this;intro e he hb;have:=List.all_eq_true.1 this.1 e (by simpa using he);rw [hb] at this;simpa using this
 . cases this
theorem zE8 {all : List Oper} {log : Log} (h : regOk all log = true) {i j : Nat} {oi oj : Oper} {li lj : List Nat × List Nat} (hij : i < j) (hi : all[i]? = some oi) (hj : all[j]? = some oj) (hli : log[i]? = some li) (hlj : log[j]? = some lj) (hc : zC9 all oi li oj lj = true) :
 ∃ m,(masks all [])[j]? = some m /\ m.testBit i = true:=by
 have hlt : j < all.length:=(List.getElem?_eq_some_iff.1 hj).1;have:=List.all_eq_true.1 h j (List.mem_range.2 hlt);simp only [hj,hlj] at this;split at this
 . rename_i o l m h1 h2 h3;injection h1 with h1;injection h2 with h2;subst h1 h2;simp only [Bool.and_eq_true] at this;have:=List.all_eq_true.1 this.2 i (List.mem_range.2 hij);simp only [hi,hli,hc] at this;exact ⟨m,h3,by simpa using this⟩
 . cases this
def unl : List Bool -> Nat
 | []=>0
 | b :: l=>(bif b then 0 else 1) + unl l
theorem unl_set : ∀ (l : List Bool) (i : Nat),l[i]? = some false -> unl (l.set i true) + 1 = unl l:=by
 intro l;induction l with
 | nil=>intro i h;cases i<;>cases h
 | cons b l ih=>
   intro i h;cases i with
   | zero=>simp only [List.getElem?_cons_zero,Option.some.injEq] at h;subst h;simp only [List.set_cons_zero,unl,cond_true,cond_false];omega
   | succ i=>simp only [List.set_cons_succ,unl];have:=ih i (by simpa using h);omega
theorem unl_zero : ∀ (l : List Bool),unl l = 0 -> ∀ (i : Nat),i < l.length -> l[i]? = some true:=by
 intro l;induction l with
 | nil=>intro _ i h;simp at h
 | cons b l ih=>
   intro h i hi;cases b with
   | false=>simp only [unl,cond_false] at h;omega
   | true=>
     cases i with
     | zero=>rfl
     | succ i=>simp only [unl,cond_true] at h;simpa using ih (by omega) i (by simpa using hi)
section
variable {P : Program} {cx : Cx} {T : Tys} {wd nt : Nat} {d0 : List Deferred}
theorem zBQ {a : Act} {d : Option Tmp} {v : Value} : (a.put d v).tmps.size = a.tmps.size /\ (a.put d v).defers = a.defers:=by
 cases d with
 | none=>exact ⟨rfl,rfl⟩
 | some t=>exact ⟨by simp [Act.put],rfl⟩
theorem zAG.put {r : Qj} {H : Hp} {w : World} {fr : Fr} {a : Act} (h : zAG cx r H w fr a.tmps) {d : Option Tmp} (hd : zF5 a.tmps.size d = true) {x : FV} {v : Value} (hx : x.rel r cx.X (wr r H) w v) :
 zAG cx r H w (zAF d x ++ fr) (a.put d v).tmps:=by
 cases d with
 | none=>exact h
 | some t=>
   intro u;have hlt : t < a.tmps.size:=Nat.le_of_ble_eq_true hd;by_cases hu : u = t
   . subst hu;have e1 : YI (zAF (some u) x ++ fr) u = x:=zu _ _ _ _;rw [e1];simpa [Act.put,hlt] using hx
   . have e1 : YI (zAF (some t) x ++ fr) u = YI fr u:=zg _ _ _ hu;rw [e1];have:=h u;simp only [Act.put,Array.getD_eq_getD_getElem?] at this ⊢;rw [Array.getElem?_setIfInBounds_ne (Ne.symm hu)];exact this
theorem zF3 {all : List Oper} {o : Oper} {r : Qj} {H : Hp} {w : World} {fr : Fr} {a : Act} {b : Bool} (h : zAG cx r H w fr a.tmps) (hw : zF4 all o fr = some b) :
 Region.wanted o (yielded all.toArray a.tmps) = b:=by
 unfold zF4 at hw;unfold Region.wanted;cases hg : o.guard with
 | none=>rw [hg] at hw;simp at hw;rw [<- hw]
 | some gw=>
   obtain ⟨j,want⟩:=gw;rw [hg] at hw;simp only at hw ⊢;split at hw
   . rename_i t ht;split at hw
     . rename_i c hc;injection hw with hw;have hv:=h t;rw [hc] at hv;have hv' : a.tmps.getD t undef = .bool c:=hv;have hy : yielded all.toArray a.tmps j = some c:=by
        have ht' : (all[j]?).bind (·.dst) = some t:=ht;have hv2 : a.tmps[t]? = some (.bool c):=by
         cases hat : a.tmps[t]? with
         | none=>simp [Array.getD_eq_getD_getElem?,hat,undef] at hv'
         | some u=>simp [Array.getD_eq_getD_getElem?,hat] at hv';rw [hv']
        simp [yielded,ht',hv2]
       rw [hy,<- hw];cases want<;>cases c<;>rfl
     . rename_i hc;injection hw with hw;have hv:=h t;rw [hc] at hv;obtain ⟨vs,hv',_,_⟩:=hv;have hy : yielded all.toArray a.tmps j = none:=by
        have ht' : (all[j]?).bind (·.dst) = some t:=ht;cases hat : a.tmps[t]? with
        | none=>simp [yielded,ht',hat]
        | some u=>
          have : u = .tuple vs:=by simpa [Array.getD_eq_getD_getElem?,hat] using hv'
          subst this;simp [yielded,ht',hat]
       rw [hy,<- hw];rfl
     . cases hw
   . cases hw
structure Inv (cx : Cx) (all : List Oper) (rs : List Rec) (fr0 : Fr) (H0 : Hp) (nx wd nt : Nat) (d0 : List Deferred) (fx : Qj) (listed : Array Bool) (a : Act) (w : World) (r : Qj) : Prop where
 size : listed.size = all.length
 closed : ∀ i o,all[i]? = some o -> listed.getD i false = true -> ∀ e ∈ o.after,Region.binds .any e = true -> listed.getD e.on false = true
 st : St cx r (qq (λi=>listed.getD i false) (QY rs) 0 H0) w
 fr : zAG cx r (qq (λi=>listed.getD i false) (QY rs) 0 H0) w (qq (λi=>listed.getD i false) (Ye all rs) 0 fr0) a.tmps
 names : ∀ k,nx <= k -> (∀ i,listed.getD i false = true -> ¬ (nx + wd * i <= k /\ k < nx + wd * i + wd)) -> r k = none /\ zP (qq (λi=>listed.getD i false) (QY rs) 0 H0) k = none
 tsz : a.tmps.size = nt
 defers : a.defers = d0
 low : ∀ k,k < nx -> r k = fx k
theorem zBv {l : Array Bool} {i j : Nat} (hi : i < l.size) : (l.setIfInBounds i true).getD j false = (j == i || l.getD j false):=by
 by_cases h : j = i
 . subst h;simp [hi]
 . simp [Array.getElem?_setIfInBounds_ne (Ne.symm h),h]
theorem any_order (hT : qO P T) {all : List Oper} {rs : List Rec} {fr0 : Fr} {H0 : Hp} {nx : Nat} (hwd : 0 < wd) (hg : Good P T wd nt all all rs fr0 H0 nx) (hok : regOk all (zA8 rs) = true) (hno : ∀ rc ∈ rs,zDk ∉ rc.rd) {fx : Qj}
 {Q : Exit -> Act -> World -> Prop}
 (hQ : ∀ a w r,St cx r (qq (λ_=>true) (QY rs) 0 H0) w -> zAG cx r (qq (λ_=>true) (QY rs) 0 H0) w (qq (λ_=>true) (Ye all rs) 0 fr0) a.tmps -> (∀ k,nx + wd * all.length <= k -> r k = none /\ zP (qq (λ_=>true) (QY rs) 0 H0) k = none) -> a.tmps.size = nt -> a.defers = d0 -> (∀ k,k < nx -> r k = fx k) -> Q .normal a w) :
 ∀ (fuel : Nat) (listed : Array Bool) (a : Act) (w : World) (r : Qj),unl listed.toList = fuel -> Inv cx all rs fr0 H0 nx wd nt d0 fx listed a w r -> wpAny P .any all.toArray Q fuel listed a w:=by
 obtain ⟨hlen,hat⟩:=Good.at _ _ _ _ _ hg;have full : ∀ (listed : Array Bool) (a : Act) (w : World) (r : Qj),(∀ i,i < all.length -> listed.getD i false = true) -> Inv cx all rs fr0 H0 nx wd nt d0 fx listed a w r -> Q .normal a w:=by
  intro listed a w r hall inv;have e1 : ∀ t,YI (qq (λi=>listed.getD i false) (Ye all rs) 0 fr0) t = YI (qq (λ_=>true) (Ye all rs) 0 fr0) t:=λt=>YR _ _ _ _ _ _ _ _ rfl λj e he _=>by
   rw [Nat.zero_add];have : j < (Ye all rs).length:=(List.getElem?_eq_some_iff.1 he).1;exact hall j (by simp [Ye] at this;omega)
  have e2 : ∀ t,zP (qq (λi=>listed.getD i false) (QY rs) 0 H0) t = zP (qq (λ_=>true) (QY rs) 0 H0) t:=λt=>YR _ _ _ _ _ _ _ _ rfl λj e he _=>by
   rw [Nat.zero_add];have : j < (QY rs).length:=(List.getElem?_eq_some_iff.1 he).1;exact hall j (by simp [QY] at this;omega)
  refine hQ a w r (inv.st.congr e2) (inv.fr.congr e2 e1) (λk hk=>?_) inv.tsz inv.defers inv.low;rw [<- e2 k];refine inv.names k (by omega) λi hi=>?_;have : i < listed.size:=by
   rcases Nat.lt_or_ge i listed.size with h | h
   . exact h
   . rw [Array.getD_eq_getD_getElem?,Array.getElem?_eq_none h] at hi;cases hi
  rw [inv.size] at this;have h9 : wd * (i + 1) <= wd * all.length:=Nat.mul_le_mul_left _ this;rw [Nat.mul_add,Nat.mul_one] at h9;omega
 have nilAll : ∀ (listed : Array Bool),listed.size = all.length -> Region.ready .any all.toArray listed = [] -> ∀ i,i < all.length -> listed.getD i false = true:=by
  intro listed hs hr i;induction i using Nat.strongRecOn with
  | _ i ih=>
    intro hi;cases hb : listed.getD i false with
    | true=>rfl
    | false=>
      have ho : all[i]? = some all[i]:=List.getElem?_eq_getElem hi;have : i ∈ Region.ready .any all.toArray listed:=mem_ready.2 ⟨by
       rw [Array.getD_eq_getD_getElem?] at hb ⊢;rw [Array.getElem?_eq_getElem (by omega)] at hb ⊢;exact hb,all[i],by simp [hi],λe he hbn=>by
        have hlt:=zIM hok ho e he hbn;exact ih e.on hlt (by omega)⟩
      rw [hr] at this;cases this
 intro fuel;induction fuel with
 | zero=>
   intro listed a w r hu inv;have hall : ∀ i,i < all.length -> listed.getD i false = true:=λi hi=>by
    have:=unl_zero _ hu i (by simpa [inv.size] using hi);have h2 : listed[i]? = some true:=by simpa using this
    rw [Array.getD_eq_getD_getElem?,h2];rfl
   refine ⟨?_,full listed a w r hall inv⟩;rw [List.eq_nil_iff_forall_not_mem];intro i hi;obtain ⟨h1,o,ho,_⟩:=mem_ready.1 hi;have hil : i < all.length:=by simpa using (Array.getElem?_eq_some_iff.1 ho).1
   have:=hall i hil;rw [Array.getD_eq_getD_getElem?] at h1 this;rw [Array.getElem?_eq_getElem (by rw [inv.size];exact hil)] at h1 this;simp only [Option.getD_some] at h1 this;rw [h1] at this;cases this
 | succ fuel ih=>
   intro listed a w r hu inv;refine ⟨λhr=>full listed a w r (nilAll listed inv.size hr) inv,λi hi=>?_⟩;obtain ⟨h1,o,ho,hdeps⟩:=mem_ready.1 hi;have hoi : all[i]? = some o:=by simpa using ho
   have hil : i < all.length:=(List.getElem?_eq_some_iff.1 hoi).1;have hisz : i < listed.size:=by rw [inv.size];exact hil
   have hSi : listed.getD i false = false:=by
    rw [Array.getD_eq_getD_getElem?] at h1 ⊢;rw [Array.getElem?_eq_getElem hisz] at h1 ⊢;exact h1
   obtain ⟨rc,hrc,hokd,hwt,hstep⟩:=hat i o hoi;have hli : (zA8 rs)[i]? = some (YF rc.eff,rc.rd):=by simp [zA8,hrc]
   have order : ∀ (j : Nat) (oj : Oper) (rj : Rec),all[j]? = some oj -> rs[j]? = some rj -> (i < j -> zC9 all o (YF rc.eff,rc.rd) oj (YF rj.eff,rj.rd) = true) -> (j < i -> zC9 all oj (YF rj.eff,rj.rd) o (YF rc.eff,rc.rd) = true) -> listed.getD j false = decide (j < i):=by
    intro j oj rj hj hrj c1 c2;have hlj : (zA8 rs)[j]? = some (YF rj.eff,rj.rd):=by simp [zA8,hrj]
    have hcl:=zDB (ops:=all) (Z:=λx=>listed.getD x false = true) (λx ox hx hz e he hb=>inv.closed x ox hx hz e he hb) all [] (λj=>by simp) (λi m h=>by cases i<;>cases h);rcases Nat.lt_trichotomy j i with hji | hji | hji
    . rw [decide_eq_true hji];obtain ⟨m,hm,hb⟩:=zE8 hok hji hj hoi hlj hli (c2 hji);have hcl2:=zDB (ops:=all) (Z:=λx=>x = i \/ listed.getD x false = true) (λx ox hx hz e he hbn=>by
       rcases hz with rfl | hz
       . rw [hoi] at hx;injection hx with hx;subst hx;exact .inr (hdeps e he hbn)
       . exact .inr (inv.closed x ox hx hz e he hbn)) all [] (λj=>by simp) (λi m h=>by cases i<;>cases h)
      rcases hcl2 i m hm (.inl rfl) j hb with h | h
      . omega
      . exact h
    . subst hji;rw [hSi];simp
    . rw [decide_eq_false (by omega)];cases hlst : listed.getD j false with
      | false=>rfl
      | true=>
        obtain ⟨m,hm,hb⟩:=zE8 hok hji hoi hj hli hlj (c1 hji);have:=hcl j m hm hlst i hb;rw [hSi] at this;cases this
   have cKey : ∀ {e : Hp} {k : Nat},Zl e k = true -> k ∈ YF e:=by
    intro e k h;obtain ⟨p,hp,hb⟩:=List.any_eq_true.1 h;have:=Nat.eq_of_beq_eq_true hb;exact List.mem_map.2 ⟨p,hp,this⟩
   have frj : ∀ (j : Nat) (e : Fr) (t : Nat),(Ye all rs)[j]? = some e -> Zl e t = true -> ∃ (oj : Oper) (rj : Rec),all[j]? = some oj /\ rs[j]? = some rj /\ oj.dst = some t /\ e = zAF oj.dst rj.val:=by
    intro j e t he hk;simp only [Ye,List.getElem?_zipWith] at he;cases ha : all[j]? with
    | none=>rw [ha] at he;cases he
    | some oj=>
      cases hr' : rs[j]? with
      | none=>rw [ha,hr'] at he;cases he
      | some rj=>
        rw [ha,hr'] at he;injection he with he;subst he;refine ⟨oj,rj,rfl,rfl,?_,rfl⟩;cases hd : oj.dst with
        | none=>rw [hd] at hk;cases hk
        | some u=>
          rw [hd] at hk;simp only [zAF,Zl,List.any_cons,List.any_nil,Bool.or_false] at hk;rw [Nat.eq_of_beq_eq_true hk]
   have hpj : ∀ (j : Nat) (e : Hp),(QY rs)[j]? = some e -> ∃ (oj : Oper) (rj : Rec),all[j]? = some oj /\ rs[j]? = some rj /\ e = rj.eff:=by
    intro j e he;simp only [QY,List.getElem?_map] at he;cases hr' : rs[j]? with
    | none=>rw [hr'] at he;cases he
    | some rj=>
      rw [hr'] at he;injection he with he;have : j < all.length:=by rw [hlen];exact (List.getElem?_eq_some_iff.1 hr').1
      exact ⟨all[j],rj,List.getElem?_eq_getElem this,rfl,he.symm⟩
   have hmeet : ∀ {a b : List Nat} {k : Nat},k ∈ a -> k ∈ b -> meets a b = true:=λha hb=>List.any_eq_true.2 ⟨_,ha,zC8 hb⟩;have frEq : ∀ t ∈ looks all o,YI (qq (λ_=>true) ((Ye all rs).take i) 0 fr0) t = YI (qq (λi=>listed.getD i false) (Ye all rs) 0 fr0) t:=by
    intro t ht;rw [<- zHe];refine YR _ _ _ _ _ _ _ _ rfl λj e he hk=>?_;obtain ⟨oj,rj,h1,h2,h3,_⟩:=frj j e t he hk;rw [Nat.zero_add,Nat.zero_add];refine (order j oj rj h1 h2 (λ_=>?_) (λ_=>?_)).symm
    . simp [zC9,dstIn,h3,zC8 ht]
    . simp [zC9,dstIn,h3,zC8 ht]
   have hpEq : ∀ k ∈ rc.rd,zP (qq (λ_=>true) ((QY rs).take i) 0 H0) k = zP (qq (λi=>listed.getD i false) (QY rs) 0 H0) k:=by
    intro k hk;rw [<- zHe];refine YR _ _ _ _ _ _ _ _ rfl λj e he hkk=>?_;obtain ⟨oj,rj,h1,h2,rfl⟩:=hpj j e he;rw [Nat.zero_add,Nat.zero_add];have hkk':=cKey hkk;refine (order j oj rj h1 h2 (λ_=>?_) (λ_=>?_)).symm
    . simp [zC9,hmeet hk hkk']
    . simp [zC9,hmeet hkk' hk]
   have hw2 : zF4 all o (qq (λi=>listed.getD i false) (Ye all rs) 0 fr0) = some rc.ex:=by
    rw [<- hwt];unfold zF4;cases hgd : o.guard with
    | none=>rfl
    | some gw=>
      obtain ⟨j,want⟩:=gw;simp only;cases hgt : guardT all j with
      | none=>rfl
      | some t=>
        simp only;rw [frEq t (by simp [looks,hgd,hgt])]
   have hwanted:=zF3 inv.fr hw2;have frMore : ∀ t,YI (zAF o.dst rc.val ++ qq (λi=>listed.getD i false) (Ye all rs) 0 fr0) t = YI (qq (λx=>(listed.setIfInBounds i true).getD x false) (Ye all rs) 0 fr0) t:=by
    intro t;have hE : (Ye all rs)[i]? = some (zAF o.dst rc.val):=by simp [Ye,List.getElem?_zipWith,hoi,hrc]
    have:=zHd (d:=FV.top) (λi=>listed.getD i false) (Ye all rs) 0 fr0 i (zAF o.dst rc.val) t hE (by rw [Nat.zero_add];exact hSi) (λj e hij he hSj u hu=>by
     rw [Nat.zero_add] at hSj;cases hk : Zl e u with
     | false=>rfl
     | true=>
       obtain ⟨oj,rj,h1,h2,h3,_⟩:=frj j e u he hk;have hdu : o.dst = some u:=by
        cases hd : o.dst with
        | none=>rw [hd] at hu;cases hu
        | some v=>
          rw [hd] at hu;simp only [zAF,Zl,List.any_cons,List.any_nil,Bool.or_false] at hu;rw [Nat.eq_of_beq_eq_true hu]
       have:=order j oj rj h1 h2 (λ_=>by simp [zC9,dstEq,hdu,h3]) (λhji=>by omega);rw [hSj,decide_eq_false (by omega)] at this;cases this)
    rw [Nat.zero_add] at this;show qr FV.top _ t = qr FV.top _ t;rw [<- this];refine YR _ _ _ _ _ _ _ _ rfl λj e _ _=>?_;rw [Nat.zero_add,zBv hisz]
   have hpMore : ∀ t,zP (rc.eff ++ qq (λi=>listed.getD i false) (QY rs) 0 H0) t = zP (qq (λx=>(listed.setIfInBounds i true).getD x false) (QY rs) 0 H0) t:=by
    intro t;have hE : (QY rs)[i]? = some rc.eff:=by simp [QY,hrc]
    have:=zHd (d:=none) (λi=>listed.getD i false) (QY rs) 0 H0 i rc.eff t hE (by rw [Nat.zero_add];exact hSi) (λj e hij he hSj u hu=>by
     rw [Nat.zero_add] at hSj;cases hk : Zl e u with
     | false=>rfl
     | true=>
       obtain ⟨oj,rj,h1,h2,rfl⟩:=hpj j e he;have:=order j oj rj h1 h2 (λ_=>by simp [zC9,hmeet (cKey hu) (cKey hk)]) (λhji=>by omega);rw [hSj,decide_eq_false (by omega)] at this;cases this)
    rw [Nat.zero_add] at this;show qr none _ t = qr none _ t;rw [<- this];refine YR _ _ _ _ _ _ _ _ rfl λj e _ _=>?_;rw [Nat.zero_add,zBv hisz]
   have apart : ∀ j k,listed.getD j false = true -> nx + wd * i <= k -> k < nx + wd * i + wd -> ¬ (nx + wd * j <= k /\ k < nx + wd * j + wd):=λj k hj h1 h2 h3=>by
    have hji : j ≠ i:=λh=>by subst h;rw [hSi] at hj;cases hj
    rcases Nat.lt_or_ge j i with h | h
    . have:=Nat.mul_le_mul_left wd h;rw [Nat.mul_succ] at this;omega
    . have:=Nat.mul_le_mul_left wd (show i + 1 <= j by omega);rw [Nat.mul_add,Nat.mul_one] at this;omega
   have hfree : zCo r (qq (λi=>listed.getD i false) (QY rs) 0 H0) (nx + wd * i) wd:=λk h1 h2=>inv.names k (by omega) λj hj=>apart j k hj h1 h2;have hunl : unl (listed.setIfInBounds i true).toList = fuel:=by
    have:=unl_set listed.toList i (by
     have : listed[i]? = some false:=by
      rw [Array.getD_eq_getD_getElem?] at hSi;rw [Array.getElem?_eq_getElem hisz] at hSi ⊢;simpa using hSi
     simpa using this)
    rw [Array.toList_setIfInBounds];omega
   have next : ∀ (v : Value) (w' : World) (r' : Qj),Ext r (wr r (qq (λi=>listed.getD i false) (QY rs) 0 H0)) w r' (wr r' (rc.eff ++ qq (λi=>listed.getD i false) (QY rs) 0 H0)) w' -> St cx r' (rc.eff ++ qq (λi=>listed.getD i false) (QY rs) 0 H0) w' ->
    (∀ k,k < nx + wd * i \/ nx + wd * i + wd <= k -> r' k = r k) -> (∀ k e,zP (rc.eff ++ qq (λi=>listed.getD i false) (QY rs) 0 H0) k = some e -> ((nx + wd * i <= k \/ zDk ∈ rc.rd) /\ k < nx + wd * i + wd) \/ ∃ e',zP (qq (λi=>listed.getD i false) (QY rs) 0 H0) k = some e') -> rc.val.rel r' cx.X (wr r' (rc.eff ++ qq (λi=>listed.getD i false) (QY rs) 0 H0)) w' v -> wpAny P .any all.toArray Q fuel (listed.setIfInBounds i true) (a.put o.dst v) w':=by
    intro v w' r' hext hst hr' hnew hrel;refine ih _ _ _ r' hunl ⟨by simp [inv.size],λx ox hx hz e he hb=>?_,hst.congr hpMore,?_,λk hk hkn=>?_,by rw [zBQ.1];exact inv.tsz,by rw [zBQ.2];exact inv.defers,λk hk=>by rw [hr' k (.inl (by omega))];exact inv.low k hk⟩
    . rw [zBv hisz] at hz ⊢;simp only [Bool.or_eq_true,beq_iff_eq] at hz ⊢;rcases hz with rfl | hz
      . rw [hoi] at hx;injection hx with hx;subst hx;exact .inr (hdeps e he hb)
      . exact .inr (inv.closed x ox hx hz e he hb)
    . exact (zAG.put (inv.fr.ext hext) (by rw [inv.tsz];exact hokd) hrel).congr hpMore frMore
    . have hki : ¬ (nx + wd * i <= k /\ k < nx + wd * i + wd):=hkn i (by rw [zBv hisz];simp);have hold:=inv.names k hk λj hj=>hkn j (by rw [zBv hisz,hj];simp);rw [hr' k (by omega),<- hpMore k];refine ⟨hold.1,?_⟩;cases hh : zP (rc.eff ++ qq (λi=>listed.getD i false) (QY rs) 0 H0) k with
      | none=>rfl
      | some e=>
        rcases hnew k e hh with h | ⟨e',h⟩
        . exact absurd ⟨h.1.resolve_right (hno rc (List.mem_of_getElem? hrc)),h.2⟩ hki
        . rw [hold.2] at h;cases h
   unfold wpOp;simp only [ho,hwanted];cases hex : rc.ex with
   | true=>
     rw [hex] at hstep;obtain ⟨sr,hs,hv,he,hrd⟩:=hstep;have hno' : zDk ∉ sr.rd:=by rw [hrd];exact hno rc (List.mem_of_getElem? hrc)
     have hs2:=stp_congr hs (λt ht=>frEq t (by simp [looks,ht])) (λk hk=>hpEq k (by rw [<- hrd];exact hk)) hno';rw [if_pos rfl];refine .inl (stp_ok hT hs2 inv.st inv.fr hfree (λh=>absurd h hno') hwd λv w' hleft=>?_);obtain ⟨r',g1,g2,g3,g5,g4⟩:=hleft;rw [he] at g1 g2 g4 g5;rw [hv] at g4;exact next v w' r' g1 g2 g3 (by rw [hrd] at g5;exact g5) g4
   | false=>
     rw [hex] at hstep;obtain ⟨hv,he,hrd⟩:=hstep;rw [if_neg (by simp)];refine next undef w r ?_ ?_ (λ_ _=>rfl) ?_ ?_
     . rw [he];exact Ext.refl _ _ _
     . rw [he];exact inv.st
     . rw [he];exact λk e h=>.inr ⟨e,h⟩
     . rw [hv];exact ⟨#[],rfl,rfl,λi x u h=>by cases h⟩
end
structure Wc where
 H : Hp
 H' : Hp
 rho : List (Nat × Option Nat)
 nx : Nat
 fin : Bool:=false
def zA7 : List (Nat × Option Nat) -> Nat -> Option (Option Nat)
 | [],_=>none
 | (k,v) :: rest,t=>bif Nat.beq t k then some v else zA7 rest t
def Wc.src (c : Wc) (k : Nat) : Option Nat:=
 match zA7 c.rho k with
 | some o=>o
 | none=>bif Nat.blt k c.nx then some k else none
def Wc.ren (c : Wc) (r : Qj) (k : Nat) : Option Bi:=
 match c.src k with
 | some k0=>r k0
 | none=>none
def Wc.wr (c : Wc) (cx : Cx) (r : Qj) (b : Nat) : Prop:=AX.wr (c.ren r) c.H' b \/ (c.fin = true /\ cx.X b)
def Wc.Live (c : Wc) : Prop:=∀ k e',zP c.H' k = some e' -> ∀ k0,c.src k = some k0 -> ∃ e,zP c.H k0 = some e
def LeC (c : Wc) (x y : CV) : Prop:=c.Live -> ∀ cx r w v,St cx r c.H w -> x.rel r cx.X (wr r c.H) w v -> y.rel (c.ren r) cx.X (c.wr cx r) w v
def LeE (c : Wc) (x y : EV) : Prop:=c.Live -> ∀ cx r w v,St cx r c.H w -> x.rel r cx.X (wr r c.H) w v -> y.rel (c.ren r) cx.X (c.wr cx r) w v
def LeF (c : Wc) (x y : FV) : Prop:=c.Live -> ∀ cx r w v,St cx r c.H w -> x.rel r cx.X (wr r c.H) w v -> y.rel (c.ren r) cx.X (c.wr cx r) w v
structure LeN (c : Wc) (e e' : Ent) : Prop where
 t : e.t = e'.t
 n : e.n = e'.n
 sz : e.sz = e'.sz
 v : e.v = e'.v
 f : ∀ i,i < e.n -> ∀ j,j < e.sz -> LeC c (e.f i j) (e'.f i j)
def WkF (c : Wc) (fr : Fr) : Fr -> Prop
 | []=>True
 | (t,v) :: rest=>LeF c (YI fr t) v /\ WkF c fr rest
def WkE (c : Wc) (e' : Ent) (o : Option Nat) : Prop:=
 match o with
 | some k0=>match zP c.H k0 with
   | some e=>LeN c e e'
   | none=>False
 | none=>e'.n = 0 /\ e'.v = false /\ 0 < e'.sz
def WkH (c : Wc) : Hp -> Prop
 | []=>True
 | (_,none) :: rest=>WkH c rest
 | (k,some e') :: rest=>(Nat.blt k c.nx = true /\ WkE c e' (c.src k)) /\ WkH c rest
def zEM (c : Wc) : Hp -> List Nat
 | []=>[]
 | (_,none) :: rest=>zEM c rest
 | (k,some _) :: rest=>(c.src k).toList ++ zEM c rest
def zE5 : List Nat -> Bool
 | []=>true
 | k :: l=>!(l.any (Nat.beq k)) && zE5 l
def rhoOk (np : Nat) (c : Wc) : Bool:=(c.rho.all λp=>Nat.ble np p.1 && Nat.blt p.1 c.nx) && zE5 (zEM c c.H')
theorem WkF.at {c : Wc} {fr : Fr} : ∀ {fr' : Fr},WkF c fr fr' -> ∀ t,LeF c (YI fr t) (YI fr' t):=by
 intro fr';induction fr' with
 | nil=>intro _ t _ cx r w v _ _;trivial
 | cons p fr' ih=>
   obtain ⟨k,x⟩:=p;rintro ⟨h1,h2⟩ t;by_cases ht : t = k
   . subst ht;have : YI ((t,x) :: fr') t = x:=zu _ _ _ _;rw [this];exact h1
   . have : YI ((k,x) :: fr') t = YI fr' t:=zg _ _ _ ht;rw [this];exact ih h2 t
theorem WkH.at {c : Wc} : ∀ {H' : Hp},WkH c H' -> ∀ k e',zP H' k = some e' -> k < c.nx /\ WkE c e' (c.src k):=by
 intro H';induction H' with
 | nil=>intro _ k e' h;cases h
 | cons p H' ih=>
   obtain ⟨k0,x⟩:=p;intro h k e' he;by_cases hk : k = k0
   . subst hk;have e1 : zP ((k,x) :: H') k = x:=zu _ _ _ _;rw [e1] at he;subst he;exact ⟨Nat.le_of_ble_eq_true h.1.1,h.1.2⟩
   . have e1 : zP ((k0,x) :: H') k = zP H' k:=zg _ _ _ hk;rw [e1] at he;cases x with
     | none=>exact ih h k e' he
     | some x=>exact ih h.2 k e' he
theorem WkH.live {c : Wc} (h : WkH c c.H') : c.Live:=λk e' he k0 hk0=>by
 obtain ⟨_,h1⟩:=h.at k e' he;rw [hk0] at h1;unfold WkE at h1;simp only at h1;split at h1
 . rename_i e hh;exact ⟨e,hh⟩
 . exact h1.elim
theorem zHZ {c : Wc} {k k0 : Nat} (hs : c.src k = some k0) : ∀ {H' : Hp} {e' : Ent},zP H' k = some e' -> k0 ∈ zEM c H':=by
 intro H';induction H' with
 | nil=>intro e' h;cases h
 | cons p H' ih=>
   obtain ⟨k1,x⟩:=p;intro e' he;by_cases hk : k = k1
   . subst hk;have e1 : zP ((k,x) :: H') k = x:=zu _ _ _ _;rw [e1] at he;subst he;simp [zEM,hs]
   . have e1 : zP ((k1,x) :: H') k = zP H' k:=zg _ _ _ hk;rw [e1] at he;cases x with
     | none=>exact ih he
     | some x=>simp only [zEM];exact List.mem_append_right _ (ih he)
theorem srcs_inj {c : Wc} : ∀ {H' : Hp},zE5 (zEM c H') = true -> ∀ k m e e' k0,zP H' k = some e -> zP H' m = some e' -> c.src k = some k0 -> c.src m = some k0 -> k = m:=by
 intro H';induction H' with
 | nil=>intro _ k m e e' k0 h;cases h
 | cons p H' ih=>
   obtain ⟨k1,x⟩:=p;intro hn k m e e' k0 hk hm sk sm;have ne : ∀ j,j ≠ k1 -> zP ((k1,x) :: H') j = zP H' j:=λj hj=>zg _ _ _ hj;cases x with
   | none=>
     have e0 : zP ((k1,none) :: H') k1 = none:=zu _ _ _ _;by_cases h1 : k = k1
     . subst h1;rw [e0] at hk;cases hk
     . by_cases h2 : m = k1
       . subst h2;rw [e0] at hm;cases hm
       . rw [ne k h1] at hk;rw [ne m h2] at hm;exact ih hn k m e e' k0 hk hm sk sm
   | some x=>
     have tail : ∀ j ej,j ≠ k1 -> zP ((k1,some x) :: H') j = some ej -> c.src j = some k0 -> c.src k1 = some k0 -> False:=λj ej hj hej sj s1=>by
      rw [ne j hj] at hej;have hmem:=zHZ sj hej;simp only [zEM,s1,Option.toList_some,List.singleton_append,zE5,Bool.and_eq_true,Bool.not_eq_true'] at hn;have : (zEM c H').any (Nat.beq k0) = true:=List.any_eq_true.2 ⟨k0,hmem,by simp⟩;rw [hn.1] at this;cases this
     by_cases h1 : k = k1
     . by_cases h2 : m = k1
       . omega
       . subst h1;exact (tail m e' h2 hm sm sk).elim
     . by_cases h2 : m = k1
       . subst h2;exact (tail k e h1 hk sk sm).elim
       . rw [ne k h1] at hk;rw [ne m h2] at hm;refine ih ?_ k m e e' k0 hk hm sk sm;simp only [zEM] at hn;cases hs : c.src k1 with
         | none=>rw [hs] at hn;exact hn
         | some q=>
           rw [hs] at hn;simp only [Option.toList_some,List.singleton_append,zE5,Bool.and_eq_true] at hn;exact hn.2
theorem lookR_mem : ∀ {l : List (Nat × Option Nat)} {k : Nat} {o : Option Nat},zA7 l k = some o -> ∃ p ∈ l,p.1 = k:=by
 intro l;induction l with
 | nil=>intro k o h;cases h
 | cons p l ih=>
   obtain ⟨k1,v⟩:=p;intro k o h;simp only [zA7] at h;cases hb : Nat.beq k k1 with
   | true=>exact ⟨(k1,v),List.mem_cons_self ..,(Nat.eq_of_beq_eq_true hb).symm⟩
   | false=>
     rw [hb,cond_false] at h;obtain ⟨p,hp,hk⟩:=ih h;exact ⟨p,List.mem_cons_of_mem _ hp,hk⟩
theorem weaken {cx : Cx} {r : Qj} {w : World} {fr : Fr} {tmps : Array Value} {c : Wc} {np : Nat} (st : St cx r c.H w) (hf : zAG cx r c.H w fr tmps) {fr' : Fr} (h0 : ∀ k b,cx.pin k = some b -> k < np) (hnp : Nat.ble np c.nx = true) (hrho : rhoOk np c = true) (hfin : c.fin = false) (h1 : WkF c fr fr') (h2 : WkH c c.H') :
 St cx (c.ren r) c.H' w /\ zAG cx (c.ren r) c.H' w fr' tmps /\ (∀ k,c.nx <= k -> c.ren r k = none /\ zP c.H' k = none) /\ ∀ k,k < np -> c.ren r k = r k:=by
 simp only [rhoOk,Bool.and_eq_true] at hrho;have hlive:=h2.live;have hwr : c.wr cx r = wr (c.ren r) c.H':=by funext b;simp [Wc.wr,hfin]
 have hkeys : ∀ k o,zA7 c.rho k = some o -> np <= k /\ k < c.nx:=λk o h=>by
  obtain ⟨p,hp,rfl⟩:=lookR_mem h;have:=List.all_eq_true.1 hrho.1 p hp;simp only [Bool.and_eq_true] at this;exact ⟨Nat.le_of_ble_eq_true this.1,Nat.le_of_ble_eq_true this.2⟩
 have hren : ∀ k x,c.ren r k = some x -> ∃ k0,c.src k = some k0 /\ r k0 = some x:=λk x h=>by
  unfold Wc.ren at h;split at h
  . rename_i k0 hk0;exact ⟨k0,hk0,h⟩
  . cases h
 refine ⟨⟨st.os,st.tape,st.output,st.size,st.kept,st.xlt,λk x h=>?_,λk e' x he hx=>?_,λn m e e' x y hn hm hx hy hxy=>?_,λk b hk=>?_,λk e' he=>?_⟩,λt=>by rw [<- hwr];exact h1.at t hlive cx r w _ st (hf t),λk hk=>⟨?_,?_⟩,λk hk=>?_⟩
 . obtain ⟨k0,_,h⟩:=hren k x h;exact st.dom k0 x h
 . obtain ⟨k0,s1,hx⟩:=hren k x hx;obtain ⟨e1,l1⟩:=hlive k e' he k0 s1;exact st.ow k0 e1 x l1 hx
 . obtain ⟨n0,s1,hx⟩:=hren n x hx;obtain ⟨m0,s2,hy⟩:=hren m y hy;obtain ⟨e1,l1⟩:=hlive n e hn n0 s1;obtain ⟨e2,l2⟩:=hlive m e' hm m0 s2;have:=st.inj n0 m0 e1 e2 x y l1 l2 hx hy hxy;subst this;exact srcs_inj hrho.2 n m e e' n0 hn hm s1 s2
 . have hlt:=h0 k b hk;have hl : zA7 c.rho k = none:=by
    cases hl : zA7 c.rho k with
    | none=>rfl
    | some o=>have:=hkeys k o hl;omega
   have hs : c.src k = some k:=by
    unfold Wc.src;rw [hl];have : Nat.blt k c.nx = true:=Nat.ble_eq_true_of_le (Nat.lt_of_lt_of_le hlt (Nat.le_of_ble_eq_true hnp));simp only [this,cond_true]
   unfold Wc.ren;rw [hs];exact st.pin k b hk
 . obtain ⟨hlt,hw⟩:=h2.at k e' he;cases hs : c.src k with
   | none=>
     rw [hs] at hw;obtain ⟨g1,g2,g3⟩:=hw;exact ⟨g3,(λh=>by rw [g2] at h;cases h),.inl ⟨by unfold Wc.ren;rw [hs],g1⟩⟩
   | some k0=>
     rw [hs] at hw;unfold WkE at hw;simp only at hw;split at hw
     . rename_i e hh;have hrk : c.ren r k = r k0:=by unfold Wc.ren;rw [hs]
       exact (st.blk k0 e hh).map hw.t hw.n hw.sz hw.v hrk.symm (λ_ _=>rfl) λi hi j hj u hu=>by
        rw [<- hwr];exact hw.f i hi j hj hlive cx r w u st hu
     . exact hw.elim
 . unfold Wc.ren Wc.src;cases hl : zA7 c.rho k with
   | some o=>have:=hkeys k o hl;omega
   | none=>
     have : Nat.blt k c.nx = false:=by
      cases hb : Nat.blt k c.nx with
      | false=>rfl
      | true=>have:=Nat.le_of_ble_eq_true hb;omega
     simp only [this,cond_false]
 . cases hh : zP c.H' k with
   | none=>rfl
   | some e'=>have:=(h2.at k e' hh).1;omega
 . have hl : zA7 c.rho k = none:=by
    cases hl : zA7 c.rho k with
    | none=>rfl
    | some o=>have:=hkeys k o hl;omega
   unfold Wc.ren Wc.src;rw [hl];have : Nat.blt k c.nx = true:=Nat.ble_eq_true_of_le (Nat.lt_of_lt_of_le hk (Nat.le_of_ble_eq_true hnp));simp only [this,cond_true]
abbrev Kt:=Exit -> Fr -> Hp -> Nat -> Prop
def seqK (next : Fr -> Hp -> Nat -> Prop) (K : Kt) : Kt
 | .normal,fr,H,nx=>next fr H nx
 | e,fr,H,nx=>K e fr H nx
def blkK (id : Nat) (K : Kt) : Kt
 | .exit id',fr,H,nx=>bif Nat.beq id' id then K .normal fr H nx else K (.exit id') fr H nx
 | e,fr,H,nx=>K e fr H nx
def iter (np : Nat) (R : Fr -> Hp -> Nat -> Kt -> Prop) (K : Kt) : Nat -> Fr -> Hp -> Nat -> Prop
 | 0,_,_,_=>False
 | n + 1,fr,H,nx=>∃ fr' H' rho nx',Nat.ble np nx' = true /\ rhoOk np ⟨H,H',rho,nx',false⟩ = true /\ WkF ⟨H,H',rho,nx',false⟩ fr fr' /\ WkH ⟨H,H',rho,nx',false⟩ H' /\ R fr' H' nx' (seqK (iter np R K n) K)
def qo (T : Tys) (Q : Qs) (wd nt np : Nat) : Code -> Fr -> Hp -> Nat -> Kt -> Prop
 | .skip,fr,H,nx,K=>K .normal fr H nx
 | .region _ ops draw,fr,H,nx,K=>zAR T Q wd nt ops.toList ops.toList 0 fr H nx [] λfr H nx log=>bif !draw || zE7 ops.toList log.reverse then K .normal fr H nx else False
 | .seq a b,fr,H,nx,K=>qo T Q wd nt np a fr H nx (seqK (λfr H nx=>qo T Q wd nt np b fr H nx K) K)
 | .cond c a b,fr,H,nx,K=>
   match ev fr c with
   | .e (.c (.bool t))=>(t = true -> qo T Q wd nt np a fr H nx K) /\ (t = false -> qo T Q wd nt np b fr H nx K)
   | _=>False
 | .block id c,fr,H,nx,K=>qo T Q wd nt np c fr H nx (blkK id K)
 | .loop c,fr,H,nx,K=>∃ n,iter np (qo T Q wd nt np c) K n fr H nx
 | .exit id,fr,H,nx,K=>K (.exit id) fr H nx
 | .ret,fr,H,nx,K=>K .ret fr H nx
 | .label _,fr,H,nx,K=>K .normal fr H nx
 | _,_,_,_,_=>False
def Is (cx : Cx) (nt np : Nat) (fx : Qj) (fr : Fr) (H : Hp) (nx : Nat) (a : Act) (w : World) : Prop:=
 ∃ r,St cx r H w /\ zAG cx r H w fr a.tmps /\ (∀ k,nx <= k -> r k = none /\ zP H k = none) /\ a.tmps.size = nt /\ a.defers = [] /\ np <= nx /\ ∀ k,k < np -> r k = fx k
def lift (cx : Cx) (nt np : Nat) (fx : Qj) (K : Kt) (e : Exit) (a : Act) (w : World) : Prop:=∃ fr H nx,K e fr H nx /\ Is cx nt np fx fr H nx a w
section
variable {P : Program} {cx : Cx} {T : Tys} {Q : Qs} {wd nt np : Nat} {fx : Qj}
theorem zIK (hT : qO P T) (hwd : 0 < wd) {all : List Oper} {R : Exit -> Act -> World -> Prop} : ∀ (os : List Oper) (rs : List Rec) (i : Nat) (fr : Fr) (H : Hp) (nx : Nat),Good P T wd nt all os rs fr H nx -> (∀ j,os[j]? = all[i + j]?) ->
 (∀ a w,Is cx nt np fx (qq (λ_=>true) (Ye os rs) 0 fr) (qq (λ_=>true) (QY rs) 0 H) (nx + wd * os.length) a w -> R .normal a w) -> ∀ a w,Is cx nt np fx fr H nx a w -> wpOps P all.toArray R (List.range' i os.length) a w:=by
 have selS : ∀ {α : Type} (es : List (List (Nat × α))) (k k' : Nat) (b : List (Nat × α)),qq (λ_=>true) es k b = qq (λ_=>true) es k' b:=by
  intro α es;induction es with
  | nil=>intro k k' b;rfl
  | cons e es ih=>intro k k' b;rw [qq,qq];exact ih _ _ _
 intro os;induction os with
 | nil=>
   intro rs i fr H nx hg _ hQ a w hs;cases rs with
   | nil=>exact hQ a w hs
   | cons=>exact hg.elim
 | cons o os ih=>
   intro rs i fr H nx hg hall hQ a w hs;cases rs with
   | nil=>exact hg.elim
   | cons rc rs=>
     obtain ⟨⟨hokd,hwt,hstep⟩,hg2⟩:=hg;obtain ⟨r,st,hf,hnm,hts,hdf,hnp,hfx⟩:=hs;have ho : all[i]? = some o:=by simpa using (hall 0).symm
     have ho' : all.toArray[i]? = some o:=by simpa using ho
     have e1 : qq (λ_=>true) (Ye (o :: os) (rc :: rs)) 0 fr = qq (λ_=>true) (Ye os rs) 0 (zAF o.dst rc.val ++ fr):=by
      show qq _ (zAF o.dst rc.val :: Ye os rs) 0 fr = _;rw [qq,cond_true];exact selS _ _ _ _
     have e2 : qq (λ_=>true) (QY (rc :: rs)) 0 H = qq (λ_=>true) (QY rs) 0 (rc.eff ++ H):=by
      show qq _ (rc.eff :: QY rs) 0 H = _;rw [qq,cond_true];exact selS _ _ _ _
     rw [e1,e2,List.length_cons,show nx + wd * (os.length + 1) = nx + wd + wd * os.length by rw [Nat.mul_add,Nat.mul_one];omega] at hQ;have next : ∀ a w,Is cx nt np fx (zAF o.dst rc.val ++ fr) (rc.eff ++ H) (nx + wd) a w -> wpOps P all.toArray R (List.range' (i + 1) os.length) a w:=
      λa w hs=>ih rs (i + 1) _ _ _ hg2 (λj=>by have:=hall (j + 1);simp only [List.getElem?_cons_succ] at this;rw [this];congr 1;omega) hQ a w hs
     have hfree : zCo r H nx wd:=λk h1 _=>hnm k h1;rw [List.length_cons,List.range'_succ,wpOps_cons];unfold wpOp;simp only [ho',zF3 hf hwt];cases hex : rc.ex with
     | true=>
       rw [hex] at hstep;obtain ⟨sr,hss,hv,he,hrd⟩:=hstep;rw [if_pos rfl];refine .inl (stp_ok hT hss st hf hfree (λ_=>hnm) hwd λv w' hleft=>?_);obtain ⟨r',g1,g2,g3,g5,g4⟩:=hleft;rw [he] at g1 g2 g4 g5;rw [hv] at g4;refine next _ _ ⟨r',g2,zAG.put (hf.ext g1) (by rw [hts];exact hokd) g4,λk hk=>?_,by rw [zBQ.1];exact hts,by rw [zBQ.2];exact hdf,by omega,λk hk=>(g3 k (.inl (by omega))).trans (hfx k hk)⟩
       rw [g3 k (by omega)];refine ⟨(hnm k (by omega)).1,?_⟩;cases hh : zP (rc.eff ++ H) k with
       | none=>rfl
       | some e=>
         rcases g5 k e hh with h | ⟨e',h⟩
         . have:=h.2;omega
         . rw [(hnm k (by omega)).2] at h;cases h
     | false=>
       rw [hex] at hstep;obtain ⟨hv,he,hrd⟩:=hstep;rw [if_neg (by simp)];refine next _ _ ⟨r,by rw [he];exact st,?_,(λk hk=>by rw [he];exact hnm k (by omega)),by rw [zBQ.1];exact hts,by rw [zBQ.2];exact hdf,by omega,hfx⟩
       rw [he,hv];exact zAG.put hf (by rw [hts];exact hokd) ⟨#[],rfl,rfl,λi x u h=>by cases h⟩
theorem region_ok (hwd : 0 < wd) (hT : qO P T) (hQ : zBR P Q) (hm : P.follows .mixedOrders = true) {id : Nat} {ops : Array Oper} {draw : Bool} {fr : Fr} {H : Hp} {nx : Nat} {K : Kt}
 (h : qo T Q wd nt np (.region id ops draw) fr H nx K) {a : Act} {w : World} (hs : Is cx nt np fx fr H nx a w) : (Code.region id ops draw).wp P (lift cx nt np fx K) a w:=by
 unfold qo at h;obtain ⟨rs,hg,hK⟩:=runR_good hwd hQ _ _ _ _ _ _ _ h;obtain ⟨hlen,_⟩:=Good.at _ _ _ _ _ hg;have hrev : ((zA8 rs).reverse ++ ([] : Log)).reverse = zA8 rs:=by simp
 rw [hrev] at hK;cases draw with
 | false=>
   simp only [Bool.not_false,Bool.true_or,cond_true] at hK;refine wp_region ?_;have:=zIK (cx:=cx) (R:=lift cx nt np fx K) hT hwd ops.toList rs 0 fr H nx hg (λj=>by rw [Nat.zero_add]) (λa w hs=>⟨_,_,_,hK,hs⟩) a w hs;simpa [List.range_eq_range'] using this
 | true=>
   simp only [Bool.not_true,Bool.false_or] at hK;cases hokA : zE7 ops.toList (zA8 rs) with
   | false=>rw [hokA] at hK;exact hK.elim
   | true=>
     rw [hokA,cond_true] at hK;unfold zE7 at hokA;simp only [Bool.and_eq_true,Bool.not_eq_true'] at hokA;obtain ⟨hok,hno⟩:=hokA;have hno : ∀ rc ∈ rs,zDk ∉ rc.rd:=λrc hrc hm=>by
      have : (zA8 rs).any (λl=>zEN l.2 zDk) = true:=List.any_eq_true.2 ⟨_,List.mem_map.2 ⟨rc,hrc,rfl⟩,zC8 hm⟩;rw [hno] at this;cases this
     obtain ⟨r,st,hf,hnm,hts,hdf,hnp,hfx⟩:=hs;obtain ⟨g1,g2⟩:=st.drew (w.drawn + 1);refine wp_region_any hm ?_;have hrep : ∀ i,(Array.replicate ops.size false).getD i false = false:=λi=>by
      rcases Nat.lt_or_ge i ops.size with h | h<;>simp [h]
     have e1 : qq (λi=>(Array.replicate ops.size false).getD i false) (Ye ops.toList rs) 0 fr = qq (λ_=>false) (Ye ops.toList rs) 0 fr:=by simp only [hrep]
     have e2 : qq (λi=>(Array.replicate ops.size false).getD i false) (QY rs) 0 H = qq (λ_=>false) (QY rs) 0 H:=by simp only [hrep]
     have h2 : ∀ {α : Type} (es : List (List (Nat × α))) (k : Nat) (x : List (Nat × α)),qq (λ_=>false) es k x = x:=by
      intro α es;induction es with
      | nil=>intro k x;rfl
      | cons e es ih=>intro k x;rw [qq];exact ih _ _
     have hu : ∀ n,unl (List.replicate n false) = n:=by
      intro n;induction n with
      | zero=>rfl
      | succ n ih=>simp only [List.replicate_succ,unl,cond_false];omega
     have:=any_order (P:=P) (cx:=cx) (d0:=[]) hT hwd hg hok hno (fx:=r) (Q:=lift cx nt np fx K) (λa w r' h1 h3 h4 h5 h6 h7=>⟨_,_,_,hK,r',h1,h3,h4,h5,h6,by omega,λk hk=>(h7 k (by omega)).trans (hfx k hk)⟩) ops.size (Array.replicate ops.size false) a { w with drawn:=w.drawn + 1 } r
      (by simp [hu]) ⟨by simp,(λi o _ h=>by rw [hrep] at h;cases h),by rw [e2,h2];exact g2,by rw [e1,e2,h2,h2];exact hf.ext g1,(λk hk _=>by rw [e2,h2];exact hnm k hk),hts,hdf,λ_ _=>rfl⟩
     simpa using this
theorem exec_ok (hwd : 0 < wd) (hT : qO P T) (hQ : zBR P Q) (hm : P.follows .mixedOrders = true) (hpin : ∀ k b,cx.pin k = some b -> k < np) : ∀ (c : Code) (fr : Fr) (H : Hp) (nx : Nat) (K : Kt),qo T Q wd nt np c fr H nx K -> ∀ a w,Is cx nt np fx fr H nx a w -> c.wp P (lift cx nt np fx K) a w:=by
 intro c;induction c with
 | skip=>intro fr H nx K h a w hs;exact wp_skip ⟨_,_,_,h,hs⟩
 | region id ops draw=>intro fr H nx K h a w hs;exact region_ok hwd hT hQ hm h hs
 | seq x y ihx ihy=>
   intro fr H nx K h a w hs;refine wp_seq (wp_mono (ihx _ _ _ _ h a w hs) λe a' w' hq=>?_);obtain ⟨fr',H',nx',hk,hs'⟩:=hq;cases e<;>first | exact ⟨fr',H',nx',hk,hs'⟩ | exact ihy _ _ _ _ hk a' w' hs'
 | cond c x y ihx ihy=>
   intro fr H nx K h a w hs;unfold qo at h;split at h
   . rename_i t hev;have hs':=hs;obtain ⟨r,st,hf,_⟩:=hs;have hc:=ev_ok st hf c;rw [hev] at hc;have hc' : a.eval c = .bool t:=hc;cases t with
     | true=>exact wp_cond_true hc' (ihx _ _ _ _ (h.1 rfl) a w hs')
     | false=>exact wp_cond_false hc' (ihy _ _ _ _ (h.2 rfl) a w hs')
   . exact h.elim
 | block id c ih=>
   intro fr H nx K h a w hs;refine wp_block (wp_mono (ih _ _ _ _ h a w hs) λe a' w' hq=>?_);obtain ⟨fr',H',nx',hk,hs'⟩:=hq;cases e with
   | exit id'=>
     simp only [blkK] at hk;show (if id' = id then _ else _);by_cases hid : id' = id
     . rw [if_pos hid];subst hid;rw [show Nat.beq id' id' = true by simp,cond_true] at hk;exact ⟨_,_,_,hk,hs'⟩
     . rw [if_neg hid];have : Nat.beq id' id = false:=by
        cases hb : Nat.beq id' id with
        | false=>rfl
        | true=>exact absurd (Nat.eq_of_beq_eq_true hb) hid
       rw [this,cond_false] at hk;exact ⟨_,_,_,hk,hs'⟩
   | normal=>exact ⟨_,_,_,hk,hs'⟩
   | goto l=>exact ⟨_,_,_,hk,hs'⟩
   | ret=>exact ⟨_,_,_,hk,hs'⟩
   | panic ch=>exact ⟨_,_,_,hk,hs'⟩
   | outgrown=>exact ⟨_,_,_,hk,hs'⟩
 | loop c ih=>
   intro fr H nx K h a w hs;obtain ⟨n,hn⟩:=h;refine wp_loop_rounds n ?_;induction n generalizing fr H nx a w with
   | zero=>exact hn.elim
   | succ n ihn=>
     obtain ⟨fr',H',rho,nx',h0,hrho,h1,h2,h3⟩:=hn;obtain ⟨r,st,hf,hnm,hts,hdf,hnp,hfx⟩:=hs;obtain ⟨g1,g2,g3,g4⟩:=weaken (c:=⟨H,H',rho,nx',false⟩) st hf hpin h0 hrho rfl h1 h2;refine wp_mono (ih _ _ _ _ h3 a w ⟨_,g1,g2,g3,hts,hdf,Nat.le_of_ble_eq_true h0,λk hk=>(g4 k hk).trans (hfx k hk)⟩) λe a' w' hq=>?_;obtain ⟨fr2,H2,nx2,hk,hs'⟩:=hq;cases e<;>first | exact ⟨fr2,H2,nx2,hk,hs'⟩ | exact ihn _ _ _ _ _ hs' hk
 | exit id=>intro fr H nx K h a w hs;exact wp_exit ⟨_,_,_,h,hs⟩
 | ret=>intro fr H nx K h a w hs;exact wp_ret ⟨_,_,_,h,hs⟩
 | label l=>intro fr H nx K h a w hs;exact wp_label ⟨_,_,_,h,hs⟩
 | rangeFunc=>intro fr H nx K h a w hs;exact h.elim
 | scope=>intro fr H nx K h a w hs;exact h.elim
 | goto=>intro fr H nx K h a w hs;exact h.elim
 | refuse=>intro fr H nx K h a w hs;exact h.elim
def resE (T : Tys) (fr : Fr) (H : Hp) : ResultVar -> Option EV
 | .tmp t=>match YI fr t with
   | .e x=>some x
   | _=>none
 | .cell a t=>
   match T t,YI fr a with
   | some ti,.e (.c (.ptr k i j _))=>
     match zP H k with
     | some ⟨_,en,es,_,ef⟩=>bif Nat.ble (j + ti.size) es && Nat.blt j es && Nat.blt i en then
       match zCe ti (es - j) (λq=>ef i (j + q)) false none [] with
       | some ⟨_,.e x,_,_⟩=>some x
       | _=>none
       else none
     | none=>none
   | _,_=>none
def resL (T : Tys) (fr : Fr) (H : Hp) : List ResultVar -> Option (List EV)
 | []=>some []
 | x :: xs=>match resE T fr H x,resL T fr H xs with
   | some y,some ys=>some (y :: ys)
   | _,_=>none
def asF : List EV -> FV
 | [x]=>.e x
 | l=>.tup l
def resS (tmps : Array Value) : ResultVar -> Sem Value
 | .tmp t=>pure (tmps.getD t undef)
 | .cell a t=>do loadVar t (<- asAddr (tmps.getD a undef))
theorem zIL (fn : Func) (tmps : Array Value) : results fn tmps = (do let vs <- fn.results.mapM (resS tmps);pure (if h : vs.size = 1 then vs[0] else .tuple vs)):=by
 have : (fun | .tmp t=>pure (tmps.getD t undef) | .cell a t=>(do loadVar t (<- asAddr (tmps.getD a undef))) : ResultVar -> Sem Value) = resS tmps:=by
  funext x;cases x<;>rfl
 rw [<- this];rfl
theorem loadF_pre {ti : TI} {m : Nat} {g : Nat -> CV} {rd : List Nat} {sr : SR} (h : zCe ti m g false none rd = some sr) (h1 : ti.size <= m) (h2 : 0 < m) : Qg sr.pre:=by
 unfold zCe at h;split at h
 . injection h with h;subst h;exact h1
 . injection h with h;subst h;exact h1
 . rw [CV.see_eq] at h;injection h with h;subst h;exact h2
theorem resE_ok (hT : qO P T) {r : Qj} {H : Hp} {w : World} {fr : Fr} {tmps : Array Value} (st : St cx r H w) (hf : zAG cx r H w fr tmps) {x : ResultVar} {y : EV} (h : resE T fr H x = some y) :
 ∃ v,(resS tmps x).run P w = .ok v w /\ y.rel r cx.X (wr r H) w v:=by
 cases x with
 | tmp t=>
   simp only [resE] at h;split at h
   . rename_i z hz;injection h with h;subst h;have:=hf t;rw [hz] at this;exact ⟨_,rfl,this⟩
   . cases h
 | cell a t=>
   simp only [resE] at h;split at h
   . rename_i ti k i j sym ht ha;split at h
     . rename_i et en es v ef he;cases hb : (Nat.ble (j + ti.size) es && Nat.blt j es && Nat.blt i en) with
       | false=>rw [hb] at h;cases h
       | true=>
         rw [hb,cond_true] at h;simp only [Bool.and_eq_true] at hb;have b1:=Nat.le_of_ble_eq_true hb.1.1;have b2 : j < es:=Nat.le_of_ble_eq_true hb.1.2;have b3 : i < en:=Nat.le_of_ble_eq_true hb.2;split at h
         . rename_i p z eff rd hl;injection h with h;subst h;have hav:=hf a;rw [ha] at hav;obtain ⟨b,hbn,hv⟩:=hav;obtain ⟨v,g1,g2,g3⟩:=load_ok (P:=P) (b:=b.b) (off:=i * b.sz + j) (hT t ti ht) hl (loadF_pre hl (by omega) (by omega)) (λ_ q hq=>by
            obtain ⟨u,hu,hr⟩:=Qt st he hbn (i:=i) (j:=j + q) b3 (show j + q < es by omega);exact ⟨u,by rw [Nat.add_assoc];exact hu,hr⟩)
           refine ⟨v,?_,g3⟩;simp only [resS,Sem.run_bind,hv,asAddr,Sem.run_pure,Result.andThen_ok,g1]
         . cases h
     . cases h
   . cases h
theorem resL_ok (hT : qO P T) {r : Qj} {H : Hp} {w : World} {fr : Fr} {tmps : Array Value} (st : St cx r H w) (hf : zAG cx r H w fr tmps) : ∀ (rv : List ResultVar) (l : List EV),resL T fr H rv = some l ->
 ∃ vs : List Value,(rv.mapM (resS tmps)).run P w = .ok vs w /\ vs.length = l.length /\ ∀ (i : Nat) x u,l[i]? = some x -> vs[i]? = some u -> x.rel r cx.X (wr r H) w u:=by
 intro rv;induction rv with
 | nil=>
   intro l h;simp only [resL,Option.some.injEq] at h;subst h;exact ⟨[],rfl,rfl,λi x u h=>by cases i<;>cases h⟩
 | cons x xs ih=>
   intro l h;simp only [resL] at h;split at h
   . rename_i y ys h1 h2;injection h with h;subst h;obtain ⟨v,g1,g2⟩:=resE_ok hT st hf h1;obtain ⟨vs,g3,g4,g5⟩:=ih ys h2;refine ⟨v :: vs,?_,by simp [g4],λi z u hz hu=>?_⟩
     . rw [List.mapM_cons];simp only [Sem.run_bind,g1,g3,Result.andThen_ok,Sem.run_pure]
     . cases i with
       | zero=>simp only [List.getElem?_cons_zero,Option.some.injEq] at hz hu;subst hz hu;exact g2
       | succ i=>exact g5 i z u (by simpa using hz) (by simpa using hu)
   . cases h
theorem zE6 (hT : qO P T) {r : Qj} {H : Hp} {w : World} {fr : Fr} {tmps : Array Value} (st : St cx r H w) (hf : zAG cx r H w fr tmps) {fn : Func} {l : List EV} (h : resL T fr H fn.results.toList = some l) :
 ∃ v,(results fn tmps).run P w = .ok v w /\ (asF l).rel r cx.X (wr r H) w v:=by
 obtain ⟨vs,h1,h2,h3⟩:=resL_ok hT st hf _ _ h;have hm : (fn.results.mapM (resS tmps)).run P w = .ok vs.toArray w:=by
  rw [Array.mapM_eq_mapM_toList,Sem.run_map,h1];rfl
 rw [zIL,Sem.run_bind,hm,Result.andThen_ok,Sem.run_pure];refine ⟨_,rfl,?_⟩;match l,vs,h2 with
 | [x],[v],_=>exact h3 0 x v rfl rfl
 | [],[],_=>exact ⟨#[],rfl,rfl,λi x u h=>by cases i<;>cases h⟩
 | x :: y :: l,v :: u :: vs,h2=>
   rw [dif_neg (by simp)];exact ⟨_,rfl,by simpa using h2,λi z q hz hq=>h3 i z q hz (by simpa using hq)⟩
def Ya : List FV -> Nat -> Fr
 | [],_=>[]
 | x :: xs,i=>(i,x) :: Ya xs (i + 1)
theorem zF2 : ∀ (args : List FV) (i t : Nat),YI (Ya args i) t = if i <= t then (args[t - i]?).getD .top else .top:=by
 intro args;induction args with
 | nil=>intro i t;simp [Ya,YI,qr]
 | cons x xs ih=>
   intro i t;by_cases h : t = i
   . subst h;have : YI (Ya (x :: xs) t) t = x:=zu _ _ _ _;rw [this];simp
   . have : YI (Ya (x :: xs) i) t = YI (Ya xs (i + 1)) t:=zg _ _ _ h;rw [this,ih];by_cases h2 : i + 1 <= t
     . rw [if_pos h2,if_pos (by omega),show t - i = (t - (i + 1)) + 1 by omega];simp
     . rw [if_neg h2,if_neg (by omega)]
def YQ (T : Tys) (rv : List ResultVar) (post : FV -> Hp -> Nat -> Prop) : Kt
 | .ret,fr,H,nx=>match resL T fr H rv with
   | some l=>post (asF l) H nx
   | none=>False
 | .normal,fr,H,nx=>match resL T fr H rv with
   | some l=>post (asF l) H nx
   | none=>False
 | _,_,_,_=>False
theorem zCm (hwd : 0 < wd) (hT : qO P T) (hQ : zBR P Q) (hm : P.follows .mixedOrders = true) {f : FuncId} {fn : Func} {c : Code} (hf : P.funcs[f]? = some fn) (hb : fn.body = some c) {args : List FV} (hn : args.length <= fn.ntmps) {H0 : Hp} {post : FV -> Hp -> Nat -> Prop}
 (h : qo T Q wd fn.ntmps np c (Ya args 0) H0 np (YQ T fn.results.toList post)) (hpin : ∀ k b,cx.pin k = some b -> k < np) {r : Qj} {w : World} {vals : Array Value} (st : St cx r H0 w) (hrel : zBS r cx.X (wr r H0) w args vals) (hnm : ∀ k,np <= k -> r k = none /\ zP H0 k = none) :
 Calls P f vals w λe w'=>∃ v r' x Hf nf,e = .returned v /\ post x Hf nf /\ St cx r' Hf w' /\ (∀ k,nf <= k -> r' k = none /\ zP Hf k = none) /\ x.rel r' cx.X (wr r' Hf) w' v /\ ∀ k,k < np -> r' k = r k:=by
 refine calls_of_wp hf hb ?_;have hsz : vals.size = args.length:=hrel.1;have fr0 : zAG cx r H0 w (Ya args 0) (vals ++ Array.replicate (fn.ntmps - vals.size) undef):=by
  intro t;rw [zF2,if_pos (Nat.zero_le _),Nat.sub_zero];cases hx : args[t]? with
  | none=>trivial
  | some x=>
    have hlt : t < vals.size:=by rw [hsz];exact (List.getElem?_eq_some_iff.1 hx).1
    have hv : vals[t]? = some vals[t]:=Array.getElem?_eq_getElem hlt;have e1 : (vals ++ Array.replicate (fn.ntmps - vals.size) undef).getD t undef = vals[t]:=by
     rw [Array.getD_eq_getD_getElem?,Array.getElem?_append_left hlt,hv];rfl
    rw [e1];exact hrel.2 t x _ hx hv
 refine wp_mono (exec_ok (fx:=r) hwd hT hQ hm hpin c _ _ _ _ h _ w ⟨_,st,fr0,hnm,by simp;omega,rfl,Nat.le_refl _,λ_ _=>rfl⟩) λe a' w' hq=>?_;obtain ⟨fr,H,nx,hk,r',st',hfr,hnm',_,hdf,_,hfx'⟩:=hq;have main : ∀ l,resL T fr H fn.results.toList = some l -> post (asF l) H nx -> a'.defers = [] /\ ∃ v,(results fn a'.tmps).run P w' = .ok v w' /\ ∃ u r' x Hf nf,Ending.returned v = .returned u /\ post x Hf nf /\ St cx r' Hf w' /\ (∀ k,nf <= k -> r' k = none /\ zP Hf k = none) /\ x.rel r' cx.X (wr r' Hf) w' u /\ ∀ k,k < np -> r' k = r k:=by
  intro l hl hp;obtain ⟨v,g1,g2⟩:=zE6 hT st' hfr hl;exact ⟨hdf,v,g1,v,r',_,H,nx,rfl,hp,st',hnm',g2,hfx'⟩
 cases e with
 | ret=>
   simp only [YQ] at hk;split at hk
   . rename_i l hl;exact main l hl hk
   . exact hk.elim
 | normal=>
   simp only [YQ] at hk;split at hk
   . rename_i l hl;exact main l hl hk
   . exact hk.elim
 | exit=>exact hk.elim
 | goto=>exact hk.elim
 | panic=>exact hk.elim
 | outgrown=>exact hk.elim
end
end Go.Proofs.YtjknkfjhcapocaaGreatDoor.AX
namespace Go.Proofs.YtjknkfjhcapocaaGreatDoor.AX
section
variable {c : Wc}
theorem wr_sub (hl : c.Live) {cx : Cx} {r : Qj} {b : Nat} (h : AX.wr (c.ren r) c.H' b) : AX.wr r c.H b:=by
 obtain ⟨k,e',x,he,hx,rfl⟩:=h;unfold Wc.ren at hx;split at hx
 . rename_i k0 hk0;obtain ⟨e,hh⟩:=hl k e' he k0 hk0;exact ⟨k0,e,x,hh,hx,rfl⟩
 . cases hx
theorem zA {k : IntKind} {a b : Int} (h : a = b) : LeC c (.int k a) (.int k b):=λ_ cx r w v _ hv=>by subst h;exact hv
theorem zH {a b : Bool} (h : a = b) : LeC c (.bool a) (.bool b):=λ_ cx r w v _ hv=>by subst h;exact hv
theorem zm : LeC c .nils .nils:=λ_ cx r w v _ hv=>hv
theorem leC_top {x : CV} : LeC c x .top:=λ_ cx r w v _ hv=>zAr hv
theorem ren_src {r : Qj} {k k' : Nat} (h : c.src k' = some k) : c.ren r k' = r k:=by unfold Wc.ren;rw [h]
theorem leC_ptr {k k' i j : Nat} {s s' : Bool} (h : c.src k' = some k) : LeC c (.ptr k i j s) (.ptr k' i j s'):=λ_ cx r w v _ ⟨b,hb,hv⟩=>⟨b,⟨by rw [ren_src h];exact hb.1,hb.2⟩,hv⟩
theorem zy {k k' i n n' : Nat} (h : c.src k' = some k) (hn : n = n') : LeC c (.os k i n) (.os k' i n'):=by
 subst hn;rintro _ cx r w v _ ⟨a,cap,rfl,h1,h2⟩;refine ⟨a,cap,rfl,h1,λh0=>?_⟩;obtain ⟨x,hx,h3⟩:=h2 h0;exact ⟨x,⟨by rw [ren_src h];exact hx.1,hx.2⟩,h3⟩
theorem qN {k' n : Nat} (hn : n = 0) : LeC c .nils (.os k' 0 n):=by
 subst hn;intro _ cx r w v _ hv;have : v = .slice none 0 0:=hv;subst this;exact ⟨none,0,rfl,Nat.le_refl _,λh=>absurd h (Nat.lt_irrefl _)⟩
theorem zW {sh : Bool} {n sz : Nat} {f : Nat -> Nat -> CV} (hn : n = 0) : LeC c .nils (.sl sh n sz f):=by
 subst hn;intro _ cx r w v _ hv;have : v = .slice none 0 0:=hv;subst this;exact ⟨none,0,rfl,Nat.le_refl _,λh=>absurd h (Nat.lt_irrefl _)⟩
theorem qh {sh sh' : Bool} {n n' sz sz' : Nat} {f g : Nat -> Nat -> CV} (hs : (sh' || c.fin) = true -> sh = true) (hn : n = n') (hz : sz = sz') (h : ∀ i,i < n -> ∀ j,j < sz -> LeC c (f i j) (g i j)) : LeC c (.sl sh n sz f) (.sl sh' n' sz' g):=by
 subst hn hz;rintro hl cx r w v st ⟨a,cap,rfl,h1,h3⟩;refine ⟨a,cap,rfl,h1,λh0=>?_⟩;obtain ⟨ad,rfl,hsp,ho,hX,hlt,hc⟩:=h3 h0;refine ⟨ad,rfl,hsp,?_,λh=>hX (hs (by rw [h];rfl)),hlt,λi hi j hj=>?_⟩
 . rintro (hw | ⟨hf,hx⟩)
   . exact ho (wr_sub (cx:=cx) hl hw)
   . exact hX (hs (by rw [hf];simp)) hx
 . obtain ⟨u,hu,hr⟩:=hc i hi j hj;exact ⟨u,hu,h i hi j hj hl cx r w u st hr⟩
def Wc.dead (c : Wc) (k : Nat) : Bool:=!((zEM c c.H').any (Nat.beq k))
theorem zF1 {sh : Bool} {k i n n' sz : Nat} {f : Nat -> Nat -> CV} {e : Ent} (he : zP c.H k = some e) (hd : c.dead k = true) (hz : e.sz = sz) (hn : n = n') (hle : i + n <= e.n) (h : ∀ q,q < n -> ∀ j,j < sz -> LeC c (e.f (i + q) j) (f q j)) : LeC c (.os k i n) (.sl sh n' sz f):=by
 subst hn hz;rintro hl cx r w v st ⟨a,cap,rfl,h1,h2⟩;refine ⟨a,cap,rfl,h1,λh0=>?_⟩;obtain ⟨x,⟨hx,hx0⟩,rfl,h4⟩:=h2 (by omega);obtain ⟨g1,g2,g3⟩:=st.blk k e he;rcases g3 with ⟨g3,_⟩ | ⟨y,cs,c1,c2,c3,c4,c5,c6⟩ | ⟨_,y,_,_,c1,c2,_⟩
 . rw [hx] at g3;cases g3
 . rw [hx] at c1;injection c1 with c1;subst c1;obtain ⟨d1,d2,d3⟩:=st.dom k x hx;refine ⟨⟨x.b,i * x.sz,none⟩,rfl,rfl,?_,λ_=>d3,d1,λq hq j hj=>?_⟩
   . rintro (⟨k',e',y,he',hy,hyb⟩ | ⟨_,hX⟩)
     . unfold Wc.ren at hy;split at hy
       . rename_i k0 hk0;obtain ⟨e0,hh⟩:=hl k' e' he' k0 hk0;have:=st.inj k0 k e0 e y x hh he hy hx hyb;subst this;have hm:=zHZ hk0 he';have : (zEM c c.H').any (Nat.beq k0) = true:=List.any_eq_true.2 ⟨k0,hm,by simp⟩;unfold Wc.dead at hd;rw [this] at hd;cases hd
       . cases hy
     . exact d3 hX
   . have hlt : (i + q) * e.sz + j < cs.size:=by
      rw [c4,c2];exact zGr (show i + q < e.n by omega) hj c5
     refine ⟨cs[(i + q) * e.sz + j],?_,h q hq j hj hl cx r w _ st (c6 (i + q) (by omega) j hj _ (Array.getElem?_eq_getElem hlt))⟩;have e1 : i * x.sz + (q * e.sz + j) = (i + q) * e.sz + j:=by rw [c2,Nat.add_mul];omega
     show w.cell? ⟨x.b,i * x.sz + (q * e.sz + j),none⟩ = _;rw [e1];simp [World.cell?,c3,Array.getElem?_eq_getElem hlt]
 . rw [hx] at c1;injection c1 with c1;subst c1;omega
theorem zAY {x y : CV} (h : LeC c x y) : LeE c (.c x) (.c y):=h
theorem qg {n m : Nat} {f g : Nat -> CV} (hn : n = m) (h : ∀ i,i < n -> LeC c (f i) (g i)) : LeE c (.agg n f) (.agg m g):=by
 subst hn;rintro hl cx r w v st ⟨cs,rfl,hs,hc⟩;exact ⟨cs,rfl,hs,λi u hu=>h i (by rw [<- hs];exact (Array.getElem?_eq_some_iff.1 hu).1) hl cx r w u st (hc i u hu)⟩
theorem ZS {x y : EV} (h : LeE c x y) : LeF c (.e x) (.e y):=h
theorem qM {x y : CV} (h : LeC c x y) : LeF c (.e (.c x)) (.e (.c y)):=h
theorem zF {k : IntKind} {a b : Int} (h : a = b) : LeF c (.e (.c (.int k a))) (.e (.c (.int k b))):=zA (c:=c) h
theorem zC {a b : Bool} (h : a = b) : LeF c (.e (.c (.bool a))) (.e (.c (.bool b))):=zH (c:=c) h
theorem zEU {k k' i j : Nat} {s s' : Bool} (h : c.src k' = some k) : LeF c (.e (.c (.ptr k i j s))) (.e (.c (.ptr k' i j s'))):=leC_ptr (c:=c) (s:=s) (s':=s') h
def LeL (c : Wc) : List EV -> List EV -> Prop
 | [],[]=>True
 | x :: l,y :: l'=>LeE c x y /\ LeL c l l'
 | _,_=>False
theorem LeL.at : ∀ {l l' : List EV},LeL c l l' -> l.length = l'.length /\ ∀ (i : Nat) x y,l[i]? = some x -> l'[i]? = some y -> LeE c x y:=by
 intro l;induction l with
 | nil=>
   intro l' h;cases l' with
   | nil=>exact ⟨rfl,λi x y h=>by cases i<;>cases h⟩
   | cons=>exact h.elim
 | cons x l ih=>
   intro l' h;cases l' with
   | nil=>exact h.elim
   | cons y l'=>
     obtain ⟨h1,h2⟩:=h;obtain ⟨h3,h4⟩:=ih h2;refine ⟨by simp [h3],λi a b ha hb=>?_⟩;cases i with
     | zero=>simp only [List.getElem?_cons_zero,Option.some.injEq] at ha hb;subst ha hb;exact h1
     | succ i=>exact h4 i a b (by simpa using ha) (by simpa using hb)
theorem zE {l l' : List EV} (h : LeL c l l') : LeF c (.tup l) (.tup l'):=by
 obtain ⟨h1,h2⟩:=h.at
 rintro hl cx r w v st ⟨vs,rfl,hs,hc⟩;refine ⟨vs,rfl,by rw [hs,h1],λi y u hy hu=>?_⟩;have hi : i < l.length:=by rw [h1];exact (List.getElem?_eq_some_iff.1 hy).1
 exact h2 i _ y (List.getElem?_eq_getElem hi) hy hl cx r w u st (hc i _ u (List.getElem?_eq_getElem hi) hu)
def allLt : Nat -> (Nat -> Prop) -> Prop
 | 0,_=>True
 | n + 1,p=>allLt n p /\ p n
theorem zE4 {p : Nat -> Prop} : ∀ {n : Nat},allLt n p -> ∀ i,i < n -> p i:=by
 intro n;induction n with
 | zero=>intro _ i h;omega
 | succ n ih=>
   intro h i hi;by_cases he : i = n
   . subst he;exact h.2
   . exact ih h.1 i (by omega)
theorem zd {n : Nat} {f g : Nat -> CV} (h : allLt n λi=>LeC c (f i) (g i)) : LeE c (.agg n f) (.agg n g):=qg rfl (zE4 h)
theorem zh {t : TypeId} {sz : Nat} {f g : Nat -> Nat -> CV} (h : allLt sz λj=>LeC c (f 0 j) (g 0 j)) : LeN c ⟨t,1,sz,true,f⟩ ⟨t,1,sz,true,g⟩:=
 ⟨rfl,rfl,rfl,rfl,λi hi j hj=>by have h1 : i < 1:=hi;have : i = 0:=by omega
                                 subst this;exact zE4 h j hj⟩
theorem Ys {t : TypeId} {sz : Nat} {f g : Nat -> Nat -> CV} (h : ∀ j,j < sz -> LeC c (f 0 j) (g 0 j)) : LeN c ⟨t,1,sz,true,f⟩ ⟨t,1,sz,true,g⟩:=
 ⟨rfl,rfl,rfl,rfl,λi hi j hj=>by have h1 : i < 1:=hi;have : i = 0:=by omega
                                 subst this;exact h j hj⟩
theorem zBe {t : TypeId} {n n' sz : Nat} {f g : Nat -> Nat -> CV} (hn : n = n') (h : ∀ i,i < n -> ∀ j,j < sz -> LeC c (f i j) (g i j)) : LeN c ⟨t,n,sz,false,f⟩ ⟨t,n',sz,false,g⟩:=⟨rfl,hn,rfl,rfl,h⟩
def Cl (x : CV) : Prop:=∀ c : Wc,c.fin = false -> LeC c x x
theorem cl_sl {sh : Bool} {n sz : Nat} {f : Nat -> Nat -> CV} (h : ∀ i,i < n -> ∀ j,j < sz -> Cl (f i j)) : Cl (.sl sh n sz f):=λc hc=>qh (by rw [hc];cases sh<;>simp) rfl rfl λi hi j hj=>h i hi j hj c hc
theorem zDi {H H' : Hp} {rho : List (Nat × Option Nat)} {nx : Nat} {x : CV} (h : Cl x) : LeF ⟨H,H',rho,nx,false⟩ (.e (.c x)) (.e (.c x)):=h _ rfl
end
theorem CV.rel_into {X' Y X W : Nat -> Prop} {r : Qj} {w : World} (hX : ∀ b,X b -> Y b) (hW : ∀ b,W b -> Y b) : ∀ (x : CV) (v : Value),x.rel (λ_=>none) X' Y w v -> x.rel r X W w v:=by
 intro x;induction x with
 | top=>intro v h;exact h
 | int=>intro v h;exact h
 | bool=>intro v h;exact h
 | ptr nm i j s=>rintro v ⟨x,hx,_⟩;cases hx.1
 | mp nm=>rintro v ⟨x,hx,_⟩;cases hx
 | nilp=>intro v h;exact h
 | nils=>intro v h;exact h
 | sl sh n sz f ih=>
   rintro v ⟨a,cap,rfl,h1,h2⟩;refine ⟨a,cap,rfl,h1,λh0=>?_⟩;obtain ⟨ad,rfl,hs,ho,_,hlt,hc⟩:=h2 h0;refine ⟨ad,rfl,hs,λh=>ho (hW _ h),λ_ h=>ho (hX _ h),hlt,λi hi j hj=>?_⟩;obtain ⟨u,hu,hr⟩:=hc i hi j hj;exact ⟨u,hu,ih i j u hr⟩
 | rp sh m g ih=>
   rintro v ⟨ad,rfl,hs,ho,_,hlt,hc⟩;refine ⟨ad,rfl,hs,λh=>ho (hW _ h),λ_ h=>ho (hX _ h),hlt,λj hj=>?_⟩;obtain ⟨u,hu,hr⟩:=hc j hj;exact ⟨u,hu,ih j u hr⟩
 | os nm i n=>
   rintro v ⟨a,cap,rfl,h1,h2⟩;refine ⟨a,cap,rfl,h1,λh0=>?_⟩;obtain ⟨x,hx,_⟩:=h2 h0;cases hx.1
 | oa nm i j n es=>
   rintro v ⟨a,cap,rfl,h1,h2⟩;refine ⟨a,cap,rfl,h1,λh0=>?_⟩;obtain ⟨x,hx,_⟩:=h2 h0;cases hx.1
 | fn f n m a ih=>
   rintro v ⟨fs,cs,rfl,h1,h2,h3,h4⟩;exact ⟨fs,cs,rfl,h1,h2,λk u hu=>ih k u (h3 k u hu),λk u hu=>ih _ u (h4 k u hu)⟩
theorem EV.rel_into {X' Y X W : Nat -> Prop} {r : Qj} {w : World} (hX : ∀ b,X b -> Y b) (hW : ∀ b,W b -> Y b) : ∀ (x : EV) (v : Value),x.rel (λ_=>none) X' Y w v -> x.rel r X W w v:=by
 intro x v;cases x with
 | c x=>exact CV.rel_into hX hW x v
 | agg n f=>rintro ⟨cs,rfl,hs,hc⟩;exact ⟨cs,rfl,hs,λi u hu=>CV.rel_into hX hW _ _ (hc i u hu)⟩
theorem FV.rel_into {X' Y X W : Nat -> Prop} {r : Qj} {w : World} (hX : ∀ b,X b -> Y b) (hW : ∀ b,W b -> Y b) : ∀ (x : FV) (v : Value),x.rel (λ_=>none) X' Y w v -> x.rel r X W w v:=by
 intro x v;cases x with
 | top=>exact λ_=>trivial
 | e x=>exact EV.rel_into hX hW x v
 | tup l=>rintro ⟨vs,rfl,hs,hc⟩;exact ⟨vs,rfl,hs,λi x u hx hu=>EV.rel_into hX hW _ _ (hc i x u hx hu)⟩
theorem runR_mono {T : Tys} {Q : Qs} (hM : zCn Q) {wd nt : Nat} {all : List Oper} {K K' : Fr -> Hp -> Nat -> Log -> Prop} (hK : ∀ fr H nx log,K fr H nx log -> K' fr H nx log) : ∀ (os : List Oper) (i : Nat) (fr : Fr) (H : Hp) (nx : Nat) (log : Log),
 zAR T Q wd nt all os i fr H nx log K -> zAR T Q wd nt all os i fr H nx log K':=by
 intro os;induction os with
 | nil=>intro i fr H nx log h;exact hK _ _ _ _ h
 | cons o os ih=>
   intro i fr H nx log h;unfold zAR at h ⊢;cases hd : zF5 nt o.dst with
   | false=>rw [hd] at h;exact h.elim
   | true=>
     rw [hd,cond_true] at h;rw [cond_true];split at h
     . split at h
       . split at h
         . exact hM _ _ _ _ _ _ ‹_› _ _ (λv e rd hh=>ih _ _ _ _ _ hh) h
         . exact h.elim
       . split at h
         . split at h
           . exact ih _ _ _ _ _ h
           . exact ⟨h.1,ih _ _ _ _ _ h.2⟩
           . exact ⟨λe=>ih _ _ _ _ _ (h.1 e),λe=>ih _ _ _ _ _ (h.2 e)⟩
           . exact ⟨h.1,λe=>ih _ _ _ _ _ (h.2.1 e),λe=>ih _ _ _ _ _ (h.2.2 e)⟩
           . exact h.elim
         . exact h.elim
     . exact ih _ _ _ _ _ h
     . exact h.elim
theorem zCM {n n' : Fr -> Hp -> Nat -> Prop} {K K' : Kt} (hn : ∀ fr H nx,n fr H nx -> n' fr H nx) (hK : ∀ e fr H nx,K e fr H nx -> K' e fr H nx) : ∀ e fr H nx,seqK n K e fr H nx -> seqK n' K' e fr H nx:=by
 intro e fr H nx h;cases e<;>first | exact hn _ _ _ h | exact hK _ _ _ _ h
theorem blkK_mono {id : Nat} {K K' : Kt} (hK : ∀ e fr H nx,K e fr H nx -> K' e fr H nx) : ∀ e fr H nx,blkK id K e fr H nx -> blkK id K' e fr H nx:=by
 intro e fr H nx h;cases e with
 | exit id'=>
   have h' : (bif Nat.beq id' id then K .normal fr H nx else K (.exit id') fr H nx):=h;show (bif Nat.beq id' id then K' .normal fr H nx else K' (.exit id') fr H nx);cases hb : Nat.beq id' id with
   | true=>rw [hb] at h';exact hK _ _ _ _ h'
   | false=>rw [hb] at h';exact hK _ _ _ _ h'
 | normal=>exact hK _ _ _ _ h
 | goto l=>exact hK _ _ _ _ h
 | ret=>exact hK _ _ _ _ h
 | panic c=>exact hK _ _ _ _ h
 | outgrown=>exact hK _ _ _ _ h
theorem iter_mono {np : Nat} {R : Fr -> Hp -> Nat -> Kt -> Prop} (hR : ∀ K K' : Kt,(∀ e fr H nx,K e fr H nx -> K' e fr H nx) -> ∀ fr H nx,R fr H nx K -> R fr H nx K') {K K' : Kt} (hK : ∀ e fr H nx,K e fr H nx -> K' e fr H nx) :
 ∀ n fr H nx,iter np R K n fr H nx -> iter np R K' n fr H nx:=by
 intro n;induction n with
 | zero=>intro fr H nx h;exact h
 | succ n ih=>
   intro fr H nx h;obtain ⟨fr',H',rho,nx',h0,hrho,h1,h2,h3⟩:=h;exact ⟨fr',H',rho,nx',h0,hrho,h1,h2,hR _ _ (zCM ih hK) _ _ _ h3⟩
theorem zAh {T : Tys} {Q : Qs} (hM : zCn Q) {wd nt np : Nat} : ∀ (c : Code) (K K' : Kt),(∀ e fr H nx,K e fr H nx -> K' e fr H nx) -> ∀ fr H nx,qo T Q wd nt np c fr H nx K -> qo T Q wd nt np c fr H nx K':=by
 intro c;induction c with
 | skip=>intro K K' hK fr H nx h;exact hK _ _ _ _ h
 | region id ops draw=>
   intro K K' hK fr H nx h;unfold qo at h ⊢;refine runR_mono hM (λfr H nx log h=>?_) _ _ _ _ _ _ h;cases hb : (!draw || zE7 ops.toList log.reverse) with
   | true=>rw [hb] at h;exact hK _ _ _ _ h
   | false=>rw [hb] at h;exact h
 | seq a b iha ihb=>
   intro K K' hK fr H nx h;exact iha _ _ (zCM (λfr H nx h=>ihb _ _ hK _ _ _ h) hK) _ _ _ h
 | cond c a b iha ihb=>
   intro K K' hK fr H nx h;unfold qo at h ⊢;split at h
   . exact ⟨λe=>iha _ _ hK _ _ _ (h.1 e),λe=>ihb _ _ hK _ _ _ (h.2 e)⟩
   . exact h.elim
 | block id c ih=>intro K K' hK fr H nx h;exact ih _ _ (blkK_mono hK) _ _ _ h
 | loop c ih=>
   intro K K' hK fr H nx h;obtain ⟨n,hn⟩:=h;exact ⟨n,iter_mono (λK K' hk fr H nx h=>ih K K' hk fr H nx h) hK n _ _ _ hn⟩
 | exit id=>intro K K' hK fr H nx h;exact hK _ _ _ _ h
 | ret=>intro K K' hK fr H nx h;exact hK _ _ _ _ h
 | label l=>intro K K' hK fr H nx h;exact hK _ _ _ _ h
 | rangeFunc=>intro K K' hK fr H nx h;exact h.elim
 | scope=>intro K K' hK fr H nx h;exact h.elim
 | goto=>intro K K' hK fr H nx h;exact h.elim
 | refuse=>intro K K' hK fr H nx h;exact h.elim
structure Hd where
 fr : Fr
 H : Hp
 nx : Nat
def To {σ : Type} (S : σ -> Hd) (np : Nat) (fr : Fr) (H : Hp) (s : σ) (rho : List (Nat × Option Nat)) : Prop:=
 rhoOk np ⟨H,(S s).H,rho,(S s).nx,false⟩ = true /\ WkF ⟨H,(S s).H,rho,(S s).nx,false⟩ fr (S s).fr /\ WkH ⟨H,(S s).H,rho,(S s).nx,false⟩ (S s).H
def Goes {σ : Type} (S : σ -> Hd) (μ : σ -> Nat) (np m : Nat) (fr : Fr) (H : Hp) : Prop:=∃ s rho,μ s < m /\ To S np fr H s rho
theorem zp {T : Tys} {Q : Qs} (hM : zCn Q) {wd nt np : Nat} {c : Code} {K : Kt} {σ : Type} (S : σ -> Hd) (μ : σ -> Nat) (hnp : ∀ s,Nat.ble np (S s).nx = true)
 (hround : ∀ s,qo T Q wd nt np c (S s).fr (S s).H (S s).nx (seqK (λfr H _=>Goes S μ np (μ s) fr H) K)) {fr : Fr} {H : Hp} {nx : Nat} (s0 : σ) (rho : List (Nat × Option Nat)) (h0 : To S np fr H s0 rho) :
 ∃ n,iter np (qo T Q wd nt np c) K n fr H nx:=by
 have key : ∀ m s rho fr H nx,μ s < m -> To S np fr H s rho -> iter np (qo T Q wd nt np c) K m fr H nx:=by
  intro m;induction m with
  | zero=>intro s rho fr H nx h;omega
  | succ m ih=>
    intro s rho fr H nx hm h1;refine ⟨(S s).fr,(S s).H,rho,(S s).nx,hnp s,h1.1,h1.2.1,h1.2.2,zAh hM c _ _ (zCM (λfr H nx h=>?_) (λ_ _ _ _ h=>h)) _ _ _ (hround s)⟩;obtain ⟨s',rho',h3,h4⟩:=h;exact ih s' rho' fr H nx (by omega) h4
 exact ⟨μ s0 + 1,key _ s0 rho _ _ _ (by omega) h0⟩
def QR (P : Program) : Qs:=λf args H nm wd=>some λK=>∃ v e rd,zCd P f args H nm wd ⟨none,v,e,rd⟩ /\ K v e rd
theorem QR_ok (P : Program) : zBR P (QR P):=by
 intro f args H nm wd q _ h K hK;injection h with h;subst h;exact hK
theorem runR_det {P : Program} {T : Tys} {Q : Qs} {wd nt : Nat} (hwd : 0 < wd) (hQ : zBR P Q) {all : List Oper} : ∀ (os : List Oper) (i : Nat) (fr : Fr) (H : Hp) (nx : Nat) (log : Log) (K : Fr -> Hp -> Nat -> Log -> Prop),zAR T Q wd nt all os i fr H nx log K ->
 ∃ fr' H' nx' log',K fr' H' nx' log' /\ ∀ K' : Fr -> Hp -> Nat -> Log -> Prop,K' fr' H' nx' log' -> zAR T (QR P) wd nt all os i fr H nx log K':=by
 intro os;induction os with
 | nil=>intro i fr H nx log K h;exact ⟨fr,H,nx,log,h,λK' h'=>h'⟩
 | cons o os ih=>
   intro i fr H nx log K h;unfold zAR at h;cases hd : zF5 nt o.dst with
   | false=>rw [hd] at h;exact h.elim
   | true=>
     rw [hd,cond_true] at h;split at h
     . rename_i hw;split at h
       . rename_i f args hc;split at h
         . rename_i q hq hG;obtain ⟨v,e,rd,h1,h2⟩:=hQ _ _ _ _ _ _ hwd hq _ h;obtain ⟨a,b,c,d,hK,hr⟩:=ih _ _ _ _ _ _ h2;refine ⟨a,b,c,d,hK,λK' hK'=>?_⟩;unfold zAR;simp only [hd,cond_true,hw,hc,hG,QR];exact ⟨v,e,rd,h1,hr K' hK'⟩
         . exact h.elim
       . rename_i hc;split at h
         . rename_i pre val eff rd hs;split at h
           . rename_i hG;obtain ⟨a,b,c,d,hK,hr⟩:=ih _ _ _ _ _ _ h;refine ⟨a,b,c,d,hK,λK' hK'=>?_⟩;unfold zAR;simp only [hd,cond_true,hw,hs,hc,hG];exact hr K' hK'
           . rename_i hG;obtain ⟨a,b,c,d,hK,hr⟩:=ih _ _ _ _ _ _ h.2;refine ⟨a,b,c,d,hK,λK' hK'=>?_⟩;unfold zAR;simp only [hd,cond_true,hw,hs,hc,hG];exact ⟨h.1,hr K' hK'⟩
           . rename_i b hG;rcases Bool.eq_false_or_eq_true b with hb | hb
             . subst hb;obtain ⟨a,b,c,d,hK,hr⟩:=ih _ _ _ _ _ _ (h.1 rfl);refine ⟨a,b,c,d,hK,λK' hK'=>?_⟩;unfold zAR;simp only [hd,cond_true,hw,hs,hc,hG];exact ⟨λ_=>hr K' hK',(λh=>nomatch h)⟩
             . subst hb;obtain ⟨a,b,c,d,hK,hr⟩:=ih _ _ _ _ _ _ (h.2 rfl);refine ⟨a,b,c,d,hK,λK' hK'=>?_⟩;unfold zAR;simp only [hd,cond_true,hw,hs,hc,hG];exact ⟨(λh=>nomatch h),λ_=>hr K' hK'⟩
           . rename_i p b hG;rcases Bool.eq_false_or_eq_true b with hb | hb
             . subst hb;obtain ⟨a,b,c,d,hK,hr⟩:=ih _ _ _ _ _ _ (h.2.1 rfl);refine ⟨a,b,c,d,hK,λK' hK'=>?_⟩;unfold zAR;simp only [hd,cond_true,hw,hs,hc,hG];exact ⟨h.1,λ_=>hr K' hK',(λh=>nomatch h)⟩
             . subst hb;obtain ⟨a,b,c,d,hK,hr⟩:=ih _ _ _ _ _ _ (h.2.2 rfl);refine ⟨a,b,c,d,hK,λK' hK'=>?_⟩;unfold zAR;simp only [hd,cond_true,hw,hs,hc,hG];exact ⟨h.1,(λh=>nomatch h),λ_=>hr K' hK'⟩
           . exact h.elim
         . exact h.elim
     . rename_i hw;obtain ⟨a,b,c,d,hK,hr⟩:=ih _ _ _ _ _ _ h;refine ⟨a,b,c,d,hK,λK' hK'=>?_⟩;unfold zAR;simp only [hd,cond_true,hw];exact hr K' hK'
     . exact h.elim
def Det (R : Kt -> Prop) (K : Kt) : Prop:=∃ e fr H nx,K e fr H nx /\ ∀ K' : Kt,K' e fr H nx -> R K'
theorem exec_det {P : Program} {T : Tys} {Q : Qs} {wd nt np : Nat} (hwd : 0 < wd) (hQ : zBR P Q) : ∀ (c : Code) (fr : Fr) (H : Hp) (nx : Nat) (K : Kt),qo T Q wd nt np c fr H nx K -> Det (qo T (QR P) wd nt np c fr H nx) K:=by
 intro c;induction c with
 | skip=>intro fr H nx K h;exact ⟨_,_,_,_,h,λK' h'=>h'⟩
 | region id ops draw=>
   intro fr H nx K h;unfold qo at h;obtain ⟨a,b,c,d,hK,hr⟩:=runR_det hwd hQ _ _ _ _ _ _ _ h;cases hb : (!draw || zE7 ops.toList d.reverse) with
   | false=>rw [hb] at hK;exact hK.elim
   | true=>
     rw [hb,cond_true] at hK;refine ⟨_,_,_,_,hK,λK' hK'=>?_⟩;unfold qo;refine hr _ ?_;rw [hb,cond_true];exact hK'
 | seq a b iha ihb=>
   intro fr H nx K h;unfold qo at h;obtain ⟨e,fr1,H1,nx1,hK,hr⟩:=iha _ _ _ _ h;cases e with
   | normal=>
     obtain ⟨e2,fr2,H2,nx2,hK2,hr2⟩:=ihb _ _ _ _ hK;refine ⟨e2,fr2,H2,nx2,hK2,λK' hK'=>?_⟩;unfold qo;exact hr _ (hr2 K' hK')
   | _=>
     refine ⟨_,_,_,_,hK,λK' hK'=>?_⟩;unfold qo;exact hr _ hK'
 | cond x a b iha ihb=>
   intro fr H nx K h;unfold qo at h;split at h
   . rename_i t ht;rcases Bool.eq_false_or_eq_true t with hb | hb
     . subst hb;obtain ⟨e,fr1,H1,nx1,hK,hr⟩:=iha _ _ _ _ (h.1 rfl);refine ⟨_,_,_,_,hK,λK' hK'=>?_⟩;unfold qo;rw [ht];exact ⟨λ_=>hr K' hK',(λh=>nomatch h)⟩
     . subst hb;obtain ⟨e,fr1,H1,nx1,hK,hr⟩:=ihb _ _ _ _ (h.2 rfl);refine ⟨_,_,_,_,hK,λK' hK'=>?_⟩;unfold qo;rw [ht];exact ⟨(λh=>nomatch h),λ_=>hr K' hK'⟩
   . exact h.elim
 | block id c ih=>
   intro fr H nx K h;unfold qo at h;obtain ⟨e,fr1,H1,nx1,hK,hr⟩:=ih _ _ _ _ h;cases e with
   | exit j=>
     cases hb : Nat.beq j id with
     | true=>
       simp only [blkK,hb,cond_true] at hK;refine ⟨_,_,_,_,hK,λK' hK'=>?_⟩;unfold qo;refine hr _ ?_;simp only [blkK,hb,cond_true];exact hK'
     | false=>
       simp only [blkK,hb,cond_false] at hK;refine ⟨_,_,_,_,hK,λK' hK'=>?_⟩;unfold qo;refine hr _ ?_;simp only [blkK,hb,cond_false];exact hK'
   | _=>
     refine ⟨_,_,_,_,hK,λK' hK'=>?_⟩;unfold qo;exact hr _ hK'
 | loop c ih=>
   intro fr H nx K h;unfold qo at h;obtain ⟨n,h⟩:=h;have key : ∀ n fr H nx,iter np (qo T Q wd nt np c) K n fr H nx -> ∃ e fr1 H1 nx1,K e fr1 H1 nx1 /\ ∀ K' : Kt,K' e fr1 H1 nx1 -> ∃ m,iter np (qo T (QR P) wd nt np c) K' m fr H nx:=by
    intro n;induction n with
    | zero=>intro fr H nx h;exact h.elim
    | succ n ihn=>
      intro fr H nx h;obtain ⟨fr',H',rho,nx',h0,hrho,h1,h2,h3⟩:=h;obtain ⟨e,fr1,H1,nx1,hK,hr⟩:=ih _ _ _ _ h3;cases e with
      | normal=>
        obtain ⟨e2,fr2,H2,nx2,hK2,hr2⟩:=ihn _ _ _ hK;refine ⟨e2,fr2,H2,nx2,hK2,λK' hK'=>?_⟩;obtain ⟨m,hm⟩:=hr2 K' hK';exact ⟨m + 1,fr',H',rho,nx',h0,hrho,h1,h2,hr _ hm⟩
      | _=>exact ⟨_,_,_,_,hK,λK' hK'=>⟨1,fr',H',rho,nx',h0,hrho,h1,h2,hr _ hK'⟩⟩
   obtain ⟨e,fr1,H1,nx1,hK,hr⟩:=key n _ _ _ h;refine ⟨e,fr1,H1,nx1,hK,λK' hK'=>?_⟩;unfold qo;exact hr K' hK'
 | exit id=>intro fr H nx K h;exact ⟨_,_,_,_,h,λK' h'=>h'⟩
 | ret=>intro fr H nx K h;exact ⟨_,_,_,_,h,λK' h'=>h'⟩
 | label l=>intro fr H nx K h;exact ⟨_,_,_,_,h,λK' h'=>h'⟩
 | _=>intro fr H nx K h;exact h.elim
theorem zDr {α : Type} {P : Program} {T : Tys} {Q : Qs} {wd nt np : Nat} (hwd : 0 < wd) (hQ : zBR P Q) {c : Code} {fr : Fr} {H : Hp} {nx : Nat} {rv : List ResultVar} {post : α -> FV -> Hp -> Nat -> Prop} {S : α -> Prop}
 (h : qo T Q wd nt np c fr H nx (YQ T rv λx Hf nf=>∃ a,S a /\ post a x Hf nf)) : ∃ a,S a /\ qo T (QR P) wd nt np c fr H nx (YQ T rv (post a)):=by
 obtain ⟨e,fr1,H1,nx1,hK,hr⟩:=exec_det hwd hQ _ _ _ _ _ h;have : ∃ a,S a /\ YQ T rv (post a) e fr1 H1 nx1:=by
  cases e with
  | ret=>
    simp only [YQ] at hK ⊢;split at hK
    . obtain ⟨a,h1,h2⟩:=hK;exact ⟨a,h1,h2⟩
    . exact hK.elim
  | normal=>
    simp only [YQ] at hK ⊢;split at hK
    . obtain ⟨a,h1,h2⟩:=hK;exact ⟨a,h1,h2⟩
    . exact hK.elim
  | _=>exact hK.elim
 obtain ⟨a,h1,h2⟩:=this;exact ⟨a,h1,hr _ h2⟩
end Go.Proofs.YtjknkfjhcapocaaGreatDoor.AX
namespace Go.Proofs.YtjknkfjhcapocaaGreatDoor.AX
open Go.RowKit
abbrev ZD:=List FV -> Hp -> Nat -> Nat -> Option Qf
structure EntOk (P : Program) (f : FuncId) (x : ZD) : Prop where
 ok : ∀ args H nm wd q,0 < wd -> x args H nm wd = some q -> ∀ K,q K -> ∃ v e rd,zCd P f args H nm wd ⟨none,v,e,rd⟩ /\ K v e rd
 mono : ∀ args H nm wd q,x args H nm wd = some q -> ∀ K K' : FV -> Hp -> List Nat -> Prop,(∀ v e rd,K v e rd -> K' v e rd) -> q K -> q K'
abbrev Qb:=List (Nat × Option ZD)
def mkQ (l : Qb) : Qs:=λf args H nm wd=>match qr none l f with
 | some e=>e args H nm wd
 | none=>none
def ZC (P : Program) : Qb -> Prop
 | []=>True
 | (_,none) :: l=>ZC P l
 | (f,some g) :: l=>EntOk P f g /\ ZC P l
theorem ZC.at {P : Program} : ∀ {l : Qb},ZC P l -> ∀ f g,qr none l f = some g -> EntOk P f g:=by
 intro l;induction l with
 | nil=>intro _ f g h;cases h
 | cons p l ih=>
   obtain ⟨k,x⟩:=p;intro h f g hf;by_cases hk : f = k
   . subst hk;rw [zu] at hf;subst hf;exact h.1
   . rw [zg _ _ _ hk] at hf;cases x with
     | none=>exact ih h f g hf
     | some y=>exact ih h.2 f g hf
theorem Qe {P : Program} : ∀ {a b : Qb},ZC P a -> ZC P b -> ZC P (a ++ b):=by
 intro a;induction a with
 | nil=>intro b _ h;exact h
 | cons p a ih=>
   intro b h1 h2;obtain ⟨k,x⟩:=p;cases x with
   | none=>exact ih h1 h2
   | some y=>exact ⟨h1.1,ih h1.2 h2⟩
theorem zT {P : Program} {l : Qb} (h : ZC P l) : zBR P (mkQ l):=by
 intro f args H nm wd q hwd hq;unfold mkQ at hq;split at hq
 . rename_i g hg;exact (h.at f g hg).ok args H nm wd q hwd hq
 . cases hq
theorem ZE {P : Program} {l : Qb} (h : ZC P l) : zCn (mkQ l):=by
 intro f args H nm wd q hq;unfold mkQ at hq;split at hq
 . rename_i g hg;exact (h.at f g hg).mono args H nm wd q hq
 . cases hq
def YU (r : Qj) (H : Hp) (rd : List Nat) (b : Nat) : Prop:=∃ nm e x,zP H nm = some e /\ r nm = some x /\ x.b = b /\ nm ∉ rd
def Bo (H : Hp) (rd : List Nat) (x y : FV) : Prop:=∀ cx r w v,St cx r H w -> x.rel r cx.X (wr r H) w v -> y.rel (λ_=>none) (λb=>cx.X b \/ wr r H b) (YU r H rd) w v
def BoL (H : Hp) (rd : List Nat) (l l' : List FV) : Prop:=l.length = l'.length /\ ∀ (i : Nat) x y,l[i]? = some x -> l'[i]? = some y -> Bo H rd x y
theorem FV.rel_w {r : Qj} {X W W' : Nat -> Prop} {w : World} (h : ∀ b,W' b -> W b) (x : FV) (v : Value) (hx : x.rel r X W w v) : x.rel r X W' w v:=
 FV.rel_ext ⟨λ_ _ h=>h,Nat.le_refl _,λ_ _ _=>rfl,λb _ hb=>h b hb⟩ x v hx
theorem CV.rel_w {r : Qj} {X W W' : Nat -> Prop} {w : World} (h : ∀ b,W' b -> W b) (x : CV) (v : Value) (hx : x.rel r X W w v) : x.rel r X W' w v:=
 CV.rel_ext ⟨λ_ _ h=>h,Nat.le_refl _,λ_ _ _=>rfl,λb _ hb=>h b hb⟩ x v hx
theorem Bo.more {H : Hp} {rd rd' : List Nat} {x y : FV} (h : Bo H rd x y) (hs : ∀ k ∈ rd,k ∈ rd') : Bo H rd' x y:=λcx r w v st hx=>
 FV.rel_w (λb ⟨nm,e,x,h1,h2,h3,h4⟩=>⟨nm,e,x,h1,h2,h3,λh=>h4 (hs nm h)⟩) _ _ (h cx r w v st hx)
structure Codec (α : Type) where
 enc : α -> FV
 dec : Hp -> FV -> Option (α × Option Prop × List Nat)
 sound : ∀ H H' x a p rd,dec H x = some (a,p,rd) -> Qg p -> (∀ k ∈ rd,zP H k = zP H' k) -> Bo H' rd x (enc a)
structure AC (α : Type) where
 enc : α -> List FV
 dec : Hp -> List FV -> Option (α × Option Prop × List Nat)
 sound : ∀ H H' l a p rd,dec H l = some (a,p,rd) -> Qg p -> (∀ k ∈ rd,zP H k = zP H' k) -> BoL H' rd l (enc a)
def AC.nil : AC Unit where
 enc _:=[]
 dec _ l:=match l with
  | []=>some ((),none,[])
  | _=>none
 sound H H' l a p rd h _ _:=by
  split at h
  . exact ⟨rfl,λi x y h=>by cases i<;>cases h⟩
  . cases h
def AC.cons {α β : Type} (c : Codec α) (d : AC β) : AC (α × β) where
 enc a:=c.enc a.1 :: d.enc a.2
 dec H l:=match l with
  | x :: l=>match c.dec H x with
    | some (a,p,rd)=>match d.dec H l with
      | some (b,q,rd')=>some ((a,b),zBF p q,rd ++ rd')
      | none=>none
    | none=>none
  | []=>none
 sound H H' l a p rd h hp hh:=by
  split at h
  . rename_i x l;split at h
    . rename_i a0 p0 rd0 h0;split at h
      . rename_i b q rd' h1;injection h with h;injection h with e1 e2;injection e2 with e2 e3;subst e1 e2 e3;obtain ⟨hp1,hp2⟩:=Qq.1 hp;have s1:=c.sound H H' x a0 p0 rd0 h0 hp1 (λk hk=>hh k (List.mem_append_left _ hk));obtain ⟨s2,s3⟩:=d.sound H H' l b q rd' h1 hp2 (λk hk=>hh k (List.mem_append_right _ hk));refine ⟨by simp [s2],λi x y hx hy=>?_⟩;cases i with
        | zero=>simp only [List.getElem?_cons_zero,Option.some.injEq] at hx hy;subst hx hy;exact s1.more λk hk=>List.mem_append_left _ hk
        | succ i=>exact (s3 i x y (by simpa using hx) (by simpa using hy)).more λk hk=>List.mem_append_right _ hk
      . cases h
    . cases h
  . cases h
def pAnd : Option Prop -> Prop -> Prop
 | none,q=>q
 | some p,q=>p /\ q
theorem QD {p : Option Prop} {q : Prop} : pAnd p q ↔ Qg p /\ q:=by cases p<;>simp [pAnd,Qg]
structure Done (H : Hp) (x spec : FV) : Prop where
 le : LeF ⟨H,[],[],0,true⟩ x spec
def zY (P : Program) (f : FuncId) (args : List FV) (spec : FV) : Prop:=
 ∀ X w (vals : Array Value),zBS (λ_=>none) X (λ_=>False) w args vals -> Xw X w -> Calls P f vals w λe w'=>∃ v,e = .returned v /\ Below w.heap.size w w' /\ spec.rel (λ_=>none) X X w' v
theorem zFz {cx : Cx} {r : Qj} {H : Hp} {w : World} (st : St cx r H w) : Xw (λb=>cx.X b \/ wr r H b) w:=by
 refine ⟨?_,λp hp=>?_⟩
 . rintro b (hx | ⟨k,e,x,_,hx,rfl⟩)
   . exact Nat.lt_of_lt_of_le (st.xlt.lt b hx) st.size
   . exact (st.dom k x hx).1
 . obtain ⟨h1,h2,h3⟩:=st.xlt.gl p hp;refine ⟨Nat.lt_of_lt_of_le h1 st.size,?_,λj k n hkn=>?_⟩
   . rintro (hx | ⟨k,e,x,he,hx,hb⟩)
     . exact h2 (.inl hx)
     . rcases (st.dom k x hx).2.1 with hd | hd
       . omega
       . exact h2 (.inr (.inl (by rw [<- hb];exact hd)))
   . rw [<- h3 j k n hkn];exact zBh (st.kept _ h1 λhE=>h2 (.inr (.inr hE)))
theorem zAf {X Y : Nat -> Prop} {w : World} (h : GlobOk X w) (hY : ∀ p ∈ GL,Y p.1 -> X p.1) : GlobOk Y w:=λp hp=>⟨(h p hp).1,λhy=>(h p hp).2.1 (hY p hp hy),(h p hp).2.2⟩
theorem zE1 {w : World} {X : Nat -> Prop} (hX : Xw X w) : St ⟨w,λ_=>False,λ_=>False,X,λ_=>none⟩ (λ_=>none) [] w:=
 ⟨rfl,rfl,rfl,Nat.le_refl _,λ_ _ _=>rfl,⟨hX.1,zAf hX.2 λp _ h=>h.elim id λh=>h.elim False.elim False.elim⟩,(λ_ _ h=>by cases h),(λ_ _ _ h=>by cases h),(λ_ _ _ _ _ _ h=>by cases h),(λ_ _ h=>by cases h),λ_ _ h=>by cases h⟩
theorem wr_nil {r : Qj} : wr r [] = λ_=>False:=by
 funext b
 simp [wr,zP,qr]
theorem ren_nil {H : Hp} {r : Qj} : Wc.ren ⟨H,[],[],0,true⟩ r = λ_=>none:=by
 funext k
 have : Nat.blt k 0 = false:=by
  cases hb : Nat.blt k 0 with
  | false=>rfl
  | true=>exact absurd (Nat.le_of_ble_eq_true hb) (by omega)
 simp [Wc.ren,Wc.src,zA7,this]
section
variable {P : Program} {T : Tys} {Q : Qs} {wd : Nat}
theorem zG (hwd : 0 < wd) (hT : qO P T) (hQ : zBR P Q) (hm : P.follows .mixedOrders = true) {f : FuncId} {fn : Func} {c : Code} (hf : P.funcs[f]? = some fn) (hb : fn.body = some c) (args : List FV) (hn : args.length <= fn.ntmps) (spec : FV)
 (h : qo T Q wd fn.ntmps 0 c (Ya args 0) [] 0 (YQ T fn.results.toList λx H _=>Done H x spec)) : zY P f args spec:=by
 intro X w vals hrel hX;have hrel' : zBS (λ_=>none) X (wr (λ_=>none) []) w args vals:=by rw [wr_nil];exact hrel
 refine (zCm hwd hT hQ hm hf hb hn h (λ_ _ h=>by cases h) (zE1 hX) hrel' (λ_ _=>⟨rfl,rfl⟩)).mono λe w' he=>?_;obtain ⟨v,r',x,Hf,nf,rfl,hfin,st,_,hx,_⟩:=he;refine ⟨v,rfl,⟨st.os,st.tape,st.output,st.size,λb hb=>st.kept b hb id⟩,?_⟩;have h1:=hfin.le (λk e' h=>by cases h) _ r' w' v st hx;rw [ren_nil] at h1;refine FV.rel_w (λb hb=>?_) _ _ h1;exact .inr ⟨rfl,hb⟩
end
theorem zE2 {P : Program} {f : FuncId} (hb : YS P f) {args args' : List FV} {H : Hp} {rd : List Nat} {nm wd : Nat} {spec : FV} (hbo : ∀ H',(∀ k ∈ rd,zP H k = zP H' k) -> BoL H' rd args args') (h : zY P f args' spec) : zCd P f args H nm wd ⟨none,spec,[],rd⟩:=by
 refine ⟨hb,λH' hh cx r w vals st hfr _ hrel=>?_⟩;obtain ⟨h1,h2⟩:=hbo H' hh;refine (h (λb=>cx.X b \/ wr r H' b) w vals ⟨hrel.1.trans h1,λi y u hy hu=>?_⟩ ?_).mono λe w' he=>?_
 . have hi : i < args.length:=by rw [h1];exact (List.getElem?_eq_some_iff.1 hy).1
   exact FV.rel_w (λ_ h=>h.elim) _ _ (h2 i _ y (List.getElem?_eq_getElem hi) hy cx r w u st (hrel.2 i _ u (List.getElem?_eq_getElem hi) hu))
 . exact zFz st
 . obtain ⟨v,rfl,hbel,hv⟩:=he;obtain ⟨g1,g2⟩:=st.below hbel;exact ⟨v,rfl,r,g1,g2,λ_ _=>rfl,λk e he=>.inr ⟨e,he⟩,FV.rel_into (λb hb=>.inl hb) (λb hb=>.inr hb) _ _ hv⟩
def ZH {α R : Type} (A : AC α) (p : α -> Prop) (F : α -> R) (enc : R -> FV) : ZD:=λargs H _ _=>
 match A.dec H args with
 | some (a,q,rd)=>some λK=>pAnd q (p a /\ ∀ s,s = F a -> K (enc s) [] rd)
 | none=>none
theorem zO {α R : Type} {A : AC α} {p : α -> Prop} {F : α -> R} {enc : R -> FV} {P : Program} {f : FuncId} (hb : YS P f) (h : ∀ a,p a -> zY P f (A.enc a) (enc (F a))) : EntOk P f (ZH A p F enc):=by
 refine ⟨λargs H nm wd q _ hq K hK=>?_,λargs H nm wd q hq K K' hKK hK=>?_⟩
 . unfold ZH at hq;split at hq
   . rename_i a pr rd hd;injection hq with hq;subst hq;obtain ⟨h1,h2,h3⟩:=QD.1 hK;exact ⟨_,_,_,zE2 hb (λH' hh=>A.sound H H' args a pr rd hd h1 hh) (h a h2),h3 _ rfl⟩
   . cases hq
 . unfold ZH at hq;split at hq
   . injection hq with hq;subst hq;obtain ⟨h1,h2,h3⟩:=QD.1 hK;exact QD.2 ⟨h1,h2,λs hs=>hKK _ _ _ (h3 s hs)⟩
   . cases hq
def resN (kd : Option Nat) (rest : Option (List EV)) (nm : Nat) : FV:=
 match kd,rest with
 | some n,none=>one (.os nm 0 n)
 | some n,some l=>.tup (.c (.os nm 0 n) :: l)
 | none,none=>one (.ptr nm 0 0 false)
 | none,some l=>.tup (.c (.ptr nm 0 0 false) :: l)
def NF (x : CV) : Prop:=∀ r r' X W w v,x.rel r X W w v -> x.rel r' X W w v
def NFE (x : EV) : Prop:=∀ r r' X W w v,x.rel r X W w v -> x.rel r' X W w v
theorem QS {k : IntKind} {a : Int} : NF (.int k a):=λ_ _ _ _ _ _ h=>h
theorem nf_bool {a : Bool} : NF (.bool a):=λ_ _ _ _ _ _ h=>h
theorem zE3 {sh : Bool} {n sz : Nat} {f : Nat -> Nat -> CV} (h : ∀ i,i < n -> ∀ j,j < sz -> NF (f i j)) : NF (.sl sh n sz f):=by
 rintro r r' X W w v ⟨a,cap,rfl,h1,h2⟩;refine ⟨a,cap,rfl,h1,λh0=>?_⟩;obtain ⟨ad,rfl,hs,ho,hX,hlt,hc⟩:=h2 h0;refine ⟨ad,rfl,hs,ho,hX,hlt,λi hi j hj=>?_⟩;obtain ⟨u,hu,hr⟩:=hc i hi j hj;exact ⟨u,hu,h i hi j hj _ _ _ _ _ _ hr⟩
theorem zC7 {x : CV} (h : NF x) : NFE (.c x):=h
def at0 (o : Option Bi) : Qj:=λk=>if k = 0 then o else none
def orB (X : Nat -> Prop) (o : Option Bi) (b : Nat) : Prop:=X b \/ ∃ x,o = some x /\ x.b = b
def ql (P : Program) (f : FuncId) (args : List FV) (kd : Option Nat) (rest : Option (List EV)) (e' : Ent) : Prop:=
 ∀ X w (vals : Array Value),zBS (λ_=>none) X (λ_=>False) w args vals -> Xw X w -> Calls P f vals w λe w'=>∃ v o,e = .returned v /\ Below w.heap.size w w' /\ (∀ x,o = some x -> w.heap.size <= x.b /\ x.b < w'.heap.size) /\
   Qm (λ_=>none) X (orB X o) w' e' o w'.heap /\ (resN kd rest 0).rel (at0 o) X (orB X o) w' v
structure FinN (kd : Option Nat) (rest : Option (List EV)) (e' : Ent) (x : FV) (H : Hp) : Prop where
 ex : ∃ rho,LeF ⟨H,[(0,some e')],[(0,rho)],1,true⟩ x (resN kd rest 0) /\ WkE ⟨H,[(0,some e')],[(0,rho)],1,true⟩ e' rho
section
variable {P : Program} {T : Tys} {Q : Qs} {wd : Nat}
theorem ZR (hwd : 0 < wd) (hT : qO P T) (hQ : zBR P Q) (hm : P.follows .mixedOrders = true) {f : FuncId} {fn : Func} {c : Code} (hf : P.funcs[f]? = some fn) (hb : fn.body = some c) (args : List FV) (hn : args.length <= fn.ntmps) {kd : Option Nat} {rest : Option (List EV)} {e' : Ent}
 (hnf : ∀ i,i < e'.n -> ∀ j,j < e'.sz -> NF (e'.f i j)) (h : qo T Q wd fn.ntmps 0 c (Ya args 0) [] 0 (YQ T fn.results.toList λx H _=>FinN kd rest e' x H)) : ql P f args kd rest e':=by
 intro X w vals hrel hX;have hrel' : zBS (λ_=>none) X (wr (λ_=>none) []) w args vals:=by rw [wr_nil];exact hrel
 refine (zCm hwd hT hQ hm hf hb hn h (λ_ _ h=>by cases h) (zE1 hX) hrel' (λ_ _=>⟨rfl,rfl⟩)).mono λe w' he=>?_;obtain ⟨v,r',x,Hf,nf,rfl,⟨rho,hfin,hent⟩,st,_,hx,_⟩:=he;have hsrc : ∀ k,Wc.src ⟨Hf,[(0,some e')],[(0,rho)],1,true⟩ k = if k = 0 then rho else none:=λk=>by
  unfold Wc.src;simp only [zA7];by_cases hk : k = 0
  . subst hk;simp
  . have h1 : Nat.beq k 0 = false:=by
     cases hb : Nat.beq k 0 with
     | false=>rfl
     | true=>exact absurd (Nat.eq_of_beq_eq_true hb) hk
    have h2 : Nat.blt k 1 = false:=by
     cases hb : Nat.blt k 1 with
     | false=>rfl
     | true=>have:=Nat.le_of_ble_eq_true hb;omega
    simp [h1,h2,hk]
 have hren : Wc.ren ⟨Hf,[(0,some e')],[(0,rho)],1,true⟩ r' = at0 (rho.bind r'):=by
  funext k
  unfold Wc.ren at0;rw [hsrc];by_cases hk : k = 0
  . rw [if_pos hk,if_pos hk];cases rho<;>rfl
  . rw [if_neg hk,if_neg hk]
 have hlive : Wc.Live ⟨Hf,[(0,some e')],[(0,rho)],1,true⟩:=λk e1 he1 k0 hk0=>by
  rw [hsrc] at hk0;split at hk0
  . subst hk0;unfold WkE at hent;simp only at hent;split at hent
    . rename_i e2 hh;exact ⟨e2,hh⟩
    . exact hent.elim
  . cases hk0
 have hwr : ∀ b,orB X (rho.bind r') b -> Wc.wr ⟨Hf,[(0,some e')],[(0,rho)],1,true⟩ ⟨w,λ_=>False,λ_=>False,X,λ_=>none⟩ r' b:=λb hb=>by
  rcases hb with hb | ⟨y,hy,hyb⟩
  . exact .inr ⟨rfl,hb⟩
  . refine .inl ⟨0,e',y,zu _ _ _ _,?_,hyb⟩;rw [hren];show (if 0 = 0 then _ else _) = _;rw [if_pos rfl];exact hy
 refine ⟨v,rho.bind r',rfl,⟨st.os,st.tape,st.output,st.size,λb hb=>st.kept b hb id⟩,λy hy=>?_,?_,?_⟩
 . cases rho with
   | none=>cases hy
   | some j=>
     have hy' : r' j = some y:=hy;obtain ⟨d1,d2,_⟩:=st.dom j y hy';exact ⟨d2.resolve_right id,d1⟩
 . cases rho with
   | none=>
     obtain ⟨g1,g2,g3⟩:=hent;exact ⟨g3,(λh=>by rw [g2] at h;cases h),.inl ⟨rfl,g1⟩⟩
   | some j=>
     unfold WkE at hent;simp only at hent;split at hent
     . rename_i e2 hh;exact (st.blk j e2 hh).map hent.t hent.n hent.sz hent.v rfl (λ_ _=>rfl) λi hi j' hj u hu=>by
        have h1:=hent.f i hi j' hj hlive _ r' w' u st hu;exact CV.rel_w hwr _ _ (hnf i (by rw [<- hent.n];exact hi) j' (by rw [<- hent.sz];exact hj) _ _ _ _ _ _ h1)
     . exact hent.elim
 . have h1:=hfin hlive _ r' w' v st hx;rw [hren] at h1;exact FV.rel_w hwr _ _ h1
end
theorem resN_into {kd : Option Nat} {rest : Option (List EV)} {o : Option Bi} {nm : Nat} {r : Qj} {X' X W : Nat -> Prop} {w : World} {v : Value} (hr : r nm = o) (hrest : ∀ l,rest = some l -> ∀ x ∈ l,NFE x) (hX : ∀ b,X b -> orB X' o b) (hW : ∀ b,W b -> orB X' o b) (h : (resN kd rest 0).rel (at0 o) X' (orB X' o) w v) : (resN kd rest nm).rel r X W w v:=by
 have hos : ∀ n u,(CV.os 0 0 n).rel (at0 o) X' (orB X' o) w u -> (CV.os nm 0 n).rel r X W w u:=by
  rintro n u ⟨a,cap,rfl,h1,h2⟩;refine ⟨a,cap,rfl,h1,λh0=>?_⟩;obtain ⟨x,hx,h3⟩:=h2 h0;exact ⟨x,⟨by rw [hr];exact hx.1,hx.2⟩,h3⟩
 have hpt : ∀ u,(CV.ptr 0 0 0 false).rel (at0 o) X' (orB X' o) w u -> (CV.ptr nm 0 0 false).rel r X W w u:=by
  rintro u ⟨x,hx,rfl⟩;exact ⟨x,⟨by rw [hr];exact hx.1,hx.2⟩,rfl⟩
 have htup : ∀ (a b : CV) l,rest = some l -> (∀ u,a.rel (at0 o) X' (orB X' o) w u -> b.rel r X W w u) -> (FV.tup (.c a :: l)).rel (at0 o) X' (orB X' o) w v -> (FV.tup (.c b :: l)).rel r X W w v:=by
  rintro a b l hl hab ⟨vs,rfl,h1,h2⟩;refine ⟨vs,rfl,by simpa using h1,λi x u hx hu=>?_⟩;cases i with
  | zero=>
    simp only [List.getElem?_cons_zero,Option.some.injEq] at hx;subst hx;exact hab u (h2 0 _ u rfl hu)
  | succ i=>
    have hx' : l[i]? = some x:=by simpa using hx
    have:=hrest l hl x (List.mem_of_getElem? hx') _ (λ_=>none) _ _ _ _ (h2 (i + 1) x u (by simpa using hx) hu);exact EV.rel_into hX hW _ _ this
 cases kd with
 | some n=>
   cases rest with
   | none=>exact hos n v h
   | some l=>exact htup _ _ l rfl (hos n) h
 | none=>
   cases rest with
   | none=>exact hpt v h
   | some l=>exact htup _ _ l rfl hpt h
theorem zF0 {P : Program} {f : FuncId} (hb : YS P f) {args args' : List FV} {H : Hp} {rd : List Nat} {nm wd : Nat} (hwd : 0 < wd) {kd : Option Nat} {rest : Option (List EV)} {e' : Ent} (hrest : ∀ l,rest = some l -> ∀ x ∈ l,NFE x)
 (hbo : ∀ H',(∀ k ∈ rd,zP H k = zP H' k) -> BoL H' rd args args') (h : ql P f args' kd rest e') : zCd P f args H nm wd ⟨none,resN kd rest nm,[(nm,some e')],rd⟩:=by
 refine ⟨hb,λH' hh cx r w vals st hfr _ hrel=>?_⟩;obtain ⟨h1,h2⟩:=hbo H' hh;refine (h (λb=>cx.X b \/ wr r H' b) w vals ⟨hrel.1.trans h1,λi y u hy hu=>?_⟩ (zFz st)).mono λe w' he=>?_
 . have hi : i < args.length:=by rw [h1];exact (List.getElem?_eq_some_iff.1 hy).1
   exact FV.rel_w (λ_ h=>h.elim) _ _ (h2 i _ y (List.getElem?_eq_getElem hi) hy cx r w u st (hrel.2 i _ u (List.getElem?_eq_getElem hi) hu))
 . obtain ⟨v,o,rfl,hbel,ho,hent,hv⟩:=he;obtain ⟨hr0,hh0⟩:=hfr nm (Nat.le_refl _) (by omega);have hr2 : ∀ k x,r k = some x -> (if k = nm then o else r k) = some x:=λk x hx=>by
    by_cases hk : k = nm
    . subst hk;rw [hr0] at hx;cases hx
    . rw [if_neg hk];exact hx
   have hl0 : zP ((nm,some e') :: H') nm = some e':=zu _ _ _ _;have hl : ∀ k,k ≠ nm -> zP ((nm,some e') :: H') k = zP H' k:=λk hk=>zg _ _ _ hk;have hwr2 : ∀ b,wr (λk=>if k = nm then o else r k) ((nm,some e') :: H') b -> orB (λb=>cx.X b \/ wr r H' b) o b:=by
    rintro b ⟨k,e,x,he,hx,hxb⟩;by_cases hk : k = nm
    . subst hk;have hx' : (if k = k then o else r k) = some x:=hx;rw [if_pos rfl] at hx';exact .inr ⟨x,hx',hxb⟩
    . have hx' : (if k = nm then o else r k) = some x:=hx;rw [if_neg hk] at hx';rw [hl k hk] at he;exact .inl (.inr ⟨k,e,x,he,hx',hxb⟩)
   obtain ⟨g1,g2⟩:=st.below hbel;have hdomo : ∀ x,o = some x -> x.b < w'.heap.size /\ cx.w0.heap.size <= x.b /\ ¬ cx.X x.b:=λx hx=>by
    obtain ⟨a1,a2⟩:=ho x hx;refine ⟨a2,Nat.le_trans st.size a1,λhX=>?_⟩;have:=Nat.lt_of_lt_of_le (st.xlt.lt _ hX) st.size;omega
   have hE : Ext r (wr r H') w (λk=>if k = nm then o else r k) (wr (λk=>if k = nm then o else r k) ((nm,some e') :: H')) w':=by
    refine ⟨hr2,hbel.size,λb hb _=>hbel.block b hb,λb hb hw=>?_⟩;rcases hwr2 b hw with (hX | hw) | ⟨x,hx,hxb⟩
    . obtain ⟨k,e,x,he,hx,hxb⟩:=hw;by_cases hk : k = nm
      . subst hk;have hx' : (if k = k then o else r k) = some x:=hx;rw [if_pos rfl] at hx';obtain ⟨a1,a2⟩:=ho x hx';omega
      . have hx' : (if k = nm then o else r k) = some x:=hx;rw [if_neg hk] at hx';rw [hl k hk] at he;exact ⟨k,e,x,he,hx',hxb⟩
    . exact hw
    . obtain ⟨a1,a2⟩:=ho x hx;omega
   refine ⟨v,rfl,λk=>if k = nm then o else r k,hE,⟨g2.os,g2.tape,g2.output,g2.size,g2.kept,g2.xlt,λk x hx=>?_,λk e x he hx=>?_,λn m e1 e2 x y hn hm hx hy hxy=>?_,λk b hk=>hr2 k b (g2.pin k b hk),λk e he=>?_⟩,λk hk=>if_neg (by omega),λk e he=>?_,?_⟩
   . by_cases hk : k = nm
     . simp only [if_pos hk] at hx;obtain ⟨a1,a2,a3⟩:=hdomo x hx;exact ⟨a1,.inl a2,a3⟩
     . simp only [if_neg hk] at hx;exact g2.dom k x hx
   . by_cases hk : k = nm
     . simp only [if_pos hk] at hx;exact .inl (hdomo x hx).2.1
     . simp only [if_neg hk] at hx;have he' : zP ((nm,some e') :: H') k = some e:=he;rw [hl k hk] at he';exact g2.ow k e x he' hx
   . have lt : ∀ k x,k ≠ nm -> (if k = nm then o else r k) = some x -> x.b < w.heap.size:=λk x hk hx=>by rw [if_neg hk] at hx;exact (st.dom k x hx).1
     have ge : ∀ x,(if nm = nm then o else r nm) = some x -> w.heap.size <= x.b:=λx hx=>by rw [if_pos rfl] at hx;exact (ho x hx).1
     by_cases h : n = nm
     . by_cases h' : m = nm
       . omega
       . have:=lt m y h' hy;subst h;have:=ge x hx;omega
     . by_cases h' : m = nm
       . have:=lt n x h hx;subst h';have:=ge y hy;omega
       . have hn' : zP ((nm,some e') :: H') n = some e1:=hn;have hm' : zP ((nm,some e') :: H') m = some e2:=hm;rw [hl n h] at hn';rw [hl m h'] at hm';simp only [if_neg h] at hx;simp only [if_neg h'] at hy;exact st.inj n m e1 e2 x y hn' hm' hx hy hxy
   . have he' : zP ((nm,some e') :: H') k = some e:=he;by_cases hk : k = nm
     . subst hk;rw [hl0] at he';injection he' with he';subst he';simp only [if_true];exact hent.map rfl rfl rfl rfl rfl (λ_ _=>rfl) λi _ j _ u hu=>CV.rel_into (λb hb=>.inl (.inl hb)) hwr2 _ _ hu
     . rw [hl k hk] at he';simp only [if_neg hk];have hold:=st.old he' rfl (w':=w') λx hx=>hbel.block _ (st.dom k x hx).1;exact hold.ext hE
   . have he' : zP ((nm,some e') :: H') k = some e:=he;by_cases hk : k = nm
     . exact .inl ⟨.inl (by omega),by omega⟩
     . rw [hl k hk] at he';exact .inr ⟨e,he'⟩
   . exact resN_into (if_pos rfl) hrest (λb hb=>.inl (.inl hb)) hwr2 hv
def zBu {α R : Type} (A : AC α) (p : α -> Prop) (F : α -> R) (kd : R -> Option Nat) (rest : R -> Option (List EV)) (ent : R -> Ent) : ZD:=λargs H nm _=>
 match A.dec H args with
 | some (a,q,rd)=>some λK=>pAnd q (p a /\ ∀ s,s = F a -> K (resN (kd s) (rest s) nm) [(nm,some (ent s))] rd)
 | none=>none
theorem QF {α R : Type} {A : AC α} {p : α -> Prop} {F : α -> R} {kd : R -> Option Nat} {rest : R -> Option (List EV)} {ent : R -> Ent} {P : Program} {f : FuncId} (hb : YS P f) (hrest : ∀ s l,rest s = some l -> ∀ x ∈ l,NFE x) (h : ∀ a,p a -> ql P f (A.enc a) (kd (F a)) (rest (F a)) (ent (F a))) : EntOk P f (zBu A p F kd rest ent):=by
 refine ⟨λargs H nm wd q hwd hq K hK=>?_,λargs H nm wd q hq K K' hKK hK=>?_⟩
 . unfold zBu at hq;split at hq
   . rename_i a pr rd hd;injection hq with hq;subst hq;obtain ⟨h1,h2,h3⟩:=QD.1 hK;exact ⟨_,_,_,zF0 hb hwd (hrest _) (λH' hh=>A.sound H H' args a pr rd hd h1 hh) (h a h2),h3 _ rfl⟩
   . cases hq
 . unfold zBu at hq;split at hq
   . injection hq with hq;subst hq;obtain ⟨h1,h2,h3⟩:=QD.1 hK;exact QD.2 ⟨h1,h2,λs hs=>hKK _ _ _ (h3 s hs)⟩
   . cases hq
theorem CV.rel_sub {X W X' W' : Nat -> Prop} {r : Qj} {w : World} (hX : ∀ b,X' b -> X b \/ W b) (hW : ∀ b,W' b -> W b) : ∀ (x : CV) (v : Value),x.rel r X W w v -> x.rel r X' W' w v:=by
 intro x;induction x with
 | top=>intro v h;exact h
 | int=>intro v h;exact h
 | bool=>intro v h;exact h
 | ptr nm i j s=>intro v h;exact h
 | nilp=>intro v h;exact h
 | nils=>intro v h;exact h
 | mp nm=>intro v h;exact h
 | sl sh n sz f ih=>
   rintro v ⟨a,cap,rfl,h1,h2⟩;refine ⟨a,cap,rfl,h1,λh0=>?_⟩;obtain ⟨ad,rfl,hs,ho,hx,hlt,hc⟩:=h2 h0;refine ⟨ad,rfl,hs,λh=>ho (hW _ h),λe h=>(hX _ h).elim (hx e) ho,hlt,λi hi j hj=>?_⟩;obtain ⟨u,hu,hr⟩:=hc i hi j hj;exact ⟨u,hu,ih i j u hr⟩
 | rp sh m g ih=>
   rintro v ⟨ad,rfl,hs,ho,hx,hlt,hc⟩;refine ⟨ad,rfl,hs,λh=>ho (hW _ h),λe h=>(hX _ h).elim (hx e) ho,hlt,λj hj=>?_⟩;obtain ⟨u,hu,hr⟩:=hc j hj;exact ⟨u,hu,ih j u hr⟩
 | os nm i n=>intro v h;exact h
 | oa nm i j n es=>intro v h;exact h
 | fn f n m a ih=>
   rintro v ⟨fs,cs,rfl,h1,h2,h3,h4⟩;exact ⟨fs,cs,rfl,h1,h2,λk u hu=>ih k u (h3 k u hu),λk u hu=>ih _ u (h4 k u hu)⟩
def ze (P : Program) (f : FuncId) (rest : List FV) (e : Ent) (val : FV) (e' : Ent) : Prop:=
 ∀ X w (x : Bi) (vals : Array Value),x.b < w.heap.size -> ¬ X x.b -> Xw (λb=>X b \/ b = x.b) w -> Qm (λ_=>none) X (λb=>b = x.b) w e (some x) w.heap -> zBS (at0 (some x)) X (λb=>b = x.b) w (.e (.c (.ptr 0 0 0 false)) :: rest) vals ->
   Calls P f vals w λen w'=>∃ v,en = .returned v /\ w'.os = w.os /\ w'.tape = w.tape /\ w'.output = w.output /\ w.heap.size <= w'.heap.size /\ (∀ b,b < w.heap.size -> b ≠ x.b -> w'.heap[b]? = w.heap[b]?) /\
    Qm (λ_=>none) X (orB X (some x)) w' e' (some x) w'.heap /\ val.rel (λ_=>none) X (orB X (some x)) w' v
structure FinM (val : FV) (e' : Ent) (x : FV) (H : Hp) : Prop where
 le : LeF ⟨H,[(0,some e')],[],1,true⟩ x val
 ent : WkE ⟨H,[(0,some e')],[],1,true⟩ e' (some 0)
def NFF (x : FV) : Prop:=∀ r r' X W w v,x.rel r X W w v -> x.rel r' X W w v
section
variable {P : Program} {T : Tys} {Q : Qs} {wd : Nat}
theorem zR (hwd : 0 < wd) (hT : qO P T) (hQ : zBR P Q) (hm : P.follows .mixedOrders = true) {f : FuncId} {fn : Func} {c : Code} (hf : P.funcs[f]? = some fn) (hb : fn.body = some c) (rest : List FV) (hn : rest.length + 1 <= fn.ntmps) {e e' : Ent} {val : FV}
 (hval : NFF val) (hnf : ∀ i,i < e'.n -> ∀ j,j < e'.sz -> NF (e'.f i j)) (h : qo T Q wd fn.ntmps 1 c (Ya (.e (.c (.ptr 0 0 0 false)) :: rest) 0) [(0,some e)] 1 (YQ T fn.results.toList λx H _=>FinM val e' x H)) : ze P f rest e val e':=by
 intro X w x vals hxb hxX hX hent hrel;have hwr : wr (at0 (some x)) [(0,some e)] = λb=>b = x.b:=by
  funext b
  apply propext;constructor
  . rintro ⟨k,e1,y,_,hy,rfl⟩;unfold at0 at hy;split at hy
    . injection hy with hy;rw [hy]
    . cases hy
  . rintro rfl;exact ⟨0,e,x,zu _ _ _ _,if_pos rfl,rfl⟩
 have hk0 : ∀ k e1,zP [(0,some e)] k = some e1 -> k = 0 /\ e1 = e:=λk e1 h=>by
  by_cases hk : k = 0
  . subst hk;have : zP [(0,some e)] 0 = some e:=zu _ _ _ _;rw [this] at h;injection h with h;exact ⟨rfl,h.symm⟩
  . have : zP [(0,some e)] k = none:=zg _ _ _ hk;rw [this] at h;cases h
 have st0 : St ⟨w,λb=>b = x.b,λb=>b = x.b,X,at0 (some x)⟩ (at0 (some x)) [(0,some e)] w:=by
  refine ⟨rfl,rfl,rfl,Nat.le_refl _,λ_ _ _=>rfl,⟨λb hb=>hX.1 b (.inl hb),zAf hX.2 λp _ h=>h.elim .inl λh=>h.elim .inr .inr⟩,λk y hy=>?_,λk e1 y _ hy=>?_,λn m e1 e2 y z h1 h2 _ _ _=>?_,λk b hk=>hk,λk e1 he1=>?_⟩
  . unfold at0 at hy;split at hy
    . injection hy with hy;subst hy;exact ⟨hxb,.inr rfl,hxX⟩
    . cases hy
  . unfold at0 at hy;split at hy
    . injection hy with hy;subst hy;exact .inr rfl
    . cases hy
  . rw [(hk0 n e1 h1).1,(hk0 m e2 h2).1]
  . obtain ⟨rfl,rfl⟩:=hk0 k e1 he1;rw [hwr];exact hent.map rfl rfl rfl rfl (if_pos rfl).symm (λ_ _=>rfl) λi _ j _ u hu=>CV.rel_ext ⟨λ_ _ h=>(by cases h),Nat.le_refl _,λ_ _ _=>rfl,λ_ _ h=>h⟩ _ _ hu
 refine (zCm (np:=1) hwd hT hQ hm hf hb (by simpa using hn) h (λk b hk=>by
  have hk' : (if k = 0 then some x else none) = some b:=hk;split at hk'
  . omega
  . cases hk') st0 (by rw [hwr];exact hrel) (λk hk=>⟨if_neg (by omega),zg _ _ _ (by omega)⟩)).mono λen w' he=>?_
 obtain ⟨v,r',y,Hf,nf,rfl,⟨hfin,hent'⟩,st,_,hy,_⟩:=he;have hr0 : r' 0 = some x:=st.pin 0 x (show (if 0 = 0 then some x else none) = some x from if_pos rfl);have hren : ∀ k,Wc.ren ⟨Hf,[(0,some e')],[],1,true⟩ r' k = at0 (some x) k:=λk=>by
  unfold Wc.ren Wc.src at0;simp only [zA7];by_cases hk : k = 0
  . subst hk;have h2 : Nat.blt 0 1 = true:=rfl;simp [h2,hr0]
  . have h2 : Nat.blt k 1 = false:=by
     cases hb : Nat.blt k 1 with
     | false=>rfl
     | true=>have:=Nat.le_of_ble_eq_true hb;omega
    simp [h2,hk]
 have hren : Wc.ren ⟨Hf,[(0,some e')],[],1,true⟩ r' = at0 (some x):=funext hren;unfold WkE at hent';simp only at hent';split at hent'
 . rename_i e2 hh;have hlive : Wc.Live ⟨Hf,[(0,some e')],[],1,true⟩:=λk e1 he1 k0 hk0'=>by
    have hk : k = 0:=by
     by_cases hk : k = 0
     . exact hk
     . have : zP [(0,some e')] k = none:=zg _ _ _ hk;have he1' : zP [(0,some e')] k = some e1:=he1;rw [this] at he1';cases he1'
    subst hk;have : Wc.src ⟨Hf,[(0,some e')],[],1,true⟩ 0 = some 0:=rfl;rw [this] at hk0';injection hk0' with hk0';subst hk0';exact ⟨e2,hh⟩
   have hwr2 : ∀ b,orB X (some x) b -> Wc.wr ⟨Hf,[(0,some e')],[],1,true⟩ ⟨w,λb=>b = x.b,λb=>b = x.b,X,at0 (some x)⟩ r' b:=λb hb=>by
    rcases hb with hb | ⟨z,hz,hzb⟩
    . exact .inr ⟨rfl,hb⟩
    . injection hz with hz;subst hz;exact .inl ⟨0,e',x,zu _ _ _ _,by rw [hren];exact if_pos rfl,hzb⟩
   refine ⟨v,rfl,st.os,st.tape,st.output,st.size,λb hb hne=>st.kept b hb hne,?_,?_⟩
   . exact (st.blk 0 e2 hh).map hent'.t hent'.n hent'.sz hent'.v hr0 (λ_ _=>rfl) λi hi j' hj u hu=>by
      have h1:=hent'.f i hi j' hj hlive _ r' w' u st hu;exact CV.rel_w hwr2 _ _ (hnf i (by rw [<- hent'.n];exact hi) j' (by rw [<- hent'.sz];exact hj) _ _ _ _ _ _ h1)
   . have h1:=hfin hlive _ r' w' v st hy;exact FV.rel_w hwr2 _ _ (hval _ _ _ _ _ _ h1)
 . exact hent'.elim
end
theorem zGi {X Y : Nat -> Prop} {w : World} (h : Xw X w) (hY : ∀ b,Y b -> X b) : Xw Y w:=⟨λb hb=>h.1 b (hY b hb),zAf h.2 λp _ hp=>hY _ hp⟩
theorem zCl {P : Program} {f : FuncId} (hb : YS P f) {k : Nat} {s : Bool} {rest rest' : List FV} {H : Hp} {rd : List Nat} {nm wd : Nat} {e e' : Ent} {val : FV} (hk : zP H k = some e) (hv : e.v = true) (hkr : k ∉ rd) (hnf : ∀ i,i < e.n -> ∀ j,j < e.sz -> NF (e.f i j))
 (hbo : ∀ H',(∀ k ∈ rd,zP H k = zP H' k) -> BoL H' rd rest rest') (h : ze P f rest' e val e') (he' : e'.v = true) : zCd P f (.e (.c (.ptr k 0 0 s)) :: rest) H nm wd ⟨none,val,[(k,some e')],k :: rd⟩:=by
 refine ⟨hb,λH' hh cx r w vals st hfr _ hrel=>?_⟩;obtain ⟨h1,h2⟩:=hbo H' (λk hk=>hh k (List.mem_cons_of_mem _ hk));have hk' : zP H' k = some e:=by rw [<- hh k (List.mem_cons_self ..)];exact hk
 obtain ⟨g1,g2,g3⟩:=st.blk k e hk';rcases g3 with ⟨_,g4⟩ | ⟨x,cs,c1,c2,c3,c4,c5,c6⟩ | ⟨hfit,_⟩
 . have:=g2 hv;omega
 . obtain ⟨d1,d2,d3⟩:=st.dom k x c1;have hXx : ¬ (cx.X x.b \/ YU r H' [k] x.b):=by
    rintro (hX | ⟨k2,e2,y,he2,hy,hyb,hne⟩)
    . exact d3 hX
    . have:=st.inj k2 k e2 e y x he2 hk' hy c1 hyb;exact hne (by rw [this];exact List.mem_singleton.2 rfl)
   have hsubX : ∀ b,(cx.X b \/ YU r H' [k] b) -> cx.X b \/ wr r H' b:=by
    rintro b (hX | ⟨k2,e2,y,he2,hy,hyb,_⟩)
    . exact .inl hX
    . exact .inr ⟨k2,e2,y,he2,hy,hyb⟩
   have hsubW : ∀ b,b = x.b -> wr r H' b:=λb hb=>⟨k,e,x,hk',c1,hb.symm⟩;have hXlt : Xw (λb=>(cx.X b \/ YU r H' [k] b) \/ b = x.b) w:=zGi (zFz st) λb hb=>hb.elim (hsubX b) λh=>.inr (hsubW b h);refine (h (λb=>cx.X b \/ YU r H' [k] b) w x vals d1 hXx hXlt ?_ ⟨by rw [hrel.1];simp [h1],λi y u hy hu=>?_⟩).mono λen w' he=>?_
   . refine ⟨g1,g2,.inr (.inl ⟨x,cs,rfl,c2,c3,c4,c5,λi hi j hj u hu=>?_⟩)⟩;exact CV.rel_sub hsubX hsubW _ _ (hnf i hi j hj _ _ _ _ _ _ (c6 i hi j hj u hu))
   . cases i with
     | zero=>
       simp only [List.getElem?_cons_zero,Option.some.injEq] at hy;subst hy;obtain ⟨z,hz,hzv⟩:=hrel.2 0 _ u rfl hu;have hz1:=hz.1;rw [c1] at hz1;injection hz1 with hz1;subst hz1;exact ⟨x,⟨if_pos rfl,hz.2⟩,hzv⟩
     | succ i=>
       have hy' : rest'[i]? = some y:=by simpa using hy
       have hi : i < rest.length:=by rw [h1];exact (List.getElem?_eq_some_iff.1 hy').1
       have h3:=h2 i _ y (List.getElem?_eq_getElem hi) hy' cx r w u st (hrel.2 (i + 1) _ u (by simp [List.getElem?_eq_getElem hi]) hu);have h4 : y.rel (at0 (some x)) (λb=>cx.X b \/ wr r H' b) (YU r H' rd) w u:=FV.rel_ext ⟨λ_ _ h=>(by cases h),Nat.le_refl _,λ_ _ _=>rfl,λ_ _ h=>h⟩ _ _ h3;have h5 : y.rel (at0 (some x)) (λb=>cx.X b \/ wr r H' b) (λb=>b = x.b) w u:=FV.rel_w (λb hb=>⟨k,e,x,hk',c1,hb.symm,hkr⟩) _ _ h4;cases y with
       | top=>trivial
       | e y=>
         cases y with
         | c y=>exact CV.rel_sub (λb hb=>.inl (hsubX b hb)) (λb hb=>hb) _ _ h5
         | agg n g=>obtain ⟨cs',e1,e2,e3⟩:=h5;exact ⟨cs',e1,e2,λi u hu=>CV.rel_sub (λb hb=>.inl (hsubX b hb)) (λb hb=>hb) _ _ (e3 i u hu)⟩
       | tup l=>
         obtain ⟨vs,e1,e2,e3⟩:=h5;refine ⟨vs,e1,e2,λi z u hz hu=>?_⟩;have:=e3 i z u hz hu;cases z with
         | c z=>exact CV.rel_sub (λb hb=>.inl (hsubX b hb)) (λb hb=>hb) _ _ this
         | agg n g=>obtain ⟨cs',e1,e2,e3⟩:=this;exact ⟨cs',e1,e2,λi u hu=>CV.rel_sub (λb hb=>.inl (hsubX b hb)) (λb hb=>hb) _ _ (e3 i u hu)⟩
   . obtain ⟨v,rfl,o1,o2,o3,o4,o5,o6,o7⟩:=he;have hY : ∀ b,cx.X b \/ wr r H' b -> orB (λb=>cx.X b \/ YU r H' [k] b) (some x) b:=by
      rintro b (hX | ⟨k2,e2,y,he2,hy,hyb⟩)
      . exact .inl (.inl hX)
      . by_cases hk2 : k2 = k
        . subst hk2;rw [c1] at hy;injection hy with hy;subst hy;exact .inr ⟨x,rfl,hyb⟩
        . exact .inl (.inr ⟨k2,e2,y,he2,hy,hyb,λhm=>hk2 (List.mem_singleton.1 hm)⟩)
     have hl0 : zP ((k,some e') :: H') k = some e':=zu _ _ _ _;have hl : ∀ j,j ≠ k -> zP ((k,some e') :: H') j = zP H' j:=λj hj=>zg _ _ _ hj;have live : ∀ j e1,zP ((k,some e') :: H') j = some e1 -> ∃ e2,zP H' j = some e2:=λj e1 hj=>by
      by_cases hjk : j = k
      . subst hjk;exact ⟨e,hk'⟩
      . rw [hl j hjk] at hj;exact ⟨e1,hj⟩
     have hwr2 : ∀ b,wr r ((k,some e') :: H') b -> wr r H' b:=by
      rintro b ⟨j,e1,y,h1,h2,h3⟩;obtain ⟨e2,h1⟩:=live j e1 h1;exact ⟨j,e2,y,h1,h2,h3⟩
     have hE : Ext r (wr r H') w r (wr r ((k,some e') :: H')) w':=⟨λ_ _ h=>h,o4,λb hb hw=>o5 b hb λhbx=>hw ⟨k,e,x,hk',c1,hbx.symm⟩,λb _ hb=>hwr2 b hb⟩;refine ⟨v,rfl,r,hE,⟨o1.trans st.os,o2.trans st.tape,o3.trans st.output,Nat.le_trans st.size o4,λb hb hne=>?_,st.xlt,λj y hy=>?_,λj e1 y hj hy=>?_,λn m e1 e2 y z h1 h2 hy hz hyz=>?_,st.pin,λj e1 hj=>?_⟩,λ_ _=>rfl,λj e1 hj=>.inr (live j e1 hj),?_⟩
     . rw [<- st.kept b hb hne];refine o5 b (Nat.lt_of_lt_of_le hb st.size) λhbx=>?_;rcases st.ow k e x hk' c1 with h | h
       . omega
       . exact hne (hbx ▸ h)
     . obtain ⟨a1,a2,a3⟩:=st.dom j y hy;exact ⟨Nat.lt_of_lt_of_le a1 o4,a2,a3⟩
     . obtain ⟨e2,hj⟩:=live j e1 hj;exact st.ow j e2 y hj hy
     . obtain ⟨e1',h1⟩:=live n e1 h1;obtain ⟨e2',h2⟩:=live m e2 h2;exact st.inj n m e1' e2' y z h1 h2 hy hz hyz
     . have hj' : zP ((k,some e') :: H') j = some e1:=hj;by_cases hjk : j = k
       . subst hjk;rw [hl0] at hj';injection hj' with hj';subst hj';rw [c1];exact o6.map rfl rfl rfl rfl rfl (λ_ _=>rfl) λi _ q _ u hu=>CV.rel_into (λb hb=>hY b (.inl hb)) (λb hb=>hY b (.inr (hwr2 b hb))) _ _ hu
       . rw [hl j hjk] at hj';have hold:=st.old hj' rfl (w':=w') λy hy=>o5 _ (st.dom j y hy).1 λhyx=>hjk (st.inj j k e1 e y x hj' hk' hy c1 hyx);exact hold.ext hE
     . exact FV.rel_into (λb hb=>hY b (.inl hb)) (λb hb=>hY b (.inr (hwr2 b hb))) _ _ o7
 . have hf : e.v = false:=hfit.1;rw [hv] at hf;cases hf
def qY : CV -> Int
 | .int _ n=>n
 | _=>0
def valB : CV -> Bool
 | .bool b=>b
 | _=>false
def isK (k : IntKind) : CV -> Bool
 | .int k' _=>Yf k k'
 | _=>false
def isB : CV -> Bool
 | .bool _=>true
 | _=>false
theorem Qo {k : IntKind} {x : CV} (h : isK k x = true) : x = .int k (qY x):=by
 unfold isK at h;split at h
 . rename_i k' n;have : k = k':=by simpa [Yf] using h
   subst this;rfl
 . cases h
theorem isB_eq {x : CV} (h : isB x = true) : x = .bool (valB x):=by
 unfold isB at h;split at h
 . rfl
 . cases h
def okA (k : IntKind) (g : Nat -> CV) (o : Nat) : Nat -> Bool
 | 0=>true
 | n + 1=>isK k (g (o + n)) && okA k g o n
theorem zE0 {k : IntKind} {g : Nat -> CV} {o : Nat} : ∀ {n : Nat},okA k g o n = true -> ∀ i,i < n -> g (o + i) = .int k (qY (g (o + i))):=by
 intro n;induction n with
 | zero=>intro _ i h;omega
 | succ n ih=>
   intro h i hi;simp only [okA,Bool.and_eq_true] at h;by_cases he : i = n
   . subst he;exact Qo h.1
   . exact ih h.2 i (by omega)
def gi (k : IntKind) : CV -> Option Int
 | .int k' n=>bif Yf k k' then some n else none
 | _=>none
theorem gi_eq {k : IntKind} {x : CV} {n : Int} (h : gi k x = some n) : x = .int k n:=by
 unfold gi at h;split at h
 . rename_i k' m;cases hk : Yf k k' with
   | false=>rw [hk] at h;cases h
   | true=>
     rw [hk,cond_true] at h;injection h with h;have : k = k':=by simpa [Yf] using hk
     rw [h,this]
 . cases h
def gb : CV -> Option Bool
 | .bool b=>some b
 | _=>none
theorem gb_eq {x : CV} {b : Bool} (h : gb x = some b) : x = .bool b:=by
 unfold gb at h;split at h
 . injection h with h;rw [h]
 . cases h
def gc : FV -> Option CV
 | .e (.c x)=>some x
 | _=>none
theorem gc_eq {x : FV} {y : CV} (h : gc x = some y) : x = .e (.c y):=by
 unfold gc at h;split at h
 . injection h with h;rw [h]
 . cases h
def ga (m : Nat) : FV -> Option (Nat -> CV)
 | .e (.agg n f)=>bif Nat.beq n m then some f else none
 | _=>none
theorem ga_eq {m : Nat} {x : FV} {f : Nat -> CV} (h : ga m x = some f) : x = .e (.agg m f):=by
 unfold ga at h;split at h
 . rename_i n g;cases hb : Nat.beq n m with
   | false=>rw [hb] at h;cases h
   | true=>
     rw [hb,cond_true] at h;injection h with h;rw [h,Nat.eq_of_beq_eq_true hb]
 . cases h
theorem zAe {α β : Type} {x : Option α} {f : α -> Option β} {b : β} (h : (x.bind f) = some b) : ∃ a,x = some a /\ f a = some b:=by
 cases x with
 | none=>cases h
 | some a=>exact ⟨a,rfl,h⟩
def zA5 (x : CV) : Prop:=∀ r r' X X' W W' w w' v,x.rel r X W w v -> x.rel r' X' W' w' v
theorem ZO {k : IntKind} {a : Int} : zA5 (.int k a):=λ_ _ _ _ _ _ _ _ _ h=>h
theorem zFy {a : Bool} : zA5 (.bool a):=λ_ _ _ _ _ _ _ _ _ h=>h
theorem zA5.nf {x : CV} (h : zA5 x) : NF x:=λr r' X W w v hx=>h _ _ _ _ _ _ _ _ _ hx
theorem zA5.cl {x : CV} (h : zA5 x) : Cl x:=λc _ _ cx r w v _ hx=>h _ _ _ _ _ _ _ _ _ hx
theorem zA5.le {c : Wc} {x : CV} (h : zA5 x) : LeC c x x:=λ_ cx r w v _ hx=>h _ _ _ _ _ _ _ _ _ hx
structure Elem (α : Type) where
 sz : Nat
 cell : α -> Nat -> CV
 rd : (Nat -> CV) -> α
 ok : (Nat -> CV) -> Bool
 ok_eq : ∀ g,ok g = true -> ∀ j,j < sz -> g j = cell (rd g) j
 flat : ∀ a j,zA5 (cell a j)
def eI (k : IntKind) : Elem Int where
 sz:=1
 cell a _:=.int k a
 rd g:=qY (g 0)
 ok g:=isK k (g 0)
 ok_eq g h j hj:=by have : j = 0:=by omega
                    subst this;exact Qo h
 flat _ _:=ZO
def zQ {n : Nat} (a : Fin n -> Int) (j : Nat) : Int:=if h : j < n then a ⟨j,h⟩ else 0
theorem ZV {n : Nat} (a : Fin n -> Int) {j : Nat} (h : j < n) : zQ a j = a ⟨j,h⟩:=dif_pos h
def eA (k : IntKind) (n : Nat) : Elem (Fin n -> Int) where
 sz:=n
 cell a j:=.int k (zQ a j)
 rd g:=λq=>qY (g q.1)
 ok g:=okA k g 0 n
 ok_eq g h j hj:=by
  have:=zE0 h j hj;rw [Nat.zero_add] at this;rw [ZV _ hj];exact this
 flat _ _:=ZO
theorem zD8 {k : IntKind} {n : Nat} (a : Fin n -> Int) : (eA k n).rd ((eA k n).cell a) = a:=by
 funext q
 exact ZV a q.2
theorem zAl {c : Wc} {b : Bool} {x y z : CV} (hb : b = false) (h : LeC c y z) : LeC c (Zm b x y) z:=by rw [QO,hb];exact h
theorem zCG {c : Wc} {b : Bool} {x y z : CV} (hb : b = true) (h : LeC c x z) : LeC c (Zm b x y) z:=by rw [QO,hb];exact h
theorem zHY {c : Wc} {b : Bool} {x y z : CV} (hb : b = false) (h : LeC c y z) : LeC c (bif b then x else y) z:=by rw [hb];exact h
theorem zA6 {i j n : Nat} (h : j < i \/ i + n <= j) : (Nat.ble i j && Nat.blt j (i + n)) = false:=by
 cases hb : (Nat.ble i j && Nat.blt j (i + n)) with
 | false=>rfl
 | true=>
   simp only [Bool.and_eq_true] at hb;have:=Nat.le_of_ble_eq_true hb.1;have:=Nat.le_of_ble_eq_true hb.2;omega
theorem zCk {i j n : Nat} (h : i <= j /\ j < i + n) : (Nat.ble i j && Nat.blt j (i + n)) = true:=by
 simp only [Bool.and_eq_true];exact ⟨Nat.ble_eq_true_of_le h.1,Nat.ble_eq_true_of_le h.2⟩
def cI (k : IntKind) : Codec Int where
 enc n:=.e (.c (.int k n))
 dec _ x:=(gc x).bind λy=>(gi k y).bind λn=>some (n,none,[])
 sound H H' x a p rd h _ _:=by
  obtain ⟨y,h1,h⟩:=zAe h;obtain ⟨n,h2,h⟩:=zAe h;injection h with h;injection h with h h';injection h' with h' h'';subst h h'';rw [gc_eq h1,gi_eq h2];exact λcx r w v _ hx=>hx
def cB : Codec Bool where
 enc n:=.e (.c (.bool n))
 dec _ x:=(gc x).bind λy=>(gb y).bind λn=>some (n,none,[])
 sound H H' x a p rd h _ _:=by
  obtain ⟨y,h1,h⟩:=zAe h;obtain ⟨n,h2,h⟩:=zAe h;injection h with h;injection h with h h';injection h' with h' h'';subst h h'';rw [gc_eq h1,gb_eq h2];exact λcx r w v _ hx=>hx
theorem bo_agg {H : Hp} {rd : List Nat} {n : Nat} {f g : Nat -> CV} (hg : ∀ j,j < n -> f j = g j) (hf : ∀ j,zA5 (g j)) : Bo H rd (.e (.agg n f)) (.e (.agg n g)):=by
 rintro cx r w v _ ⟨cs,rfl,h1,h2⟩;refine ⟨cs,rfl,h1,λi u hu=>?_⟩;have hi : i < n:=by rw [<- h1];exact (Array.getElem?_eq_some_iff.1 hu).1
 have:=h2 i u hu;rw [hg i hi] at this;exact hf i _ _ _ _ _ _ _ _ _ this
def cE {α : Type} (E : Elem α) : Codec α where
 enc a:=.e (.agg E.sz (E.cell a))
 dec _ x:=(ga E.sz x).bind λf=>bif E.ok f then some (E.rd f,none,[]) else none
 sound H H' x a p rd h _ _:=by
  obtain ⟨f,h1,h⟩:=zAe h;obtain ⟨hk,h⟩:=ZN h;injection h with h h';injection h' with h' h'';subst h h'';rw [ga_eq h1];exact bo_agg (E.ok_eq f hk) (E.flat _)
def zn {α : Type} [Inhabited α] (E : Elem α) (l : List α) (i j : Nat) : CV:=E.cell (l.getD i default) j
def Zw {α : Type} (E : Elem α) (n : Nat) (g : Nat -> Nat -> CV) : List α:=(List.range n).map λi=>E.rd (g i)
theorem zS {α : Type} (E : Elem α) (n : Nat) (g : Nat -> Nat -> CV) : (Zw E n g).length = n:=by simp [Zw]
theorem zGh {α : Type} [Inhabited α] {E : Elem α} {n : Nat} {g : Nat -> Nat -> CV} {i : Nat} (h : i < n) : (Zw E n g).getD i default = E.rd (g i):=by simp [Zw,h]
theorem bo_sl {α : Type} [Inhabited α] {E : Elem α} {H : Hp} {x : FV} {n : Nat} {g : Nat -> Nat -> CV} {p : Option Prop} {rd : List Nat} (hsz : 0 < E.sz) (h : zAZ H E.sz x = some ⟨n,g,p,rd⟩) (hp : Qg p) (hok : ∀ i,i < n -> E.ok (g i) = true) :
 Bo H rd x (.e (.c (.sl false (Zw E n g).length E.sz (zn E (Zw E n g))))):=by
 intro cx r w v st hx;rw [zS];have key : ∀ i,i < n -> ∀ j,j < E.sz -> zn E (Zw E n g) i j = g i j:=λi hi j hj=>by
  unfold zn;rw [zGh hi];exact (E.ok_eq _ (hok i hi) j hj).symm
 unfold zAZ at h;split at h
 . rename_i sh n' s f;obtain ⟨hb,h⟩:=ZN h;injection h with h1 h2 h3 h4;subst h1 h2 h3 h4;obtain ⟨a,cap,rfl,c1,c2⟩:=hx;refine ⟨a,cap,rfl,c1,λh0=>?_⟩;obtain ⟨ad,rfl,hs,ho,hX,hlt,hc⟩:=c2 h0;refine ⟨ad,rfl,hs,λ⟨k,e,x,q1,q2,q3,_⟩=>ho ⟨k,e,x,q1,q2,q3⟩,(λh=>by cases h),hlt,λi hi j hj=>?_⟩;have hsE : s = E.sz:=Nat.eq_of_beq_eq_true hb;subst hsE;obtain ⟨u,hu,hr⟩:=hc i hi j hj;refine ⟨u,hu,?_⟩;rw [<- key i hi j hj] at hr;exact E.flat _ _ _ _ _ _ _ _ _ _ _ hr
 . injection h with h;injection h with h1 h2 h3 h4;subst h1 h2 h3 h4;have : v = .slice none 0 0:=hx;subst this;exact ⟨none,0,rfl,Nat.le_refl _,λh=>absurd h (Nat.lt_irrefl _)⟩
 . rename_i k i n';split at h
   . rename_i et en es ev f he;obtain ⟨hb,h⟩:=ZN h;injection h with h1 h2 h3 h4;subst h1 h2 h3 h4;have hsE : es = E.sz:=Nat.eq_of_beq_eq_true hb;subst hsE;obtain ⟨a,cap,rfl,c1,c2⟩:=hx;refine ⟨a,cap,rfl,c1,λh0=>?_⟩;obtain ⟨x,hx,rfl,_⟩:=c2 (by omega);have hp' : i + n' <= en:=hp;obtain ⟨_,_,hxs,_⟩:=zAp st he hx;simp only at hxs;refine ⟨⟨x.b,i * x.sz,none⟩,rfl,rfl,?_,(λh=>by cases h),(st.dom k x hx.1).1,λq hq j hj=>?_⟩
     . rintro ⟨k2,e2,y,q1,q2,q3,q4⟩;have:=st.inj k2 k e2 _ y x q1 he q2 hx.1 q3;exact q4 (by rw [this];exact List.mem_singleton.2 rfl)
     . obtain ⟨u,hu,hr⟩:=Qt st he hx (i:=i + q) (j:=j) (show i + q < en by omega) hj;refine ⟨u,?_,?_⟩
       . rw [<- hu];show w.cell? ⟨x.b,i * x.sz + (q * E.sz + j),none⟩ = _;rw [show i * x.sz + (q * E.sz + j) = (i + q) * x.sz + j by rw [hxs,Nat.add_mul];omega]
       . have:=key q hq j hj;rw [this];have hr' : (f (i + q) j).rel r cx.X (wr r H) w u:=hr;have e2 : f (i + q) j = E.cell (E.rd (f (i + q))) j:=E.ok_eq _ (hok q hq) j hj;rw [e2] at hr';show CV.rel _ _ _ w (f (i + q) j) u;rw [e2];exact E.flat _ _ _ _ _ _ _ _ _ _ _ hr'
   . cases h
 . rename_i k i j0 n' s;split at h
   . rename_i et en es ev f he;obtain ⟨hb,h⟩:=ZN h;injection h with h1 h2 h3 h4;subst h1 h2 h3 h4;have hsE : s = E.sz:=Nat.eq_of_beq_eq_true hb;subst hsE;obtain ⟨a,cap,rfl,c1,c2⟩:=hx;refine ⟨a,cap,rfl,c1,λh0=>?_⟩;obtain ⟨x,hx,rfl⟩:=c2 h0;have hp' : i < en /\ j0 + n' * E.sz <= es:=hp;refine ⟨⟨x.b,i * x.sz + j0,none⟩,rfl,rfl,?_,(λh=>by cases h),(st.dom k x hx.1).1,λq hq j hj=>?_⟩
     . rintro ⟨k2,e2,y,q1,q2,q3,q4⟩;have:=st.inj k2 k e2 _ y x q1 he q2 hx.1 q3;exact q4 (by rw [this];exact List.mem_singleton.2 rfl)
     . have hlt : q * E.sz + j < n' * E.sz:=by have:=Qw (sz:=E.sz) hq;omega
       obtain ⟨u,hu,hr⟩:=Qt st he hx (i:=i) (j:=j0 + (q * E.sz + j)) (show i < en from hp'.1) (show j0 + (q * E.sz + j) < es by omega);refine ⟨u,?_,?_⟩
       . rw [<- hu];show w.cell? ⟨x.b,i * x.sz + j0 + (q * E.sz + j),none⟩ = _;rw [Nat.add_assoc]
       . have:=key q hq j hj;rw [this];have hr' : (f i (j0 + (q * E.sz + j))).rel r cx.X (wr r H) w u:=hr;have e2 : f i (j0 + (q * E.sz + j)) = E.cell (E.rd λt=>f i (j0 + (q * E.sz + t))) j:=E.ok_eq _ (hok q hq) j hj;rw [e2] at hr';show CV.rel _ _ _ w (f i (j0 + (q * E.sz + j))) u;rw [e2];exact E.flat _ _ _ _ _ _ _ _ _ _ _ hr'
   . cases h
 . cases h
def qf {α : Type} [Inhabited α] (E : Elem α) (hsz : 0 < E.sz) : Codec (List α) where
 enc l:=.e (.c (.sl false l.length E.sz (zn E l)))
 dec H x:=match zAZ H E.sz x with
  | some ⟨n,g,p,rd⟩=>some (Zw E n g,zBF p (some (∀ i,i < n -> E.ok (g i) = true)),rd)
  | none=>none
 sound H H' x a p rd h hp hh:=by
  split at h
  . rename_i n g q rd' hs;injection h with h;injection h with h h';injection h' with h' h'';subst h h' h'';obtain ⟨h1,h2⟩:=Qq.1 hp;exact bo_sl hsz (YE hs hh) h1 h2
  . cases h
def slR {α : Type} [Inhabited α] (E : Elem α) (l : List α) : CV:=.sl true l.length E.sz (zn E l)
def qD {α : Type} [Inhabited α] (E : Elem α) (t : TypeId) (l : List α) : Ent:=⟨t,l.length,E.sz,false,zn E l⟩
theorem toL_row {α : Type} [Inhabited α] {E : Elem α} (hE : ∀ a,E.rd (E.cell a) = a) (l : List α) : Zw E l.length (zn E l) = l:=by
 apply List.ext_getElem
 . simp [Zw]
 . intro i h1 h2;simp only [Zw,List.getElem_map,List.getElem_range];have : zn E l i = E.cell (l.getD i default):=rfl;rw [this,hE];simp [List.getD_eq_getElem?_getD,List.getElem?_eq_getElem h2]
theorem qU {α : Type} [Inhabited α] (E : Elem α) (l : List α) (i j : Nat) : NF (zn E l i j):=(E.flat _ _).nf
theorem cl_slB {α : Type} [Inhabited α] (E : Elem α) (l : List α) : Cl (.sl false l.length E.sz (zn E l)):=cl_sl λi _ j _=>(E.flat _ _).cl
theorem cl_slR {α : Type} [Inhabited α] (E : Elem α) (l : List α) : Cl (.sl true l.length E.sz (zn E l)):=cl_sl λi _ j _=>(E.flat _ _).cl
end Go.Proofs.YtjknkfjhcapocaaGreatDoor.AX
namespace Go.Proofs.YtjknkfjhcapocaaGreatDoor.AX
def tyO : List (Nat × Option TI):=[
 (1,some ⟨.other,1,[.top],[],8⟩),
 (2,some ⟨.int .i64,1,[.int .i64 0],[],8⟩),
 (3,some ⟨.int .i64,1,[.int .i64 0],[],8⟩),
 (4,some ⟨.bool,1,[.bool false],[],1⟩),
 (5,some ⟨.int .u8,1,[.int .u8 0],[],1⟩),
 (6,some ⟨.int .u8,1,[.int .u8 0],[],1⟩),
 (7,some ⟨.struct [(0,1,some false),(1,1,some false),(2,1,some false),(3,1,some false)],4,[.int .i64 0,.int .i64 0,.bool false,.int .u8 0],[],24⟩),
 (8,some ⟨.struct [(0,1,some false),(1,1,some false),(2,1,some false),(3,1,some false)],4,[.int .i64 0,.int .i64 0,.bool false,.int .u8 0],[],24⟩),
 (12,some ⟨.int .u64,1,[.int .u64 0],[],8⟩),
 (13,some ⟨.struct [(0,1,some false),(1,1,some false)],2,[.top,.int .u64 0],[],24⟩),
 (14,some ⟨.struct [(0,1,some false),(1,1,some false)],2,[.top,.int .u64 0],[],24⟩),
 (15,some ⟨.ptr 173,1,[.nilp],[],8⟩),
 (16,some ⟨.ptr 176,1,[.nilp],[],8⟩),
 (17,some ⟨.ptr 184,1,[.nilp],[],8⟩),
 (18,some ⟨.struct [(0,1,some false)],1,[.nilp],[],8⟩),
 (19,some ⟨.struct [(0,1,some false)],1,[.nilp],[],8⟩),
 (21,some ⟨.int .i32,1,[.int .i32 0],[],4⟩),
 (22,some ⟨.int .u32,1,[.int .u32 0],[],4⟩),
 (23,some ⟨.arr 16 5 1 (some false),16,[.int .u8 0,.int .u8 0,.int .u8 0,.int .u8 0,.int .u8 0,.int .u8 0,.int .u8 0,.int .u8 0,.int .u8 0,.int .u8 0,.int .u8 0,.int .u8 0,.int .u8 0,.int .u8 0,.int .u8 0,.int .u8 0],[false,false,false,false,false,false,false,false,false,false,false,false,false,false,false,false],16⟩),
 (24,some ⟨.arr 16 5 1 (some false),16,[.int .u8 0,.int .u8 0,.int .u8 0,.int .u8 0,.int .u8 0,.int .u8 0,.int .u8 0,.int .u8 0,.int .u8 0,.int .u8 0,.int .u8 0,.int .u8 0,.int .u8 0,.int .u8 0,.int .u8 0,.int .u8 0],[false,false,false,false,false,false,false,false,false,false,false,false,false,false,false,false],16⟩),
 (25,some ⟨.int .u16,1,[.int .u16 0],[],2⟩),
 (26,some ⟨.slice 5 1 true,1,[.nils],[],24⟩),
 (27,some ⟨.struct [(0,1,some false),(1,1,some false),(2,1,some false),(3,1,some false),(4,16,some true),(20,16,some true),(36,1,some false),(37,1,some false),(38,1,some false)],39,[.int .u8 0,.int .u32 0,.int .u8 0,.int .u8 0,.int .u8 0,.int .u8 0,.int .u8 0,.int .u8 0,.int .u8 0,.int .u8 0,.int .u8 0,.int .u8 0,.int .u8 0,.int .u8 0,.int .u8 0,.int .u8 0,.int .u8 0,.int .u8 0,.int .u8 0,.int .u8 0,.int .u8 0,.int .u8 0,.int .u8 0,.int .u8 0,.int .u8 0,.int .u8 0,.int .u8 0,.int .u8 0,.int .u8 0,.int .u8 0,.int .u8 0,.int .u8 0,.int .u8 0,.int .u8 0,.int .u8 0,.int .u8 0,.int .u16 0,.int .u16 0,.nils],[],72⟩),
 (28,some ⟨.struct [(0,1,some false),(1,1,some false),(2,1,some false),(3,1,some false),(4,16,some true),(20,16,some true),(36,1,some false),(37,1,some false),(38,1,some false)],39,[.int .u8 0,.int .u32 0,.int .u8 0,.int .u8 0,.int .u8 0,.int .u8 0,.int .u8 0,.int .u8 0,.int .u8 0,.int .u8 0,.int .u8 0,.int .u8 0,.int .u8 0,.int .u8 0,.int .u8 0,.int .u8 0,.int .u8 0,.int .u8 0,.int .u8 0,.int .u8 0,.int .u8 0,.int .u8 0,.int .u8 0,.int .u8 0,.int .u8 0,.int .u8 0,.int .u8 0,.int .u8 0,.int .u8 0,.int .u8 0,.int .u8 0,.int .u8 0,.int .u8 0,.int .u8 0,.int .u8 0,.int .u8 0,.int .u16 0,.int .u16 0,.nils],[],72⟩),
 (29,some ⟨.int .u16,1,[.int .u16 0],[],2⟩),
 (30,some ⟨.int .u64,1,[.int .u64 0],[],8⟩),
 (31,some ⟨.int .u64,1,[.int .u64 0],[],8⟩),
 (32,some ⟨.struct [(0,1,some false),(1,1,some false),(2,1,some false)],3,[.int .i64 0,.int .u16 0,.int .u64 0],[false,false,false],24⟩),
 (33,some ⟨.struct [(0,1,some false),(1,1,some false),(2,1,some false)],3,[.int .i64 0,.int .u16 0,.int .u64 0],[false,false,false],24⟩),
 (34,some ⟨.slice 60 20 true,1,[.nils],[],24⟩),
 (35,some ⟨.slice 3 1 true,1,[.nils],[],24⟩),
 (36,some ⟨.ptr 54,1,[.nilp],[],8⟩),
 (37,some ⟨.other,1,[.top],[],8⟩),
 (38,some ⟨.other,1,[.top],[],8⟩),
 (39,some ⟨.other,1,[.top],[],8⟩),
 (40,some ⟨.other,1,[.top],[],8⟩),
 (41,some ⟨.other,1,[.top],[],8⟩),
 (42,some ⟨.other,1,[.top],[],8⟩),
 (43,some ⟨.other,1,[.top],[],8⟩),
 (44,some ⟨.other,1,[.top],[],8⟩),
 (45,some ⟨.other,1,[.top],[],8⟩),
 (46,some ⟨.int .i64,1,[.int .i64 0],[],8⟩),
 (49,some ⟨.other,1,[.top],[],8⟩),
 (50,some ⟨.other,1,[.top],[],8⟩),
 (51,some ⟨.other,1,[.top],[],8⟩),
 (52,some ⟨.other,1,[.top],[],8⟩),
 (53,some ⟨.struct [(0,1,some false),(1,1,some false)],2,[.nils,.int .i64 0],[],32⟩),
 (54,some ⟨.struct [(0,1,some false),(1,1,some false)],2,[.nils,.int .i64 0],[],32⟩),
 (55,some ⟨.other,1,[.top],[],8⟩),
 (57,some ⟨.struct [(0,16,some true),(16,1,some false)],17,[.int .u8 0,.int .u8 0,.int .u8 0,.int .u8 0,.int .u8 0,.int .u8 0,.int .u8 0,.int .u8 0,.int .u8 0,.int .u8 0,.int .u8 0,.int .u8 0,.int .u8 0,.int .u8 0,.int .u8 0,.int .u8 0,.int .i64 0],[false,false,false,false,false,false,false,false,false,false,false,false,false,false,false,false,false],24⟩),
 (58,some ⟨.other,1,[.top],[],8⟩),
 (59,some ⟨.struct [(0,1,some false),(1,17,some true),(18,1,some false),(19,1,some false)],20,[.int .i64 0,.int .u8 0,.int .u8 0,.int .u8 0,.int .u8 0,.int .u8 0,.int .u8 0,.int .u8 0,.int .u8 0,.int .u8 0,.int .u8 0,.int .u8 0,.int .u8 0,.int .u8 0,.int .u8 0,.int .u8 0,.int .u8 0,.int .i64 0,.bool false,.int .i64 0],[false,false,false,false,false,false,false,false,false,false,false,false,false,false,false,false,false,false,true,false],48⟩),
 (60,some ⟨.struct [(0,1,some false),(1,17,some true),(18,1,some false),(19,1,some false)],20,[.int .i64 0,.int .u8 0,.int .u8 0,.int .u8 0,.int .u8 0,.int .u8 0,.int .u8 0,.int .u8 0,.int .u8 0,.int .u8 0,.int .u8 0,.int .u8 0,.int .u8 0,.int .u8 0,.int .u8 0,.int .u8 0,.int .u8 0,.int .i64 0,.bool false,.int .i64 0],[false,false,false,false,false,false,false,false,false,false,false,false,false,false,false,false,false,false,true,false],48⟩),
 (62,some ⟨.other,1,[.top],[],8⟩),
 (63,some ⟨.other,1,[.top],[],8⟩),
 (66,some ⟨.other,1,[.top],[],8⟩),
 (67,some ⟨.other,1,[.top],[],8⟩),
 (68,some ⟨.other,1,[.top],[],8⟩),
 (69,some ⟨.other,1,[.top],[],8⟩),
 (70,some ⟨.other,1,[.top],[],8⟩),
 (72,some ⟨.other,1,[.top],[],8⟩),
 (74,some ⟨.slice 30 1 true,1,[.nils],[],24⟩),
 (75,some ⟨.other,1,[.top],[],8⟩),
 (76,some ⟨.other,1,[.top],[],8⟩),
 (79,some ⟨.other,1,[.top],[],8⟩),
 (81,some ⟨.arr 5 5 1 (some false),5,[.int .u8 0,.int .u8 0,.int .u8 0,.int .u8 0,.int .u8 0],[false,false,false,false,false],5⟩),
 (82,some ⟨.other,1,[.top],[],8⟩),
 (85,some ⟨.other,1,[.top],[],8⟩),
 (88,some ⟨.other,1,[.top],[],8⟩),
 (89,some ⟨.other,1,[.top],[],8⟩),
 (90,some ⟨.struct [(0,1,some false),(1,1,some false),(2,1,some false),(3,1,some false)],4,[.bool false,.int .i64 0,.int .i64 0,.nils],[],48⟩),
 (91,some ⟨.struct [(0,1,some false),(1,1,some false),(2,1,some false),(3,1,some false)],4,[.bool false,.int .i64 0,.int .i64 0,.nils],[],48⟩),
 (92,some ⟨.other,1,[.top],[],8⟩),
 (93,some ⟨.other,1,[.top],[],8⟩),
 (94,some ⟨.other,1,[.top],[],8⟩),
 (95,some ⟨.int .u64,1,[.int .u64 0],[],8⟩),
 (97,some ⟨.other,1,[.top],[],8⟩),
 (98,some ⟨.other,1,[.top],[],8⟩),
 (99,some ⟨.other,1,[.top],[],8⟩),
 (104,some ⟨.arr 4 3 1 (some false),4,[.int .i64 0,.int .i64 0,.int .i64 0,.int .i64 0],[false,false,false,false],32⟩),
 (105,some ⟨.other,1,[.top],[],8⟩),
 (106,some ⟨.other,1,[.top],[],8⟩),
 (107,some ⟨.other,1,[.top],[],8⟩),
 (108,some ⟨.struct [(0,1,some false),(1,1,some false),(2,1,some false),(3,1,some false)],4,[.bool false,.int .i64 0,.int .i64 0,.nils],[],48⟩),
 (109,some ⟨.struct [(0,1,some false),(1,1,some false),(2,1,some false),(3,1,some false)],4,[.bool false,.int .i64 0,.int .i64 0,.nils],[],48⟩),
 (112,some ⟨.other,1,[.top],[],8⟩),
 (113,some ⟨.other,1,[.top],[],8⟩),
 (117,some ⟨.other,1,[.top],[],8⟩),
 (119,some ⟨.other,1,[.top],[],8⟩),
 (121,some ⟨.slice 26 1 true,1,[.nils],[],24⟩),
 (122,some ⟨.other,1,[.top],[],8⟩),
 (123,some ⟨.other,1,[.top],[],8⟩),
 (124,some ⟨.ptr 126,1,[.nilp],[],8⟩),
 (126,some ⟨.struct [(0,1,some false),(1,1,some false)],2,[.nils,.int .i64 0],[],32⟩),
 (130,some ⟨.other,1,[.top],[],8⟩),
 (132,some ⟨.other,1,[.top],[],8⟩),
 (136,some ⟨.arr 2 3 1 (some false),2,[.int .i64 0,.int .i64 0],[false,false],16⟩),
 (137,some ⟨.arr 3 136 2 (some true),6,[.int .i64 0,.int .i64 0,.int .i64 0,.int .i64 0,.int .i64 0,.int .i64 0],[false,false,false,false,false,false],48⟩),
 (138,some ⟨.arr 3 30 1 (some false),3,[.int .u64 0,.int .u64 0,.int .u64 0],[false,false,false],24⟩),
 (139,some ⟨.other,1,[.top],[],8⟩),
 (142,some ⟨.ptr 144,1,[.nilp],[],8⟩),
 (144,some ⟨.struct [(0,1,some false),(1,1,some false),(2,1,some false)],3,[.nils,.int .i64 0,.int .i64 0],[],40⟩),
 (149,some ⟨.other,1,[.top],[],8⟩),
 (150,some ⟨.other,1,[.top],[],8⟩),
 (151,some ⟨.other,1,[.top],[],8⟩),
 (154,some ⟨.other,1,[.top],[],8⟩),
 (155,some ⟨.slice 157 2 true,1,[.nils],[],24⟩),
 (157,some ⟨.struct [(0,1,some false),(1,1,some false)],2,[.int .u64 0,.int .i64 0],[false,false],16⟩),
 (158,some ⟨.other,1,[.top],[],8⟩),
 (160,some ⟨.other,1,[.top],[],8⟩),
 (162,some ⟨.arr 2 5 1 (some false),2,[.int .u8 0,.int .u8 0],[false,false],2⟩),
 (165,some ⟨.other,1,[.top],[],8⟩),
 (166,some ⟨.arr 4 30 1 (some false),4,[.int .u64 0,.int .u64 0,.int .u64 0,.int .u64 0],[false,false,false,false],32⟩),
 (168,some ⟨.other,1,[.top],[],8⟩),
 (173,some ⟨.struct [(0,1,some false),(1,1,some false),(2,1,some false),(3,1,some false)],4,[.nilp,.nilp,.nilp,.top],[],40⟩),
 (174,some ⟨.arr 0 16 1 (some false),0,[],[],0⟩),
 (176,some ⟨.struct [(0,0,some true)],0,[],[],0⟩),
 (178,some ⟨.int .u8,1,[.int .u8 0],[],1⟩),
 (179,some ⟨.other,1,[.top],[],8⟩),
 (181,some ⟨.int .i32,1,[.int .i32 0],[],4⟩)]
def T : Tys:=λt=>qr none tyO t
def zFM (P : Program) : List (Nat × Option TI) -> Prop
 | []=>True
 | (_,none) :: rest=>zFM P rest
 | (t,some ti) :: rest=>zc P t ti /\ zFM P rest
theorem zFM.at {P : Program} : ∀ {l : List (Nat × Option TI)},zFM P l -> ∀ t ti,qr none l t = some ti -> zc P t ti:=by
 intro l;induction l with
 | nil=>intro _ t ti h;cases h
 | cons p l ih=>
   obtain ⟨k,x⟩:=p;intro h t ti ht;by_cases hk : t = k
   . subst hk;rw [zu] at ht;subst ht;exact h.1
   . rw [zg _ _ _ hk] at ht;cases x with
     | none=>exact ih h t ti ht
     | some y=>exact ih h.2 t ti ht
theorem ty1 : zc Tryz.prog 1 ⟨.other,1,[.top],[],8⟩:=⟨by kernel_rfl,by kernel_rfl,by kernel_rfl⟩
theorem ty2 : zc Tryz.prog 2 ⟨.int .i64,1,[.int .i64 0],[],8⟩:=⟨by kernel_rfl,by kernel_rfl,by kernel_rfl⟩
theorem ty3 : zc Tryz.prog 3 ⟨.int .i64,1,[.int .i64 0],[],8⟩:=⟨by kernel_rfl,by kernel_rfl,by kernel_rfl⟩
theorem ty4 : zc Tryz.prog 4 ⟨.bool,1,[.bool false],[],1⟩:=⟨by kernel_rfl,by kernel_rfl,by kernel_rfl⟩
theorem ty5 : zc Tryz.prog 5 ⟨.int .u8,1,[.int .u8 0],[],1⟩:=⟨by kernel_rfl,by kernel_rfl,by kernel_rfl⟩
theorem ty6 : zc Tryz.prog 6 ⟨.int .u8,1,[.int .u8 0],[],1⟩:=⟨by kernel_rfl,by kernel_rfl,by kernel_rfl⟩
theorem ty7 : zc Tryz.prog 7 ⟨.struct [(0,1,some false),(1,1,some false),(2,1,some false),(3,1,some false)],4,[.int .i64 0,.int .i64 0,.bool false,.int .u8 0],[],24⟩:=⟨by kernel_rfl,by kernel_rfl,by kernel_rfl⟩
theorem ty8 : zc Tryz.prog 8 ⟨.struct [(0,1,some false),(1,1,some false),(2,1,some false),(3,1,some false)],4,[.int .i64 0,.int .i64 0,.bool false,.int .u8 0],[],24⟩:=⟨by kernel_rfl,by kernel_rfl,by kernel_rfl⟩
theorem ty12 : zc Tryz.prog 12 ⟨.int .u64,1,[.int .u64 0],[],8⟩:=⟨by kernel_rfl,by kernel_rfl,by kernel_rfl⟩
theorem ty13 : zc Tryz.prog 13 ⟨.struct [(0,1,some false),(1,1,some false)],2,[.top,.int .u64 0],[],24⟩:=⟨by kernel_rfl,by kernel_rfl,by kernel_rfl⟩
theorem ty14 : zc Tryz.prog 14 ⟨.struct [(0,1,some false),(1,1,some false)],2,[.top,.int .u64 0],[],24⟩:=⟨by kernel_rfl,by kernel_rfl,by kernel_rfl⟩
theorem ty15 : zc Tryz.prog 15 ⟨.ptr 173,1,[.nilp],[],8⟩:=⟨by kernel_rfl,by kernel_rfl,by kernel_rfl⟩
theorem ty16 : zc Tryz.prog 16 ⟨.ptr 176,1,[.nilp],[],8⟩:=⟨by kernel_rfl,by kernel_rfl,by kernel_rfl⟩
theorem ty17 : zc Tryz.prog 17 ⟨.ptr 184,1,[.nilp],[],8⟩:=⟨by kernel_rfl,by kernel_rfl,by kernel_rfl⟩
theorem ty18 : zc Tryz.prog 18 ⟨.struct [(0,1,some false)],1,[.nilp],[],8⟩:=⟨by kernel_rfl,by kernel_rfl,by kernel_rfl⟩
theorem ty19 : zc Tryz.prog 19 ⟨.struct [(0,1,some false)],1,[.nilp],[],8⟩:=⟨by kernel_rfl,by kernel_rfl,by kernel_rfl⟩
theorem ty21 : zc Tryz.prog 21 ⟨.int .i32,1,[.int .i32 0],[],4⟩:=⟨by kernel_rfl,by kernel_rfl,by kernel_rfl⟩
theorem ty22 : zc Tryz.prog 22 ⟨.int .u32,1,[.int .u32 0],[],4⟩:=⟨by kernel_rfl,by kernel_rfl,by kernel_rfl⟩
theorem ty23 : zc Tryz.prog 23 ⟨.arr 16 5 1 (some false),16,[.int .u8 0,.int .u8 0,.int .u8 0,.int .u8 0,.int .u8 0,.int .u8 0,.int .u8 0,.int .u8 0,.int .u8 0,.int .u8 0,.int .u8 0,.int .u8 0,.int .u8 0,.int .u8 0,.int .u8 0,.int .u8 0],[false,false,false,false,false,false,false,false,false,false,false,false,false,false,false,false],16⟩:=⟨by kernel_rfl,by kernel_rfl,by kernel_rfl⟩
theorem ty24 : zc Tryz.prog 24 ⟨.arr 16 5 1 (some false),16,[.int .u8 0,.int .u8 0,.int .u8 0,.int .u8 0,.int .u8 0,.int .u8 0,.int .u8 0,.int .u8 0,.int .u8 0,.int .u8 0,.int .u8 0,.int .u8 0,.int .u8 0,.int .u8 0,.int .u8 0,.int .u8 0],[false,false,false,false,false,false,false,false,false,false,false,false,false,false,false,false],16⟩:=⟨by kernel_rfl,by kernel_rfl,by kernel_rfl⟩
theorem ty25 : zc Tryz.prog 25 ⟨.int .u16,1,[.int .u16 0],[],2⟩:=⟨by kernel_rfl,by kernel_rfl,by kernel_rfl⟩
theorem ty26 : zc Tryz.prog 26 ⟨.slice 5 1 true,1,[.nils],[],24⟩:=⟨by kernel_rfl,by kernel_rfl,by kernel_rfl⟩
theorem ty27 : zc Tryz.prog 27 ⟨.struct [(0,1,some false),(1,1,some false),(2,1,some false),(3,1,some false),(4,16,some true),(20,16,some true),(36,1,some false),(37,1,some false),(38,1,some false)],39,[.int .u8 0,.int .u32 0,.int .u8 0,.int .u8 0,.int .u8 0,.int .u8 0,.int .u8 0,.int .u8 0,.int .u8 0,.int .u8 0,.int .u8 0,.int .u8 0,.int .u8 0,.int .u8 0,.int .u8 0,.int .u8 0,.int .u8 0,.int .u8 0,.int .u8 0,.int .u8 0,.int .u8 0,.int .u8 0,.int .u8 0,.int .u8 0,.int .u8 0,.int .u8 0,.int .u8 0,.int .u8 0,.int .u8 0,.int .u8 0,.int .u8 0,.int .u8 0,.int .u8 0,.int .u8 0,.int .u8 0,.int .u8 0,.int .u16 0,.int .u16 0,.nils],[],72⟩:=⟨by kernel_rfl,by kernel_rfl,by kernel_rfl⟩
theorem ty28 : zc Tryz.prog 28 ⟨.struct [(0,1,some false),(1,1,some false),(2,1,some false),(3,1,some false),(4,16,some true),(20,16,some true),(36,1,some false),(37,1,some false),(38,1,some false)],39,[.int .u8 0,.int .u32 0,.int .u8 0,.int .u8 0,.int .u8 0,.int .u8 0,.int .u8 0,.int .u8 0,.int .u8 0,.int .u8 0,.int .u8 0,.int .u8 0,.int .u8 0,.int .u8 0,.int .u8 0,.int .u8 0,.int .u8 0,.int .u8 0,.int .u8 0,.int .u8 0,.int .u8 0,.int .u8 0,.int .u8 0,.int .u8 0,.int .u8 0,.int .u8 0,.int .u8 0,.int .u8 0,.int .u8 0,.int .u8 0,.int .u8 0,.int .u8 0,.int .u8 0,.int .u8 0,.int .u8 0,.int .u8 0,.int .u16 0,.int .u16 0,.nils],[],72⟩:=⟨by kernel_rfl,by kernel_rfl,by kernel_rfl⟩
theorem ty29 : zc Tryz.prog 29 ⟨.int .u16,1,[.int .u16 0],[],2⟩:=⟨by kernel_rfl,by kernel_rfl,by kernel_rfl⟩
theorem ty30 : zc Tryz.prog 30 ⟨.int .u64,1,[.int .u64 0],[],8⟩:=⟨by kernel_rfl,by kernel_rfl,by kernel_rfl⟩
theorem ty31 : zc Tryz.prog 31 ⟨.int .u64,1,[.int .u64 0],[],8⟩:=⟨by kernel_rfl,by kernel_rfl,by kernel_rfl⟩
theorem ty32 : zc Tryz.prog 32 ⟨.struct [(0,1,some false),(1,1,some false),(2,1,some false)],3,[.int .i64 0,.int .u16 0,.int .u64 0],[false,false,false],24⟩:=⟨by kernel_rfl,by kernel_rfl,by kernel_rfl⟩
theorem ty33 : zc Tryz.prog 33 ⟨.struct [(0,1,some false),(1,1,some false),(2,1,some false)],3,[.int .i64 0,.int .u16 0,.int .u64 0],[false,false,false],24⟩:=⟨by kernel_rfl,by kernel_rfl,by kernel_rfl⟩
theorem ty34 : zc Tryz.prog 34 ⟨.slice 60 20 true,1,[.nils],[],24⟩:=⟨by kernel_rfl,by kernel_rfl,by kernel_rfl⟩
theorem ty35 : zc Tryz.prog 35 ⟨.slice 3 1 true,1,[.nils],[],24⟩:=⟨by kernel_rfl,by kernel_rfl,by kernel_rfl⟩
theorem ty36 : zc Tryz.prog 36 ⟨.ptr 54,1,[.nilp],[],8⟩:=⟨by kernel_rfl,by kernel_rfl,by kernel_rfl⟩
theorem ty37 : zc Tryz.prog 37 ⟨.other,1,[.top],[],8⟩:=⟨by kernel_rfl,by kernel_rfl,by kernel_rfl⟩
theorem ty38 : zc Tryz.prog 38 ⟨.other,1,[.top],[],8⟩:=⟨by kernel_rfl,by kernel_rfl,by kernel_rfl⟩
theorem ty39 : zc Tryz.prog 39 ⟨.other,1,[.top],[],8⟩:=⟨by kernel_rfl,by kernel_rfl,by kernel_rfl⟩
theorem ty40 : zc Tryz.prog 40 ⟨.other,1,[.top],[],8⟩:=⟨by kernel_rfl,by kernel_rfl,by kernel_rfl⟩
theorem ty41 : zc Tryz.prog 41 ⟨.other,1,[.top],[],8⟩:=⟨by kernel_rfl,by kernel_rfl,by kernel_rfl⟩
theorem ty42 : zc Tryz.prog 42 ⟨.other,1,[.top],[],8⟩:=⟨by kernel_rfl,by kernel_rfl,by kernel_rfl⟩
theorem ty43 : zc Tryz.prog 43 ⟨.other,1,[.top],[],8⟩:=⟨by kernel_rfl,by kernel_rfl,by kernel_rfl⟩
theorem ty44 : zc Tryz.prog 44 ⟨.other,1,[.top],[],8⟩:=⟨by kernel_rfl,by kernel_rfl,by kernel_rfl⟩
theorem ty45 : zc Tryz.prog 45 ⟨.other,1,[.top],[],8⟩:=⟨by kernel_rfl,by kernel_rfl,by kernel_rfl⟩
theorem ty46 : zc Tryz.prog 46 ⟨.int .i64,1,[.int .i64 0],[],8⟩:=⟨by kernel_rfl,by kernel_rfl,by kernel_rfl⟩
theorem ty49 : zc Tryz.prog 49 ⟨.other,1,[.top],[],8⟩:=⟨by kernel_rfl,by kernel_rfl,by kernel_rfl⟩
theorem ty50 : zc Tryz.prog 50 ⟨.other,1,[.top],[],8⟩:=⟨by kernel_rfl,by kernel_rfl,by kernel_rfl⟩
theorem ty51 : zc Tryz.prog 51 ⟨.other,1,[.top],[],8⟩:=⟨by kernel_rfl,by kernel_rfl,by kernel_rfl⟩
theorem ty52 : zc Tryz.prog 52 ⟨.other,1,[.top],[],8⟩:=⟨by kernel_rfl,by kernel_rfl,by kernel_rfl⟩
theorem ty53 : zc Tryz.prog 53 ⟨.struct [(0,1,some false),(1,1,some false)],2,[.nils,.int .i64 0],[],32⟩:=⟨by kernel_rfl,by kernel_rfl,by kernel_rfl⟩
theorem ty54 : zc Tryz.prog 54 ⟨.struct [(0,1,some false),(1,1,some false)],2,[.nils,.int .i64 0],[],32⟩:=⟨by kernel_rfl,by kernel_rfl,by kernel_rfl⟩
theorem ty55 : zc Tryz.prog 55 ⟨.other,1,[.top],[],8⟩:=⟨by kernel_rfl,by kernel_rfl,by kernel_rfl⟩
theorem ty57 : zc Tryz.prog 57 ⟨.struct [(0,16,some true),(16,1,some false)],17,[.int .u8 0,.int .u8 0,.int .u8 0,.int .u8 0,.int .u8 0,.int .u8 0,.int .u8 0,.int .u8 0,.int .u8 0,.int .u8 0,.int .u8 0,.int .u8 0,.int .u8 0,.int .u8 0,.int .u8 0,.int .u8 0,.int .i64 0],[false,false,false,false,false,false,false,false,false,false,false,false,false,false,false,false,false],24⟩:=⟨by kernel_rfl,by kernel_rfl,by kernel_rfl⟩
theorem ty58 : zc Tryz.prog 58 ⟨.other,1,[.top],[],8⟩:=⟨by kernel_rfl,by kernel_rfl,by kernel_rfl⟩
theorem ty59 : zc Tryz.prog 59 ⟨.struct [(0,1,some false),(1,17,some true),(18,1,some false),(19,1,some false)],20,[.int .i64 0,.int .u8 0,.int .u8 0,.int .u8 0,.int .u8 0,.int .u8 0,.int .u8 0,.int .u8 0,.int .u8 0,.int .u8 0,.int .u8 0,.int .u8 0,.int .u8 0,.int .u8 0,.int .u8 0,.int .u8 0,.int .u8 0,.int .i64 0,.bool false,.int .i64 0],[false,false,false,false,false,false,false,false,false,false,false,false,false,false,false,false,false,false,true,false],48⟩:=⟨by kernel_rfl,by kernel_rfl,by kernel_rfl⟩
theorem ty60 : zc Tryz.prog 60 ⟨.struct [(0,1,some false),(1,17,some true),(18,1,some false),(19,1,some false)],20,[.int .i64 0,.int .u8 0,.int .u8 0,.int .u8 0,.int .u8 0,.int .u8 0,.int .u8 0,.int .u8 0,.int .u8 0,.int .u8 0,.int .u8 0,.int .u8 0,.int .u8 0,.int .u8 0,.int .u8 0,.int .u8 0,.int .u8 0,.int .i64 0,.bool false,.int .i64 0],[false,false,false,false,false,false,false,false,false,false,false,false,false,false,false,false,false,false,true,false],48⟩:=⟨by kernel_rfl,by kernel_rfl,by kernel_rfl⟩
theorem ty62 : zc Tryz.prog 62 ⟨.other,1,[.top],[],8⟩:=⟨by kernel_rfl,by kernel_rfl,by kernel_rfl⟩
theorem ty63 : zc Tryz.prog 63 ⟨.other,1,[.top],[],8⟩:=⟨by kernel_rfl,by kernel_rfl,by kernel_rfl⟩
theorem ty66 : zc Tryz.prog 66 ⟨.other,1,[.top],[],8⟩:=⟨by kernel_rfl,by kernel_rfl,by kernel_rfl⟩
theorem ty67 : zc Tryz.prog 67 ⟨.other,1,[.top],[],8⟩:=⟨by kernel_rfl,by kernel_rfl,by kernel_rfl⟩
theorem ty68 : zc Tryz.prog 68 ⟨.other,1,[.top],[],8⟩:=⟨by kernel_rfl,by kernel_rfl,by kernel_rfl⟩
theorem ty69 : zc Tryz.prog 69 ⟨.other,1,[.top],[],8⟩:=⟨by kernel_rfl,by kernel_rfl,by kernel_rfl⟩
theorem ty70 : zc Tryz.prog 70 ⟨.other,1,[.top],[],8⟩:=⟨by kernel_rfl,by kernel_rfl,by kernel_rfl⟩
theorem ty72 : zc Tryz.prog 72 ⟨.other,1,[.top],[],8⟩:=⟨by kernel_rfl,by kernel_rfl,by kernel_rfl⟩
theorem ty74 : zc Tryz.prog 74 ⟨.slice 30 1 true,1,[.nils],[],24⟩:=⟨by kernel_rfl,by kernel_rfl,by kernel_rfl⟩
theorem ty75 : zc Tryz.prog 75 ⟨.other,1,[.top],[],8⟩:=⟨by kernel_rfl,by kernel_rfl,by kernel_rfl⟩
theorem ty76 : zc Tryz.prog 76 ⟨.other,1,[.top],[],8⟩:=⟨by kernel_rfl,by kernel_rfl,by kernel_rfl⟩
theorem ty79 : zc Tryz.prog 79 ⟨.other,1,[.top],[],8⟩:=⟨by kernel_rfl,by kernel_rfl,by kernel_rfl⟩
theorem ty81 : zc Tryz.prog 81 ⟨.arr 5 5 1 (some false),5,[.int .u8 0,.int .u8 0,.int .u8 0,.int .u8 0,.int .u8 0],[false,false,false,false,false],5⟩:=⟨by kernel_rfl,by kernel_rfl,by kernel_rfl⟩
theorem ty82 : zc Tryz.prog 82 ⟨.other,1,[.top],[],8⟩:=⟨by kernel_rfl,by kernel_rfl,by kernel_rfl⟩
theorem ty85 : zc Tryz.prog 85 ⟨.other,1,[.top],[],8⟩:=⟨by kernel_rfl,by kernel_rfl,by kernel_rfl⟩
theorem ty88 : zc Tryz.prog 88 ⟨.other,1,[.top],[],8⟩:=⟨by kernel_rfl,by kernel_rfl,by kernel_rfl⟩
theorem ty89 : zc Tryz.prog 89 ⟨.other,1,[.top],[],8⟩:=⟨by kernel_rfl,by kernel_rfl,by kernel_rfl⟩
theorem ty90 : zc Tryz.prog 90 ⟨.struct [(0,1,some false),(1,1,some false),(2,1,some false),(3,1,some false)],4,[.bool false,.int .i64 0,.int .i64 0,.nils],[],48⟩:=⟨by kernel_rfl,by kernel_rfl,by kernel_rfl⟩
theorem ty91 : zc Tryz.prog 91 ⟨.struct [(0,1,some false),(1,1,some false),(2,1,some false),(3,1,some false)],4,[.bool false,.int .i64 0,.int .i64 0,.nils],[],48⟩:=⟨by kernel_rfl,by kernel_rfl,by kernel_rfl⟩
theorem ty92 : zc Tryz.prog 92 ⟨.other,1,[.top],[],8⟩:=⟨by kernel_rfl,by kernel_rfl,by kernel_rfl⟩
theorem ty93 : zc Tryz.prog 93 ⟨.other,1,[.top],[],8⟩:=⟨by kernel_rfl,by kernel_rfl,by kernel_rfl⟩
theorem ty94 : zc Tryz.prog 94 ⟨.other,1,[.top],[],8⟩:=⟨by kernel_rfl,by kernel_rfl,by kernel_rfl⟩
theorem ty95 : zc Tryz.prog 95 ⟨.int .u64,1,[.int .u64 0],[],8⟩:=⟨by kernel_rfl,by kernel_rfl,by kernel_rfl⟩
theorem ty97 : zc Tryz.prog 97 ⟨.other,1,[.top],[],8⟩:=⟨by kernel_rfl,by kernel_rfl,by kernel_rfl⟩
theorem ty98 : zc Tryz.prog 98 ⟨.other,1,[.top],[],8⟩:=⟨by kernel_rfl,by kernel_rfl,by kernel_rfl⟩
theorem ty99 : zc Tryz.prog 99 ⟨.other,1,[.top],[],8⟩:=⟨by kernel_rfl,by kernel_rfl,by kernel_rfl⟩
theorem ty104 : zc Tryz.prog 104 ⟨.arr 4 3 1 (some false),4,[.int .i64 0,.int .i64 0,.int .i64 0,.int .i64 0],[false,false,false,false],32⟩:=⟨by kernel_rfl,by kernel_rfl,by kernel_rfl⟩
theorem ty105 : zc Tryz.prog 105 ⟨.other,1,[.top],[],8⟩:=⟨by kernel_rfl,by kernel_rfl,by kernel_rfl⟩
theorem ty106 : zc Tryz.prog 106 ⟨.other,1,[.top],[],8⟩:=⟨by kernel_rfl,by kernel_rfl,by kernel_rfl⟩
theorem ty107 : zc Tryz.prog 107 ⟨.other,1,[.top],[],8⟩:=⟨by kernel_rfl,by kernel_rfl,by kernel_rfl⟩
theorem ty108 : zc Tryz.prog 108 ⟨.struct [(0,1,some false),(1,1,some false),(2,1,some false),(3,1,some false)],4,[.bool false,.int .i64 0,.int .i64 0,.nils],[],48⟩:=⟨by kernel_rfl,by kernel_rfl,by kernel_rfl⟩
theorem ty109 : zc Tryz.prog 109 ⟨.struct [(0,1,some false),(1,1,some false),(2,1,some false),(3,1,some false)],4,[.bool false,.int .i64 0,.int .i64 0,.nils],[],48⟩:=⟨by kernel_rfl,by kernel_rfl,by kernel_rfl⟩
theorem ty112 : zc Tryz.prog 112 ⟨.other,1,[.top],[],8⟩:=⟨by kernel_rfl,by kernel_rfl,by kernel_rfl⟩
theorem ty113 : zc Tryz.prog 113 ⟨.other,1,[.top],[],8⟩:=⟨by kernel_rfl,by kernel_rfl,by kernel_rfl⟩
theorem ty117 : zc Tryz.prog 117 ⟨.other,1,[.top],[],8⟩:=⟨by kernel_rfl,by kernel_rfl,by kernel_rfl⟩
theorem ty119 : zc Tryz.prog 119 ⟨.other,1,[.top],[],8⟩:=⟨by kernel_rfl,by kernel_rfl,by kernel_rfl⟩
theorem ty121 : zc Tryz.prog 121 ⟨.slice 26 1 true,1,[.nils],[],24⟩:=⟨by kernel_rfl,by kernel_rfl,by kernel_rfl⟩
theorem ty122 : zc Tryz.prog 122 ⟨.other,1,[.top],[],8⟩:=⟨by kernel_rfl,by kernel_rfl,by kernel_rfl⟩
theorem ty123 : zc Tryz.prog 123 ⟨.other,1,[.top],[],8⟩:=⟨by kernel_rfl,by kernel_rfl,by kernel_rfl⟩
theorem ty124 : zc Tryz.prog 124 ⟨.ptr 126,1,[.nilp],[],8⟩:=⟨by kernel_rfl,by kernel_rfl,by kernel_rfl⟩
theorem ty126 : zc Tryz.prog 126 ⟨.struct [(0,1,some false),(1,1,some false)],2,[.nils,.int .i64 0],[],32⟩:=⟨by kernel_rfl,by kernel_rfl,by kernel_rfl⟩
theorem ty130 : zc Tryz.prog 130 ⟨.other,1,[.top],[],8⟩:=⟨by kernel_rfl,by kernel_rfl,by kernel_rfl⟩
theorem ty132 : zc Tryz.prog 132 ⟨.other,1,[.top],[],8⟩:=⟨by kernel_rfl,by kernel_rfl,by kernel_rfl⟩
theorem ty136 : zc Tryz.prog 136 ⟨.arr 2 3 1 (some false),2,[.int .i64 0,.int .i64 0],[false,false],16⟩:=⟨by kernel_rfl,by kernel_rfl,by kernel_rfl⟩
theorem ty137 : zc Tryz.prog 137 ⟨.arr 3 136 2 (some true),6,[.int .i64 0,.int .i64 0,.int .i64 0,.int .i64 0,.int .i64 0,.int .i64 0],[false,false,false,false,false,false],48⟩:=⟨by kernel_rfl,by kernel_rfl,by kernel_rfl⟩
theorem ty138 : zc Tryz.prog 138 ⟨.arr 3 30 1 (some false),3,[.int .u64 0,.int .u64 0,.int .u64 0],[false,false,false],24⟩:=⟨by kernel_rfl,by kernel_rfl,by kernel_rfl⟩
theorem ty139 : zc Tryz.prog 139 ⟨.other,1,[.top],[],8⟩:=⟨by kernel_rfl,by kernel_rfl,by kernel_rfl⟩
theorem ty142 : zc Tryz.prog 142 ⟨.ptr 144,1,[.nilp],[],8⟩:=⟨by kernel_rfl,by kernel_rfl,by kernel_rfl⟩
theorem ty144 : zc Tryz.prog 144 ⟨.struct [(0,1,some false),(1,1,some false),(2,1,some false)],3,[.nils,.int .i64 0,.int .i64 0],[],40⟩:=⟨by kernel_rfl,by kernel_rfl,by kernel_rfl⟩
theorem ty149 : zc Tryz.prog 149 ⟨.other,1,[.top],[],8⟩:=⟨by kernel_rfl,by kernel_rfl,by kernel_rfl⟩
theorem ty150 : zc Tryz.prog 150 ⟨.other,1,[.top],[],8⟩:=⟨by kernel_rfl,by kernel_rfl,by kernel_rfl⟩
theorem ty151 : zc Tryz.prog 151 ⟨.other,1,[.top],[],8⟩:=⟨by kernel_rfl,by kernel_rfl,by kernel_rfl⟩
theorem ty154 : zc Tryz.prog 154 ⟨.other,1,[.top],[],8⟩:=⟨by kernel_rfl,by kernel_rfl,by kernel_rfl⟩
theorem ty155 : zc Tryz.prog 155 ⟨.slice 157 2 true,1,[.nils],[],24⟩:=⟨by kernel_rfl,by kernel_rfl,by kernel_rfl⟩
theorem ty157 : zc Tryz.prog 157 ⟨.struct [(0,1,some false),(1,1,some false)],2,[.int .u64 0,.int .i64 0],[false,false],16⟩:=⟨by kernel_rfl,by kernel_rfl,by kernel_rfl⟩
theorem ty158 : zc Tryz.prog 158 ⟨.other,1,[.top],[],8⟩:=⟨by kernel_rfl,by kernel_rfl,by kernel_rfl⟩
theorem ty160 : zc Tryz.prog 160 ⟨.other,1,[.top],[],8⟩:=⟨by kernel_rfl,by kernel_rfl,by kernel_rfl⟩
theorem ty162 : zc Tryz.prog 162 ⟨.arr 2 5 1 (some false),2,[.int .u8 0,.int .u8 0],[false,false],2⟩:=⟨by kernel_rfl,by kernel_rfl,by kernel_rfl⟩
theorem ty165 : zc Tryz.prog 165 ⟨.other,1,[.top],[],8⟩:=⟨by kernel_rfl,by kernel_rfl,by kernel_rfl⟩
theorem ty166 : zc Tryz.prog 166 ⟨.arr 4 30 1 (some false),4,[.int .u64 0,.int .u64 0,.int .u64 0,.int .u64 0],[false,false,false,false],32⟩:=⟨by kernel_rfl,by kernel_rfl,by kernel_rfl⟩
theorem ty168 : zc Tryz.prog 168 ⟨.other,1,[.top],[],8⟩:=⟨by kernel_rfl,by kernel_rfl,by kernel_rfl⟩
theorem ty173 : zc Tryz.prog 173 ⟨.struct [(0,1,some false),(1,1,some false),(2,1,some false),(3,1,some false)],4,[.nilp,.nilp,.nilp,.top],[],40⟩:=⟨by kernel_rfl,by kernel_rfl,by kernel_rfl⟩
theorem ty174 : zc Tryz.prog 174 ⟨.arr 0 16 1 (some false),0,[],[],0⟩:=⟨by kernel_rfl,by kernel_rfl,by kernel_rfl⟩
theorem ty176 : zc Tryz.prog 176 ⟨.struct [(0,0,some true)],0,[],[],0⟩:=⟨by kernel_rfl,by kernel_rfl,by kernel_rfl⟩
theorem ty178 : zc Tryz.prog 178 ⟨.int .u8,1,[.int .u8 0],[],1⟩:=⟨by kernel_rfl,by kernel_rfl,by kernel_rfl⟩
theorem ty179 : zc Tryz.prog 179 ⟨.other,1,[.top],[],8⟩:=⟨by kernel_rfl,by kernel_rfl,by kernel_rfl⟩
theorem ty181 : zc Tryz.prog 181 ⟨.int .i32,1,[.int .i32 0],[],4⟩:=⟨by kernel_rfl,by kernel_rfl,by kernel_rfl⟩
theorem zM : qO Tryz.prog T:=(show zFM Tryz.prog tyO from ⟨ty1,ty2,ty3,ty4,ty5,ty6,ty7,ty8,ty12,ty13,ty14,ty15,ty16,ty17,ty18,ty19,ty21,ty22,ty23,ty24,ty25,ty26,ty27,ty28,ty29,ty30,ty31,ty32,ty33,ty34,ty35,ty36,ty37,ty38,ty39,ty40,ty41,ty42,ty43,ty44,ty45,ty46,ty49,ty50,ty51,ty52,ty53,ty54,ty55,ty57,ty58,ty59,ty60,ty62,ty63,ty66,ty67,ty68,ty69,ty70,ty72,ty74,ty75,ty76,ty79,ty81,ty82,ty85,ty88,ty89,ty90,ty91,ty92,ty93,ty94,ty95,ty97,ty98,ty99,ty104,ty105,ty106,ty107,ty108,ty109,ty112,ty113,ty117,ty119,ty121,ty122,ty123,ty124,ty126,ty130,ty132,ty136,ty137,ty138,ty139,ty142,ty144,ty149,ty150,ty151,ty154,ty155,ty157,ty158,ty160,ty162,ty165,ty166,ty168,ty173,ty174,ty176,ty178,ty179,ty181,trivial⟩).at
theorem zN : Tryz.prog.follows .mixedOrders = true:=by kernel_rfl
end Go.Proofs.YtjknkfjhcapocaaGreatDoor.AX
namespace Go.Proofs.YtjknkfjhcapocaaGreatDoor.AX
open Go.RowKit
def LE0 : Qb:=[]
theorem ZG : ZC Tryz.prog LE0:=trivial
theorem zAE {f g : Nat -> CV} : ∀ {n off : Nat},zz f g n off = true ↔ ∀ i,i < n -> Qp (f (off + i)) (g (off + i)) = true:=by
 intro n;induction n with
 | zero=>intro off;simp [zz]
 | succ n ih=>
   intro off;simp only [zz,Bool.and_eq_true,ih];constructor
   . rintro ⟨h1,h2⟩ i hi;cases i with
     | zero=>exact h1
     | succ i=>have:=h2 i (by omega);rw [show off + 1 + i = off + (i + 1) by omega] at this;exact this
   . intro h;refine ⟨h 0 (by omega),λi hi=>?_⟩;have:=h (i + 1) (by omega);rw [show off + 1 + i = off + (i + 1) by omega];exact this
theorem zGf {c : Wc} {x y z : CV} (h : LeC c x y) (e : y = z) : LeC c x z:=e ▸ h
theorem qy {α : Type} [Inhabited α] {l : List α} {i : Nat} (h : i < l.length) : l.drop i = l.getD i default :: l.drop (i + 1):=by
 rw [List.drop_eq_getElem_cons h,List.getD_eq_getElem?_getD,List.getElem?_eq_getElem h];rfl
theorem zEz (n : Nat) : Nat.blt n n = false:=by
 cases hb : Nat.blt n n with
 | false=>rfl
 | true=>have:=Nat.le_of_ble_eq_true hb;omega
theorem zHW {c : Wc} {t : TypeId} {α : Type} [Inhabited α] {E : Elem α} {L : List α} {x : α} {n : Nat} {f : Nat -> Nat -> CV} (hn : n = L.length + 1) (h1 : ∀ i,i < L.length -> ∀ j,j < E.sz -> LeC c (f i j) (zn E L i j)) (h2 : allLt E.sz λj=>LeC c (f L.length j) (E.cell x j)) :
 LeN c ⟨t,n,E.sz,false,f⟩ (qD E t (L ++ [x])):=by
 refine ⟨rfl,by simp [qD,hn],rfl,rfl,λi hi j hj=>?_⟩;have hi' : i < n:=hi;show LeC c (f i j) (E.cell ((L ++ [x]).getD i default) j);by_cases h : i < L.length
 . have : (L ++ [x]).getD i default = L.getD i default:=by
    simp [List.getD_eq_getElem?_getD,List.getElem?_append_left h]
   rw [this];exact h1 i h j hj
 . have hi2 : i = L.length:=by omega
   subst hi2;have : (L ++ [x]).getD L.length default = x:=by simp [List.getD_eq_getElem?_getD]
   rw [this];exact zE4 h2 j hj
theorem ZW {c : Wc} {k : Nat} {t : TypeId} {α : Type} [Inhabited α] {E : Elem α} {L : List α} (he : zP c.H k = some (qD E t L)) (hd : c.dead k = true) : LeC c (.os k 0 L.length) (slR E L):=
 zF1 he hd rfl rfl (by simp [qD]) λq _ j _=>by rw [Nat.zero_add];exact (E.flat _ _).le
theorem qp {c : Wc} {t : TypeId} {α : Type} [Inhabited α] {E : Elem α} {L : List α} : LeN c (qD E t L) (qD E t L):=zBe rfl λ_ _ _ _=>(E.flat _ _).le
theorem beq_of {a b : Nat} (h : a = b) : Nat.beq a b = true:=by subst h;simp
theorem beq_ne {a b : Nat} (h : a ≠ b) : Nat.beq a b = false:=by
 cases hb : Nat.beq a b with
 | false=>rfl
 | true=>exact absurd (Nat.eq_of_beq_eq_true hb) h
theorem qd {c : Wc} {α : Type} {E : Elem α} {a b : α} {j : Nat} (h : a = b) : LeC c (E.cell a j) (E.cell b j):=by rw [h];exact (E.flat _ _).le
theorem zGg {a b : Nat} (h : a < b) : Nat.blt a b = true:=Nat.ble_eq_true_of_le h
theorem ovrO {f g : Nat -> CV} {off n j : Nat} (h : j < off \/ off + n <= j) : ovr f off n g j = f j:=by
 unfold ovr;rw [zA6 h];rfl
theorem ovrI {f g : Nat -> CV} {off n j : Nat} (h : off <= j /\ j < off + n) : ovr f off n g j = g (j - off):=by
 unfold ovr;rw [zCk h];rfl
theorem zHX (n : Nat) : Nat.blt n 0 = false:=rfl
def Zf (n : Nat) (f : Nat -> Nat -> CV) (q : Int) : Ent:=⟨54,1,2,true,λ_ j=>bif Nat.beq j 0 then .sl true n 1 f else .int .i64 q⟩
abbrev rI (l : List Int) : Nat -> Nat -> CV:=zn (eI .i64) l
def rngL (l : List Int) : Prop:=∀ i,-9223372036854775808 <= l.getD i default /\ l.getD i default <= 9223372036854775807
structure TapeOk (n : Nat) (f : Nat -> Nat -> CV) (q : Int) : Prop where
 len : n <= 400
 lo : 0 <= q
 hi : q <= n
 row : ∃ l : List Int,f = rI l /\ rngL l
theorem TapeOk.at {n : Nat} {f : Nat -> Nat -> CV} {q q' : Int} (h : TapeOk n f q) (h1 : 0 <= q') (h2 : q' <= n) : TapeOk n f q':=⟨h.len,h1,h2,h.row⟩
theorem ZI {c : Wc} {n : Nat} {l : List Int} {q : Int} : LeN c (Zf n (rI l) q) (Zf n (rI l) q):=
 zh ⟨⟨trivial,qh (λ_=>rfl) rfl rfl λi _ j _=>zA rfl⟩,zA rfl⟩
theorem TapeOk.le {c : Wc} {n : Nat} {f : Nat -> Nat -> CV} {q : Int} (h : TapeOk n f q) : LeN c (Zf n f q) (Zf n f q):=by
 obtain ⟨_,_,_,l,rfl,_⟩:=h;exact ZI
theorem zHu {n : Nat} {l : List Int} {q : Int} : ∀ i,i < (Zf n (rI l) q).n -> ∀ j,j < (Zf n (rI l) q).sz -> NF ((Zf n (rI l) q).f i j):=by
 intro i _ j _;show NF (bif Nat.beq j 0 then _ else _);cases Nat.beq j 0 with
 | true=>exact zE3 λi _ j _=>QS
 | false=>exact QS
theorem zIS {P : Program} {fid : FuncId} {rest : List FV} {n : Nat} {f : Nat -> Nat -> CV} {q : Int} {g : Nat -> Nat -> CV} {val : FV} {e' : Ent} (h0 : g 0 0 = .sl true n 1 f) (h1 : g 0 1 = .int .i64 q) (h : ze P fid rest (Zf n f q) val e') : ze P fid rest ⟨54,1,2,true,g⟩ val e':=by
 intro X w x vals a1 a2 a3 hent hrel;refine h X w x vals a1 a2 a3 ?_ hrel;refine hent.map rfl rfl rfl rfl rfl (λ_ _=>rfl) λi hi j hj u hu=>?_;have hi' : i < 1:=hi;have hj' : j < 2:=hj;have e0 : i = 0:=by omega
 subst e0;rcases (show j = 0 \/ j = 1 by omega) with rfl | rfl
 . have t : (CV.sl true n 1 f).rel (λ_=>none) X (λb=>b = x.b) w u:=by rw [<- h0];exact hu
   exact t
 . have t : (CV.int .i64 q).rel (λ_=>none) X (λb=>b = x.b) w u:=by rw [<- h1];exact hu
   exact t
def Yt {α R : Type} (A : AC α) (p : α -> Prop) (S : α -> R -> Prop) (enc : R -> FV) : ZD:=λargs H _ _=>
 match args with
 | .e (.c (.ptr k 0 0 _)) :: rest=>
   match zP H k with
   | some ⟨t,en,es,v,g⟩=>
     match g 0 0,g 0 1 with
     | .sl true n s f,.int .i64 q=>
       match A.dec H rest with
       | some (a,pq,rd)=>bif Nat.beq t 54 && Nat.beq en 1 && Nat.beq es 2 && v && Nat.beq s 1 && !(rd.any (Nat.beq k)) then
          some λK=>pAnd pq ((TapeOk n f q /\ p a) /\ ∀ r,S a r -> ∀ q',TapeOk n f q' -> K (enc r) [(k,some (Zf n f q'))] (k :: rd)) else none
       | none=>none
     | _,_=>none
   | none=>none
 | _=>none
theorem qv {α R : Type} {A : AC α} {p : α -> Prop} {S : α -> R -> Prop} {enc : R -> FV} {P : Program} {f : FuncId} (hb : YS P f)
 (h : ∀ n l q a,TapeOk n (rI l) q -> p a -> ∃ r q',S a r /\ TapeOk n (rI l) q' /\ ze P f (A.enc a) (Zf n (rI l) q) (enc r) (Zf n (rI l) q')) : EntOk P f (Yt A p S enc):=by
 refine ⟨λargs H nm wd q _ hq K hK=>?_,λargs H nm wd q hq K K' hKK hK=>?_⟩
 . unfold Yt at hq;split at hq
   . rename_i k s rest;split at hq
     . rename_i t en es v g he;split at hq
       . rename_i n s f q0 hg0 hg1;split at hq
         . rename_i a pr rd hd;obtain ⟨hc,hq⟩:=ZN hq;subst hq;simp only [Bool.and_eq_true,Bool.not_eq_true'] at hc;obtain ⟨⟨⟨⟨⟨c1,c2⟩,c3⟩,c4⟩,c5⟩,c6⟩:=hc;have c1:=Nat.eq_of_beq_eq_true c1;have c2:=Nat.eq_of_beq_eq_true c2;have c3:=Nat.eq_of_beq_eq_true c3;have c5:=Nat.eq_of_beq_eq_true c5;subst c1 c2 c3 c4 c5;have hkr : k ∉ rd:=λhm=>by
            have : rd.any (Nat.beq k) = true:=List.any_eq_true.2 ⟨k,hm,by simp⟩;rw [c6] at this;cases this
           obtain ⟨h1,⟨h2,h2'⟩,h3⟩:=QD.1 hK;obtain ⟨l,rfl,hl⟩:=h2.row;obtain ⟨r,q',g1,g2,g3⟩:=h n l q0 a h2 h2';refine ⟨_,_,_,zCl hb he rfl hkr ?_ (λH' hh=>A.sound H H' rest a pr rd hd h1 hh) (zIS hg0 hg1 g3) rfl,h3 _ g1 _ g2⟩;intro i hi j hj;have hi' : i < 1:=hi;have hj' : j < 2:=hj;have e0 : i = 0:=by omega
           subst e0;rcases (show j = 0 \/ j = 1 by omega) with rfl | rfl
           . show NF (g 0 0);rw [hg0];exact zE3 λi _ j _=>QS
           . show NF (g 0 1);rw [hg1];exact QS
         . cases hq
       . cases hq
     . cases hq
   . cases hq
 . unfold Yt at hq;split at hq
   . split at hq
     . split at hq
       . split at hq
         . obtain ⟨hc,hq⟩:=ZN hq;subst hq;obtain ⟨h1,h2,h3⟩:=QD.1 hK;exact QD.2 ⟨h1,h2,λr hr q' hq'=>hKK _ _ _ (h3 r hr q' hq')⟩
         . cases hq
       . cases hq
     . cases hq
   . cases hq
section
variable {P : Program} {T : Tys} {Q : Qs} {wd : Nat}
theorem qE (hwd : 0 < wd) (hT : qO P T) (hQ : zBR P Q) (hm : P.follows .mixedOrders = true) {f : FuncId} {fn : Func} {c : Code} (hf : P.funcs[f]? = some fn) (hb : fn.body = some c) (rest : List FV) (hn : rest.length + 1 <= fn.ntmps) {n : Nat} {l : List Int} {q : Int} {R : Type} {S : R -> Prop} {enc : R -> FV} (hnf : ∀ r,NFF (enc r))
 (h : qo T Q wd fn.ntmps 1 c (Ya (.e (.c (.ptr 0 0 0 false)) :: rest) 0) [(0,some (Zf n (rI l) q))] 1 (YQ T fn.results.toList λx H _=>∃ r : R × Int,(S r.1 /\ TapeOk n (rI l) r.2) /\ FinM (enc r.1) (Zf n (rI l) r.2) x H)) :
 ∃ r q',S r /\ TapeOk n (rI l) q' /\ ze P f rest (Zf n (rI l) q) (enc r) (Zf n (rI l) q'):=by
 obtain ⟨⟨r,q'⟩,h1,h2⟩:=zDr (α:=R × Int) (post:=λa x H _=>FinM (enc a.1) (Zf n (rI l) a.2) x H) (S:=λa=>S a.1 /\ TapeOk n (rI l) a.2) hwd hQ h;exact ⟨r,q',h1.1,h1.2,zR hwd hT (QR_ok P) hm hf hb rest hn (hnf r) zHu h2⟩
end
theorem zDT {k : IntKind} {a : Int} : NFF (.e (.c (.int k a))):=λ_ _ _ _ _ _ h=>h
theorem nff_bool {a : Bool} : NFF (.e (.c (.bool a))):=λ_ _ _ _ _ _ h=>h
theorem nff_c {x : CV} (h : NF x) : NFF (.e (.c x)):=h
theorem zAu {α : Type} (E : Elem α) (a : α) : NFF (.e (.agg E.sz (E.cell a))):=by
 rintro r r' X W w v ⟨cs,rfl,h1,h2⟩;exact ⟨cs,rfl,h1,λi u hu=>(E.flat _ _).nf _ _ _ _ _ _ (h2 i u hu)⟩
theorem zCu (x m : Int) (h : 1 <= m) : -m < x.tmod m /\ x.tmod m < m:=by
 have h1:=Int.tmod_lt_of_pos x (show 0 < m by omega);have h2:=Int.tmod_lt_of_pos (-x) (show 0 < m by omega);rw [Int.neg_tmod] at h2;omega
theorem next_ok (n : Nat) (l : List Int) (q m : Int) (ht : TapeOk n (rI l) q) (h1 : 1 <= m) (h2 : m <= 4611686018427387904) :
 ∃ r q',(0 <= r /\ r < m) /\ TapeOk n (rI l) q' /\ ze Tryz.prog 11 [(cI .i64).enc m] (Zf n (rI l) q) ((cI .i64).enc r) (Zf n (rI l) q'):=by
 refine qE (wd:=1) (by decide) zM (zT ZG) zN Tryz.func11 rfl _ (by show 1 + 1 <= _;decide) (λ_=>zDT) ?_;have a1:=ht.len;have a2:=ht.lo;have a3:=ht.hi;have a5:=zCu (l.getD q.toNat default) m h1;repeat' (first | (apply And.intro<;>intro hc<;>(first | exact Bool.noConfusion hc | (simp only [qm] at hc) | skip)) | (refine And.intro Ql ?_) | (apply And.intro) | (intro s hs))
 . exact ⟨(0,q),⟨⟨by omega,by omega⟩,ht⟩,⟨zF rfl,ZI⟩⟩
 . refine ⟨((l.getD q.toNat default).tmod m + m,q + 1),⟨⟨by omega,by omega⟩,ht.at (by omega) (by omega)⟩,⟨zF ?_,zh ⟨⟨trivial,qh (λ_=>rfl) rfl rfl λi _ j _=>zA rfl⟩,zA ?_⟩⟩⟩
   . exact IntWalk.i64_in _ (by omega)
   . exact IntWalk.i64_in _ (by omega)
 . refine ⟨((l.getD q.toNat default).tmod m,q + 1),⟨⟨by omega,by omega⟩,ht.at (by omega) (by omega)⟩,⟨zF ?_,zh ⟨⟨trivial,qh (λ_=>rfl) rfl rfl λi _ j _=>zA rfl⟩,zA ?_⟩⟩⟩
   . rfl
   . exact IntWalk.i64_in _ (by omega)
def modF (v n : Int) : Int:=if v.tmod n < 0 then v.tmod n + n else v.tmod n
theorem zEb {v n : Int} (h : 1 <= n) : 0 <= modF v n /\ modF v n < n:=by
 have:=zCu v n h;unfold modF;split<;>omega
theorem mod_ok (v n : Int) (h1 : 1 <= n) (h2 : n <= 4611686018427387904) : zY Tryz.prog 15 [(cI .i64).enc v,(cI .i64).enc n] ((cI .i64).enc (modF v n)):=by
 have a5:=zCu v n h1;refine zG (wd:=1) (by decide) zM (zT ZG) zN Tryz.func15 rfl _ (by show 2 <= _;decide) _ ?_;repeat' (first | (apply And.intro<;>intro hc<;>(first | exact Bool.noConfusion hc | (simp only [qm] at hc) | skip)) | (refine And.intro Ql ?_) | (apply And.intro) | (intro s hs))
 . refine Done.mk (zF ?_);rw [modF,if_pos hc];exact IntWalk.i64_in _ (by omega)
 . refine Done.mk (zF ?_);rw [modF,if_neg hc]
abbrev nextE : ZD:=Yt (AC.cons (cI .i64) AC.nil) (λa=>1 <= a.1 /\ a.1 <= 4611686018427387904) (λa (r : Int)=>0 <= r /\ r < a.1) (cI .i64).enc
def LT0 : Qb:=(11,some nextE) :: (15,some (ZH (AC.cons (cI .i64) (AC.cons (cI .i64) AC.nil)) (λa=>1 <= a.2.1 /\ a.2.1 <= 4611686018427387904) (λa=>modF a.1 a.2.1) (cI .i64).enc)) :: []
theorem LT0_ok : ZC Tryz.prog LT0:=⟨qv ⟨_,Tryz.func11,rfl,by kernel_rfl⟩ λn l q a ht hp=>next_ok n l q a.1 ht hp.1 hp.2,zO ⟨_,Tryz.func15,rfl,by kernel_rfl⟩ λa h=>mod_ok a.1 a.2.1 h.1 h.2,trivial⟩
theorem bool_ok (n : Nat) (l : List Int) (q m : Int) (ht : TapeOk n (rI l) q) (h1 : 1 <= m) (h2 : m <= 4611686018427387904) :
 ∃ (r : Bool) (q' : Int),True /\ TapeOk n (rI l) q' /\ ze Tryz.prog 18 [(cI .i64).enc m] (Zf n (rI l) q) (cB.enc r) (Zf n (rI l) q'):=by
 refine qE (wd:=1) (by decide) zM (zT LT0_ok) zN Tryz.func18 rfl _ (by show 1 + 1 <= _;decide) (λ_=>nff_bool) ?_;repeat' (first | (apply And.intro<;>intro hc<;>(first | exact Bool.noConfusion hc | (simp only [qm] at hc) | skip)) | (refine And.intro Za ?_) | (apply And.intro) | (intro s hs))
 . exact ⟨(_,_),⟨trivial,by assumption⟩,⟨zC rfl,ZI⟩⟩
theorem bo_shI {H : Hp} {n : Nat} {l : List Int} : Bo H [] (.e (.c (.sl true n 1 (rI l)))) (.e (.c (.sl true n 1 (rI l)))):=by
 rintro cx r w v st ⟨a,cap,rfl,h1,h2⟩;refine ⟨a,cap,rfl,h1,λh0=>?_⟩;obtain ⟨ad,rfl,hs,ho,hX,hlt,hc⟩:=h2 h0;refine ⟨ad,rfl,hs,λ⟨k,e,x,q1,q2,q3,_⟩=>ho ⟨k,e,x,q1,q2,q3⟩,λ_ h=>h.elim (hX rfl) ho,hlt,λi hi j hj=>?_⟩;obtain ⟨u,hu,hr⟩:=hc i hi j hj;exact ⟨u,hu,hr⟩
theorem new_ok (n : Nat) (l : List Int) : ql Tryz.prog 5 [.e (.c (.sl true n 1 (rI l)))] none none (Zf (min n 400) (rI l) 0):=by
 refine ZR (wd:=1) (by decide) zM (zT ZG) zN Tryz.func5 rfl _ (by show 1 <= _;decide) zHu ?_;repeat' (first | (apply And.intro<;>intro hc<;>(first | exact Bool.noConfusion hc | (simp only [qm] at hc) | skip)) | (refine And.intro Ql ?_) | (apply And.intro) | (intro s hs))
 . refine ⟨⟨some 9,zEU rfl,?_⟩⟩;exact zh ⟨⟨trivial,qh (λ_=>rfl) (by show 400 - 0 = min n 400;omega) rfl λi _ j _=>zA (by rw [Nat.zero_add])⟩,zA rfl⟩
 . refine ⟨⟨some 6,zEU rfl,?_⟩⟩;exact zh ⟨⟨trivial,qh (λ_=>rfl) (by omega) rfl λi _ j _=>zA rfl⟩,zA rfl⟩
def zDU : ZD:=λargs H nm _=>
 match args with
 | [.e (.c (.sl true n s f))]=>bif Nat.beq s 1 then some λK=>(∃ l,f = rI l /\ rngL l) /\ ∀ m,∀ q,TapeOk m f q -> K (one (.ptr nm 0 0 false)) [(nm,some (Zf m f q))] [] else none
 | _=>none
theorem zHv : EntOk Tryz.prog 5 zDU:=by
 refine ⟨λargs H nm wd q hwd hq K hK=>?_,λargs H nm wd q hq K K' hKK hK=>?_⟩
 . unfold zDU at hq;split at hq
   . rename_i n s f;obtain ⟨hb,hq⟩:=ZN hq;subst hq;have hb:=Nat.eq_of_beq_eq_true hb;subst hb;obtain ⟨⟨l,rfl,hl⟩,hK⟩:=hK;refine ⟨_,_,_,zF0 (args':=[.e (.c (.sl true n 1 (rI l)))]) (rd:=[]) ⟨_,Tryz.func5,rfl,by kernel_rfl⟩ hwd (kd:=none) (rest:=none) (λl h=>by cases h) (λH' _=>⟨rfl,λi x y hx hy=>?_⟩) (new_ok n l),hK (min n 400) 0 ⟨by omega,by omega,by omega,l,rfl,hl⟩⟩;cases i with
     | zero=>simp only [List.getElem?_cons_zero,Option.some.injEq] at hx hy;subst hx hy;exact bo_shI
     | succ i=>cases i<;>cases hx
   . cases hq
 . unfold zDU at hq;split at hq
   . obtain ⟨hb,hq⟩:=ZN hq;subst hq;exact ⟨hK.1,λm q h=>hKK _ _ _ (hK.2 m q h)⟩
   . cases hq
abbrev boolE : ZD:=Yt (AC.cons (cI .i64) AC.nil) (λa=>1 <= a.1 /\ a.1 <= 4611686018427387904) (λa (r : Bool)=>True) cB.enc
theorem zD6 {w : World} {a : Addr} {u : Value} (h : w.cell? a = some u) : a.spot = none:=by
 unfold World.cell? at h;split at h
 . split at h
   . cases h
   . rename_i hs;simpa using hs
 . cases h
theorem row_rel {w : World} {a : Option Addr} {len cap : Nat} {zs : List Int} (h : IsRow .i64 w a len cap zs) :
 (FV.e (.c (CV.sl true len 1 (rI zs)))).rel (λ_=>none) (λ_=>False) (λ_=>False) w (.slice a len cap):=by
 rcases h with ⟨rfl,rfl,rfl,rfl⟩ | ⟨ad,rfl,hl,hm,hz,hcell,hwz⟩
 . exact ⟨none,0,rfl,Nat.le_refl _,λh=>absurd h (Nat.lt_irrefl _)⟩
 . refine ⟨some ad,cap,rfl,hl,λh0=>?_⟩;have h1:=hcell 0 (by omega);rw [zCV] at h1;have hsp : ad.spot = none:=zD6 h1;refine ⟨ad,rfl,hsp,λh=>h,λ_ h=>h,zBq h1,λi hi j hj=>?_⟩;have : j = 0:=by omega
   subst this;have h2:=hcell i (by omega);rw [addS hsp] at h2;exact ⟨_,by rw [show i * 1 + 0 = i by omega];exact h2,rfl⟩
theorem wf_i64 {n : Int} (h : (Lit.int .i64 n).wf = true) : -9223372036854775808 <= n /\ n <= 9223372036854775807:=by
 simp [Lit.wf,IntKind.min,IntKind.max,IntKind.bits,IntKind.signed] at h;omega
theorem rng_of {w : World} {a : Option Addr} {len cap : Nat} {zs : List Int} (h : IsRow .i64 w a len cap zs) : rngL zs:=by
 have hall : ∀ z ∈ zs,(Lit.int .i64 z).wf = true:=by
  rcases h with ⟨rfl,rfl,rfl,rfl⟩ | ⟨ad,rfl,hl,hm,hz,hcell,hwz⟩
  . intro z hz;cases hz
  . exact hwz
 intro i;by_cases hi : i < zs.length
 . have e : zs.getD i default = zs[i]:=by simp [List.getD_eq_getElem?_getD,List.getElem?_eq_getElem hi]
   rw [e];exact wf_i64 (hall _ (List.getElem_mem hi))
 . have e : zs.getD i default = 0:=by simp [List.getD_eq_getElem?_getD,List.getElem?_eq_none (by omega : zs.length <= i)]
   rw [e];omega
theorem relL1 {r : Qj} {X W : Nat -> Prop} {w : World} {x : FV} {v : Value} (h : x.rel r X W w v) : zBS r X W w [x] #[v]:=
 ⟨rfl,λi y u hy hu=>by
   match i,hy,hu with
   | 0,hy,hu=>injection hy with hy;injection hu with hu;subst hy hu;exact h⟩
theorem Ym {r : Qj} {X W : Nat -> Prop} {w : World} {x : FV} {v : Value} {xs : List FV} {vs : List Value} (h : x.rel r X W w v) (ht : zBS r X W w xs vs.toArray) : zBS r X W w (x :: xs) (v :: vs).toArray:=by
 refine ⟨by have:=ht.1;simp at this ⊢;omega,λi y u hy hu=>?_⟩;cases i with
 | zero=>simp at hy hu;subst hy hu;exact h
 | succ i=>exact ht.2 i y u (by simpa using hy) (by simpa using hu)
theorem walk_of {P : Program} {f : FuncId} {args : List FV} {vals : Array Value} {w : World} (h : zY P f args (.e (.c (.bool true)))) (hr : zBS (λ_=>none) (λ_=>False) (λ_=>False) w args vals) (hg : GlobOk (λ_=>False) w:=by exact λp hp=>by cases hp) :
 Calls P f vals w λe w'=>e = .returned (.bool true) /\ Below w.heap.size w w':=
 (h (λ_=>False) w vals hr ⟨λ_ h=>h.elim,hg⟩).mono λe w' ⟨v,he,hb,hv⟩=>by
   have hv' : v = .bool true:=hv;subst hv';exact ⟨he,hb⟩
end Go.Proofs.YtjknkfjhcapocaaGreatDoor.AX
namespace Go.Proofs.YtjknkfjhcapocaaGreatDoor
open Go.ChangeShapes Go.WideShapes Go.RowKit AX
def KOk : Option IntKind -> Value -> Prop
 | some k,v=>∃ n,v = .int k n /\ (Lit.int k n).wf = true
 | none,v=>∃ b,v = .bool b
def Mt : List (Option IntKind) -> List Value -> Prop
 | [],[]=>True
 | k :: ks,v :: vs=>KOk k v /\ Mt ks vs
 | _,_=>False
theorem Mt.append {a b : List (Option IntKind)} {x y : List Value} (h : Mt a x) (h' : Mt b y) : Mt (a ++ b) (x ++ y):=by
 induction a generalizing x with
 | nil=>
   cases x with
   | nil=>exact h'
   | cons=>exact h.elim
 | cons k ks ih=>
   cases x with
   | nil=>exact h.elim
   | cons v vs=>exact ⟨h.1,ih h.2⟩
theorem Mt.len {a : List (Option IntKind)} {x : List Value} (h : Mt a x) : x.length = a.length:=by
 induction a generalizing x with
 | nil=>
   cases x with
   | nil=>rfl
   | cons=>exact h.elim
 | cons k ks ih=>
   cases x with
   | nil=>exact h.elim
   | cons v vs=>simp [ih h.2]
def zD5 (P : Program) (g : TypeId -> Option (List (Option IntKind))) : List Field -> Nat -> Option (List (Option IntKind))
 | [],_=>some []
 | fd :: rest,off=>
   match g fd.type with
   | some l=>bif Nat.beq fd.offset off && Nat.beq (P.cellsOf fd.type) l.length then (zD5 P g rest (off + l.length)).map (l ++ ·) else none
   | none=>none
def flat (P : Program) : Nat -> TypeId -> Option (List (Option IntKind))
 | 0,_=>none
 | f + 1,t=>
   match P.underlying t with
   | some .bool=>some [none]
   | some (.int k)=>some [some k]
   | some (.struct fs)=>
     match zD5 P (flat P f) fs.toList 0 with
     | some l=>bif Nat.beq (P.cellsOf t) l.length then some l else none
     | none=>none
   | some (.array n e)=>
     match flat P f e with
     | some l=>bif Nat.beq (P.cellsOf e) l.length && Nat.beq (P.cellsOf t) (n * l.length) then some (List.replicate n l).flatten else none
     | none=>none
   | _=>none
section
variable {H : Type} {enc : TypeId × Value -> H} {P : Program} {w : World} {base : Nat} {spare : Nat -> Bool} {held : Bool}
theorem flatFs_mt {g : TypeId -> Option (List (Option IntKind))} {cs : List Value} : ∀ (fs : List Field) (off : Nat) (ks : List (Option IntKind)),zD5 P g fs off = some ks ->
 (∀ fd ∈ fs,∀ l,g fd.type = some l -> Mt l ((cs.drop fd.offset).take (P.cellsOf fd.type))) -> cs.length = off + ks.length -> Mt ks (cs.drop off):=by
 intro fs;induction fs with
 | nil=>
   intro off ks h _ hl;simp only [zD5,Option.some.injEq] at h;subst h;rw [List.drop_eq_nil_of_le (by simp at hl;omega)];trivial
 | cons fd rest ih=>
   intro off ks h hm hl;simp only [zD5] at h;split at h
   . rename_i l hg;cases hb : (Nat.beq fd.offset off && Nat.beq (P.cellsOf fd.type) l.length) with
     | false=>rw [hb] at h;cases h
     | true=>
       rw [hb,cond_true] at h;simp only [Bool.and_eq_true] at hb;have h1:=Nat.eq_of_beq_eq_true hb.1;have h2:=Nat.eq_of_beq_eq_true hb.2;cases hr : zD5 P g rest (off + l.length) with
       | none=>rw [hr] at h;cases h
       | some l'=>
         rw [hr] at h;simp only [Option.map_some,Option.some.injEq] at h;subst h;have m1:=hm fd (by simp) l hg;rw [h1,h2] at m1;have m2:=ih _ _ hr (λfd' hfd l hl=>hm fd' (by simp [hfd]) l hl) (by simp at hl;omega);rw [show cs.drop off = (cs.drop off).take l.length ++ cs.drop (off + l.length) by
          rw [<- List.drop_drop,List.take_append_drop]]
         exact m1.append m2
   . cases h
theorem zHN : ∀ (f : Nat) (t : TypeId) (ks : List (Option IntKind)) (fuel : Nat) (cs : List Value) (x : DataW H × List MemPlace),flat P f t = some ks -> DataW.trod enc P w base spare held fuel t cs = some x -> Mt ks cs:=by
 intro f;induction f with
 | zero=>intro t ks fuel cs x h;cases h
 | succ f ih=>
   intro t ks fuel cs x h hd;simp only [flat] at h;split at h
   . rename_i ht;simp only [Option.some.injEq] at h;subst h;cases fuel with
     | zero=>simp [DataW.trod] at hd
     | succ m=>
       unfold DataW.trod at hd;rw [ht] at hd;split at hd<;>simp_all
       exact ⟨⟨_,rfl⟩,trivial⟩
   . rename_i k ht;simp only [Option.some.injEq] at h;subst h;obtain ⟨n,rfl,hx,hw⟩:=DataW.trod_int ht hd;exact ⟨⟨n,rfl,hw⟩,trivial⟩
   . rename_i fs ht;split at h
     . rename_i l hfl;cases hb : Nat.beq (P.cellsOf t) l.length with
       | false=>rw [hb] at h;cases h
       | true=>
         rw [hb] at h;simp only [cond_true,Option.some.injEq] at h;subst h;obtain ⟨ys,m,_,_,hlen,hyl,hf⟩:=DataW.trod_struct ht hd;have:=flatFs_mt (cs:=cs) fs.toList 0 l hfl (λfd hfd l' hg=>?_) (by rw [hlen,Nat.eq_of_beq_eq_true hb];omega)
         . simpa using this
         . obtain ⟨i,hi,hfi⟩:=List.getElem_of_mem hfd;have hi' : i < fs.size:=by simpa using hi
           have e1 : fs[i]? = some fd:=by
            rw [Array.getElem?_eq_getElem hi'];simpa using hfi
           have hfd':=hf i fd e1;have hy : ys[i]? = some ys[i]:=List.getElem?_eq_getElem (by omega);rw [hy] at hfd';exact ih _ _ _ _ _ hg hfd'
     . cases h
   . rename_i n e ht;split at h
     . rename_i l hfl;cases hb : (Nat.beq (P.cellsOf e) l.length && Nat.beq (P.cellsOf t) (n * l.length)) with
       | false=>rw [hb] at h;cases h
       | true=>
         rw [hb] at h;simp only [cond_true,Option.some.injEq] at h;subst h;simp only [Bool.and_eq_true] at hb;have h1:=Nat.eq_of_beq_eq_true hb.1;have h2:=Nat.eq_of_beq_eq_true hb.2;obtain ⟨xs,m,_,_,hlen,hxl,hel⟩:=DataW.trod_array ht hd;have key : ∀ j,j <= n -> Mt (List.replicate j l).flatten (cs.drop ((n - j) * l.length)):=by
          intro j;induction j with
          | zero=>
            intro _;rw [List.drop_eq_nil_of_le (by rw [hlen,h2];simp)];trivial
          | succ j ihj=>
            intro hj;have hi:=hel (n - (j + 1)) (by omega);rw [h1] at hi;have hsome : ∃ y,xs[n - (j + 1)]? = some y:=⟨_,List.getElem?_eq_getElem (by omega)⟩;obtain ⟨y,hy⟩:=hsome;rw [hy] at hi;have m1:=ih _ _ _ _ _ hfl hi;have m2:=ihj (by omega);rw [List.replicate_succ,List.flatten_cons];rw [show cs.drop ((n - (j + 1)) * l.length) = (cs.drop ((n - (j + 1)) * l.length)).take l.length ++ cs.drop ((n - j) * l.length) by
             rw [show (n - j) * l.length = (n - (j + 1)) * l.length + l.length by rw [show n - j = (n - (j + 1)) + 1 by omega,Nat.add_mul,Nat.one_mul],<- List.drop_drop,List.take_append_drop]]
            exact m1.append m2
         simpa using key n (Nat.le_refl _)
     . cases h
   . cases h
theorem open_flat {r : Reach} {b0 f : Nat} {t : TypeId} {v : Value} {d : DataW H} {ps : List MemPlace} {ks : List (Option IntKind)} (hs : (∃ fs,P.underlying t = some (.struct fs)) \/ ∃ n e,P.underlying t = some (.array n e)) (hf : flat P f t = some ks) (hval : Value.okWide P w r b0 t v) (hd : DataW.Trod enc P w base spare held t v d ps) :
 ∃ cs : Array Value,v = .agg cs /\ Mt ks cs.toList:=by
 have hv : ∃ cs,v = .agg cs:=by
  unfold Value.okWide at hval;rcases hs with ⟨fs,h⟩ | ⟨n,e,h⟩
  . rw [h] at hval;obtain ⟨cs,rfl,_⟩:=hval;exact ⟨cs,rfl⟩
  . rw [h] at hval;obtain ⟨cs,rfl,_⟩:=hval;exact ⟨cs,rfl⟩
 obtain ⟨cs,rfl⟩:=hv;obtain ⟨fuel,hd⟩:=hd;exact ⟨cs,rfl,zHN f t ks fuel _ _ hf hd⟩
end
def cvOf : Value -> CV
 | .int k n=>.int k n
 | .bool b=>.bool b
 | _=>.top
def KOkC : Option IntKind -> CV -> Prop
 | some k,x=>∃ n,x = .int k n /\ (Lit.int k n).wf = true
 | none,x=>∃ b,x = .bool b
def MtC (ks : List (Option IntKind)) (g : Nat -> CV) : Prop:=∀ j k,ks[j]? = some k -> KOkC k (g j)
theorem KOk.cv {k : Option IntKind} {v : Value} (h : KOk k v) : KOkC k (cvOf v) /\ ∀ r X W w,(cvOf v).rel r X W w v:=by
 cases k with
 | some k=>obtain ⟨n,rfl,h⟩:=h;exact ⟨⟨n,rfl,h⟩,λ_ _ _ _=>rfl⟩
 | none=>obtain ⟨b,rfl⟩:=h;exact ⟨⟨b,rfl⟩,λ_ _ _ _=>rfl⟩
theorem Mt.at : ∀ {ks : List (Option IntKind)} {vs : List Value},Mt ks vs -> ∀ (j : Nat) k,ks[j]? = some k -> ∃ v,vs[j]? = some v /\ KOk k v:=by
 intro ks;induction ks with
 | nil=>intro vs _ j k h;simp at h
 | cons k0 ks ih=>
   intro vs h j k hk;cases vs with
   | nil=>exact h.elim
   | cons v vs=>
     cases j with
     | zero=>simp at hk;subst hk;exact ⟨v,rfl,h.1⟩
     | succ j=>simpa using ih h.2 j k (by simpa using hk)
def gOf (cs : List Value) (j : Nat) : CV:=cvOf (cs.getD j undef)
theorem Mt.g {ks : List (Option IntKind)} {vs : List Value} (h : Mt ks vs) : MtC ks (gOf vs) /\ ∀ r X W w (j : Nat) u,vs[j]? = some u -> (gOf vs j).rel r X W w u:=by
 have hlen:=h.len;refine ⟨λj k hk=>?_,λr X W w j u hu=>?_⟩
 . obtain ⟨v,hv,hko⟩:=h.at j k hk;have : gOf vs j = cvOf v:=by simp [gOf,List.getD_eq_getElem?_getD,hv]
   rw [this];exact hko.cv.1
 . have hj : j < ks.length:=by rw [<- hlen];exact (List.getElem?_eq_some_iff.1 hu).1
   obtain ⟨v,hv,hko⟩:=h.at j _ (List.getElem?_eq_getElem hj);rw [hu] at hv;injection hv with hv;subst hv;have : gOf vs j = cvOf u:=by simp [gOf,List.getD_eq_getElem?_getD,hu]
   rw [this];exact hko.cv.2 r X W w
theorem zIB {ks : List (Option IntKind)} {cs : Array Value} (h : Mt ks cs.toList) {w : World} {α : Type} {E : Elem α} (hsz : E.sz = ks.length) (hok : ∀ g,MtC ks g -> E.ok g = true) :
 ∃ a : α,(∃ g,MtC ks g /\ a = E.rd g) /\ ((cE E).enc a).rel (λ_=>none) (λ_=>False) (λ_=>False) w (.agg cs):=by
 obtain ⟨h1,h2⟩:=h.g;have hn : cs.size = E.sz:=by rw [hsz];have:=h.len;simpa using this
 refine ⟨E.rd (gOf cs.toList),⟨_,h1,rfl⟩,cs,rfl,hn,λi u hu=>?_⟩;rw [<- E.ok_eq _ (hok _ h1) i (by rw [<- hn];exact (Array.getElem?_eq_some_iff.1 hu).1)];exact h2 _ _ _ _ i u (by simpa using hu)
section
variable {H : Type} {enc : TypeId × Value -> H} {P : Program} {w : World} {base : Nat} {spare : Nat -> Bool} {held : Bool}
def IsRows (w : World) (ks : List (Option IntKind)) (a : Option Addr) (len cap : Nat) : Prop:=
 len <= cap /\ (0 < len -> ∃ ad,a = some ad /\ ad.spot = none /\ ∀ i,i < len -> ∃ cs : List Value,Mt ks cs /\ ∀ j u,cs[j]? = some u -> w.cell? ⟨ad.block,ad.off + (i * ks.length + j),none⟩ = some u)
theorem cells_lt {ad : Addr} {w : World} {u : Value} (h : w.cell? ad = some u) : ad.block < w.heap.size:=zBq h
theorem open_rows {r : Reach} {b0 f : Nat} {t e : TypeId} {v : Value} {d : DataW H} {ps : List MemPlace} {ks : List (Option IntKind)} (ht : P.underlying t = some (.slice e)) (hf : flat P f e = some ks) (hc : P.cellsOf e = ks.length) (h0 : 0 < ks.length) (hval : Value.okWide P w r b0 t v) (hd : DataW.Trod enc P w base spare held t v d ps) :
 ∃ a len cap,v = .slice a len cap /\ IsRows w ks a len cap /\ (d = .nil /\ cap = 0 \/ ∃ elems rest,d = .slice elems rest /\ len <= elems.length):=by
 obtain ⟨a,len,cap,rfl⟩:=okWide_slice ht hval;obtain ⟨fuel,hd⟩:=hd;rcases Go.Deep.open_slice ht hd with ⟨hcs,hx⟩ | ⟨a',len',cap',m,n,D,Pl,hcs,hb,hl,hm,hmm,hx,hel⟩
 . simp [Value.cells] at hcs;obtain ⟨rfl,rfl,rfl⟩:=hcs;injection hx with hx _;exact ⟨none,0,0,rfl,⟨Nat.le_refl _,λh=>absurd h (Nat.lt_irrefl _)⟩,.inl ⟨hx,rfl⟩⟩
 . simp [Value.cells] at hcs;obtain ⟨rfl,rfl,rfl⟩:=hcs;injection hx with hx _;have hlm : len <= m:=by rw [hmm];split<;>omega
   refine ⟨some a',len,cap,rfl,⟨hl,λhpos=>?_⟩,.inr ⟨_,_,hx,by simp⟩⟩;have hsp : a'.spot = none:=by
    obtain ⟨cs0,g1,g2⟩:=hel 0 (by omega);have hmt:=zHN f e ks n _ _ hf g2;obtain ⟨_,g3,g4⟩:=World.cells?_some g1;have:=g4 0 (by rw [hc];exact h0);rw [Nat.zero_mul,zCV,zCV] at this;cases hc0 : cs0[0]? with
    | none=>rw [List.getElem?_eq_none_iff] at hc0;have:=hmt.len;omega
    | some u=>rw [hc0] at this;exact zD6 this
   refine ⟨a',rfl,hsp,λi hi=>?_⟩;obtain ⟨cs',g1,g2⟩:=hel i (by omega);have hmt:=zHN f e ks n _ _ hf g2;obtain ⟨_,g3,g4⟩:=World.cells?_some g1;refine ⟨cs',hmt,λj u hu=>?_⟩;have hj : j < cs'.length:=(List.getElem?_eq_some_iff.1 hu).1;have:=g4 j (by omega);rw [Go.Deep.add_add,addS hsp,hu,hc] at this;exact this
end
theorem rows_rel {w : World} {ks : List (Option IntKind)} {a : Option Addr} {len cap : Nat} (h : IsRows w ks a len cap) {α : Type} [Inhabited α] {E : Elem α} (h0 : 0 < ks.length) (hsz : E.sz = ks.length) (hok : ∀ g,MtC ks g -> E.ok g = true) :
 ∃ l : List α,l.length = len /\ (∀ c ∈ l,∃ g,MtC ks g /\ c = E.rd g) /\ (FV.e (.c (slR E l))).rel (λ_=>none) (λ_=>False) (λ_=>False) w (.slice a len cap):=by
 obtain ⟨hl,hx⟩:=h;by_cases hpos : 0 < len
 . obtain ⟨ad,rfl,hsp,hel⟩:=hx hpos;obtain ⟨F,hF⟩:=Go.Deep.choose_lt (α:=List Value) (p:=λi cs=>Mt ks cs /\ ∀ j u,cs[j]? = some u -> w.cell? ⟨ad.block,ad.off + (i * ks.length + j),none⟩ = some u) hel;have hg : ∀ i,i < len -> MtC ks (gOf (F i)):=λi hi=>(hF i hi).1.g.1;have cell : ∀ i,i < len -> ∀ j,j < ks.length -> ∃ u,(F i)[j]? = some u:=λi hi j hj=>⟨_,List.getElem?_eq_getElem (by rw [(hF i hi).1.len];exact hj)⟩;refine ⟨Zw E len (λi=>gOf (F i)),zS _ _ _,λc hc=>?_,?_⟩
   . simp only [Zw,List.mem_map,List.mem_range] at hc;obtain ⟨i,hi,rfl⟩:=hc;exact ⟨_,hg i hi,rfl⟩
   . unfold slR;rw [zS];obtain ⟨u0,hu0⟩:=cell 0 hpos 0 h0;have hlt:=cells_lt ((hF 0 hpos).2 0 u0 hu0);refine ⟨some ad,cap,rfl,hl,λ_=>⟨ad,rfl,hsp,λh=>h,λ_ h=>h,hlt,λi hi j hj=>?_⟩⟩;rw [hsz] at hj;obtain ⟨u,hu⟩:=cell i hi j hj;refine ⟨u,by rw [hsz];exact (hF i hi).2 j u hu,?_⟩;have e1 : zn E (Zw E len λi=>gOf (F i)) i j = gOf (F i) j:=by
      unfold zn;rw [zGh hi];exact (E.ok_eq _ (hok _ (hg i hi)) j (by rw [hsz];exact hj)).symm
     rw [e1];exact (hF i hi).1.g.2 _ _ _ _ j u hu
 . have : len = 0:=by omega
   subst this;exact ⟨[],rfl,(λc h=>by cases h),⟨a,cap,rfl,hl,λh=>absurd h (Nat.lt_irrefl _)⟩⟩
theorem okA_of {k : IntKind} {g : Nat -> CV} {o : Nat} : ∀ {n : Nat},(∀ i,i < n -> isK k (g (o + i)) = true) -> okA k g o n = true:=by
 intro n;induction n with
 | zero=>intro _;rfl
 | succ n ih=>intro h;simp only [okA,Bool.and_eq_true];exact ⟨h n (by omega),ih λi hi=>h i (by omega)⟩
theorem MtC.k {ks : List (Option IntKind)} {g : Nat -> CV} (h : MtC ks g) {j : Nat} {k : IntKind} (hj : ks[j]? = some (some k)) : isK k (g j) = true:=by
 obtain ⟨n,hn,_⟩:=h j _ hj;rw [hn];simp [isK,Yf]
theorem MtC.b {ks : List (Option IntKind)} {g : Nat -> CV} (h : MtC ks g) {j : Nat} (hj : ks[j]? = some none) : isB (g j) = true:=by
 obtain ⟨n,hn⟩:=h j _ hj;rw [hn];rfl
theorem MtC.wf {ks : List (Option IntKind)} {g : Nat -> CV} (h : MtC ks g) {j : Nat} {k : IntKind} (hj : ks[j]? = some (some k)) : (Lit.int k (qY (g j))).wf = true:=by
 obtain ⟨n,hn,hw⟩:=h j _ hj;rw [hn];exact hw
end Go.Proofs.YtjknkfjhcapocaaGreatDoor
namespace Go.Proofs.YtjknkfjhcapocaaGreatDoor.AX
open Go.RowKit
def QH {α : Type} (E : Elem α) (a : α) (last : CV) (j : Nat) : CV:=bif Nat.blt j E.sz then E.cell a j else last
theorem YD {α : Type} {E : Elem α} {a : α} {last : CV} {j : Nat} (h : j < E.sz) : QH E a last j = E.cell a j:=by unfold QH;rw [zGg h];rfl
theorem zCF {α : Type} {E : Elem α} {a : α} {last : CV} : QH E a last E.sz = last:=by unfold QH;rw [zEz];rfl
def cTail {α β : Type} [Inhabited β] (E : Elem α) (F : Elem β) (hsz : 0 < F.sz) : Codec (α × List β) where
 enc a:=.e (.agg (E.sz + 1) (QH E a.1 (.sl false a.2.length F.sz (zn F a.2))))
 dec H x:=(ga (E.sz + 1) x).bind λf=>bif E.ok f then
  match zAZ H F.sz (.e (.c (f E.sz))) with
  | some ⟨n,g,p,rd⟩=>some ((E.rd f,Zw F n g),zBF p (some (∀ i,i < n -> F.ok (g i) = true)),rd)
  | none=>none
  else none
 sound H H' x a p rd h hp hh:=by
  obtain ⟨f,h1,h⟩:=zAe h;obtain ⟨hk,h⟩ : E.ok f = true /\ _ = some (a,p,rd):=by
   cases hb : E.ok f with
   | true=>rw [hb] at h;exact ⟨rfl,h⟩
   | false=>rw [hb] at h;cases h
  split at h
  . rename_i n g q rd' hs;injection h with h;injection h with h h';injection h' with h' h'';subst h h' h'';obtain ⟨q1,q2⟩:=Qq.1 hp;rw [ga_eq h1];have hl:=bo_sl hsz (YE hs hh) q1 q2;rintro cx r w v st ⟨cs,rfl,c1,c2⟩;refine ⟨cs,rfl,c1,λi u hu=>?_⟩;have hi : i < E.sz + 1:=by rw [<- c1];exact (Array.getElem?_eq_some_iff.1 hu).1
    have h3:=c2 i u hu;by_cases he : i = E.sz
    . subst he;rw [zCF];exact hl cx r w u st h3
    . rw [YD (by omega)];rw [E.ok_eq f hk i (by omega)] at h3;exact E.flat _ _ _ _ _ _ _ _ _ _ _ h3
  . cases h
def zAk {α β : Type} [Inhabited β] (E : Elem α) (F : Elem β) (a : α × List β) : EV:=.agg (E.sz + 1) (QH E a.1 (slR F a.2))
theorem zk {c : Wc} {α : Type} {E : Elem α} {g : Nat -> CV} {a : α} {last : CV} {n : Nat} (hn : n = E.sz + 1) (h1 : ∀ j,j < E.sz -> LeC c (g j) (E.cell a j)) (h2 : LeC c (g E.sz) last) : LeE c (.agg n g) (.agg (E.sz + 1) (QH E a last)):=by
 subst hn;refine qg rfl λi hi=>?_;by_cases he : i = E.sz
 . subst he;rw [zCF];exact h2
 . rw [YD (by omega)];exact h1 i (by omega)
theorem nfE_tail {α β : Type} [Inhabited β] {E : Elem α} {F : Elem β} {a : α × List β} : NFE (zAk E F a):=by
 rintro r r' X W w v ⟨cs,rfl,h1,h2⟩;refine ⟨cs,rfl,h1,λi u hu=>?_⟩;have h3:=h2 i u hu;have hi : i < E.sz + 1:=by rw [<- h1];exact (Array.getElem?_eq_some_iff.1 hu).1
 by_cases he : i = E.sz
 . subst he;rw [zCF] at h3 ⊢;exact zE3 (λi _ j _=>(F.flat _ _).nf) _ _ _ _ _ _ h3
 . rw [YD (by omega)] at h3 ⊢;exact (E.flat _ _).nf _ _ _ _ _ _ h3
def zC6 {β : Type} [Inhabited β] (F : Elem β) (L : List (List β)) (i _j : Nat) : CV:=.sl false (L.getD i []).length F.sz (zn F (L.getD i []))
def zGe {β : Type} (F : Elem β) (H : Hp) (f : Nat -> CV) : Nat -> Nat -> Option (List (List β) × Option Prop × List Nat)
 | 0,_=>some ([],none,[])
 | n + 1,q=>
   match zAZ H F.sz (.e (.c (f q))) with
   | some ⟨m,g,p,rd⟩=>
     match zGe F H f n (q + 1) with
     | some (L,p',rd')=>some (Zw F m g :: L,zBF (zBF p (some (∀ i,i < m -> F.ok (g i) = true))) p',rd ++ rd')
     | none=>none
   | none=>none
theorem readLL_ok {β : Type} [Inhabited β] {F : Elem β} (hsz : 0 < F.sz) {H H' : Hp} {f : Nat -> CV} : ∀ (n q : Nat) (L : List (List β)) (p : Option Prop) (rd : List Nat),zGe F H f n q = some (L,p,rd) -> Qg p -> (∀ k ∈ rd,zP H k = zP H' k) ->
 L.length = n /\ ∀ i,i < n -> Bo H' rd (.e (.c (f (q + i)))) (.e (.c (zC6 F L i 0))):=by
 intro n;induction n with
 | zero=>intro q L p rd h _ _;injection h with h;injection h with h _;subst h;exact ⟨rfl,λi hi=>by omega⟩
 | succ n ih=>
   intro q L p rd h hp hh;unfold zGe at h;split at h
   . rename_i m g p0 rd0 hs;split at h
     . rename_i L' p' rd' hL;injection h with h;injection h with h1 h2;injection h2 with h2 h3;subst h1 h2 h3;obtain ⟨a1,a2⟩:=Qq.1 hp;obtain ⟨b1,b2⟩:=Qq.1 a1;obtain ⟨c1,c2⟩:=ih (q + 1) L' p' rd' hL a2 (λk hk=>hh k (List.mem_append_right _ hk));refine ⟨by simp [c1],λi hi=>?_⟩;cases i with
       | zero=>exact (bo_sl hsz (YE hs (λk hk=>hh k (List.mem_append_left _ hk))) b1 b2).more λk hk=>List.mem_append_left _ hk
       | succ i=>
         have:=(c2 i (by omega)).more (rd':=rd0 ++ rd') λk hk=>List.mem_append_right _ hk;rw [show q + (i + 1) = q + 1 + i by omega];exact this
     . cases h
   . cases h
def cLL {β : Type} [Inhabited β] (F : Elem β) (hsz : 0 < F.sz) : Codec (List (List β)) where
 enc L:=.e (.c (.sl false L.length 1 (zC6 F L)))
 dec H x:=
  match zAZ H 1 x with
  | some ⟨n,g,p,rd⟩=>
    match zGe F H (λi=>g i 0) n 0 with
    | some (L,p',rd')=>some (L,zBF p p',rd ++ rd')
    | none=>none
  | none=>none
 sound H H' x a p rd h hp hh:=by
  split at h
  . rename_i n g p0 rd0 hs;split at h
    . rename_i L p' rd' hL;injection h with h;injection h with h1 h2;injection h2 with h2 h3;subst h1 h2 h3;obtain ⟨a1,a2⟩:=Qq.1 hp;obtain ⟨c1,c2⟩:=readLL_ok hsz n 0 L p' rd' hL a2 (λk hk=>hh k (List.mem_append_right _ hk));have hs':=YE hs (H':=H') (λk hk=>hh k (List.mem_append_left _ hk));have key : ∀ i,i < n -> ∀ cx r w u,St cx r H' w -> (g i 0).rel r cx.X (wr r H') w u -> (zC6 F L i 0).rel (λ_=>none) (λb=>cx.X b \/ wr r H' b) (YU r H' (rd0 ++ rd')) w u:=λi hi cx r w u st hu=>by
       have:=(c2 i hi).more (rd':=rd0 ++ rd') (λk hk=>List.mem_append_right _ hk);rw [Nat.zero_add] at this;exact this cx r w u st hu
      intro cx r w v st hx;refine (?_ : CV.rel (λ_=>none) (λb=>cx.X b \/ wr r H' b) (YU r H' (rd0 ++ rd')) w (.sl false L.length 1 (zC6 F L)) v);rw [c1];unfold zAZ at hs';split at hs'
      . rename_i sh n' s f;obtain ⟨hb,hs'⟩:=ZN hs';injection hs' with h1 h2 h3 h4;subst h1 h2 h3 h4;obtain ⟨a,cap,rfl,d1,d2⟩:=hx;refine ⟨a,cap,rfl,d1,λh0=>?_⟩;obtain ⟨ad,rfl,hsp,ho,hX,hlt,hc⟩:=d2 h0;refine ⟨ad,rfl,hsp,λ⟨k,e,x,q1,q2,q3,_⟩=>ho ⟨k,e,x,q1,q2,q3⟩,(λh=>by cases h),hlt,λi hi j hj=>?_⟩;have hsE : s = 1:=Nat.eq_of_beq_eq_true hb;subst hsE;have hj0 : j = 0:=by omega
        subst hj0;obtain ⟨u,hu,hr⟩:=hc i hi 0 hj;exact ⟨u,hu,key i hi cx r w u st hr⟩
      . injection hs' with hs';injection hs' with h1 h2 h3 h4;subst h1 h2 h3 h4;have : v = .slice none 0 0:=hx;subst this;exact ⟨none,0,rfl,Nat.le_refl _,λh=>absurd h (Nat.lt_irrefl _)⟩
      . rename_i k i n';split at hs'
        . rename_i et en es ev f he;obtain ⟨hb,hs'⟩:=ZN hs';injection hs' with h1 h2 h3 h4;subst h1 h2 h3 h4;have hsE : es = 1:=Nat.eq_of_beq_eq_true hb;subst hsE;obtain ⟨a,cap,rfl,d1,d2⟩:=hx;refine ⟨a,cap,rfl,d1,λh0=>?_⟩;obtain ⟨x,hx,rfl,_⟩:=d2 (by omega);have hp' : i + n' <= en:=a1;obtain ⟨_,_,hxs,_⟩:=zAp st he hx;simp only at hxs;refine ⟨⟨x.b,i * x.sz,none⟩,rfl,rfl,?_,(λh=>by cases h),(st.dom k x hx.1).1,λq hq j hj=>?_⟩
          . rintro ⟨k2,e2,y,q1,q2,q3,q4⟩;have:=st.inj k2 k e2 _ y x q1 he q2 hx.1 q3;exact q4 (by rw [this];exact List.mem_append_left _ (List.mem_singleton.2 rfl))
          . have hj0 : j = 0:=by omega
            subst hj0;obtain ⟨u,hu,hr⟩:=Qt st he hx (i:=i + q) (j:=0) (show i + q < en by omega) (show 0 < 1 by omega);refine ⟨u,?_,key q hq cx r w u st hr⟩;rw [<- hu];show w.cell? ⟨x.b,i * x.sz + (q * 1 + 0),none⟩ = _;rw [show i * x.sz + (q * 1 + 0) = (i + q) * x.sz + 0 by rw [hxs];omega]
        . cases hs'
      . rename_i k i j0 n' s;split at hs'
        . rename_i et en es ev f he;obtain ⟨hb,hs'⟩:=ZN hs';injection hs' with h1 h2 h3 h4;subst h1 h2 h3 h4;have hsE : s = 1:=Nat.eq_of_beq_eq_true hb;subst hsE;obtain ⟨a,cap,rfl,d1,d2⟩:=hx;refine ⟨a,cap,rfl,d1,λh0=>?_⟩;obtain ⟨x,hx,rfl⟩:=d2 h0;have hp' : i < en /\ j0 + n' * 1 <= es:=a1;refine ⟨⟨x.b,i * x.sz + j0,none⟩,rfl,rfl,?_,(λh=>by cases h),(st.dom k x hx.1).1,λq hq j hj=>?_⟩
          . rintro ⟨k2,e2,y,q1,q2,q3,q4⟩;have:=st.inj k2 k e2 _ y x q1 he q2 hx.1 q3;exact q4 (by rw [this];exact List.mem_append_left _ (List.mem_singleton.2 rfl))
          . have hj0 : j = 0:=by omega
            subst hj0;obtain ⟨u,hu,hr⟩:=Qt st he hx (i:=i) (j:=j0 + (q * 1 + 0)) (show i < en from hp'.1) (show j0 + (q * 1 + 0) < es by omega);refine ⟨u,?_,key q hq cx r w u st hr⟩;rw [<- hu];show w.cell? ⟨x.b,i * x.sz + j0 + (q * 1 + 0),none⟩ = _;rw [Nat.add_assoc]
        . cases hs'
      . cases hs'
    . cases h
  . cases h
theorem cl_ll {β : Type} [Inhabited β] (F : Elem β) (L : List (List β)) : Cl (.sl false L.length 1 (zC6 F L)):=cl_sl λi _ j _=>cl_sl λi' _ j' _=>(F.flat _ _).cl
end Go.Proofs.YtjknkfjhcapocaaGreatDoor.AX
namespace Go.Proofs.YtjknkfjhcapocaaGreatDoor
def qK (n : Nat) : Nat:=if n = 0 then 0 else (n - 1) % 65535 + 1
theorem zEE {n : Nat} (h : n <= 65535) : qK n = n:=by
 unfold qK;split<;>omega
theorem zDP (n : Nat) : qK n <= 65535:=by
 unfold qK;split<;>omega
theorem zFN {n : Nat} (h : 65535 < n) : qK (n % 65536 + n / 65536) = qK n:=by
 unfold qK;rw [if_neg (by omega),if_neg (by omega)];omega
theorem zGH (a b : Nat) : qK (qK a + b) = qK (a + b):=by
 unfold qK;by_cases ha : a = 0
 . simp [ha]
 . rw [if_neg ha,if_neg (by omega),if_neg (by omega)];omega
def tot : Bool -> List UInt8 -> Nat
 | _,[]=>0
 | true,c :: l=>c.toNat * 256 + tot false l
 | false,c :: l=>c.toNat + tot true l
def side (hi : Bool) (l : List UInt8) : Bool:=hi ^^ decide (l.length % 2 = 1)
theorem side_cons (hi : Bool) (c : UInt8) (l : List UInt8) : side hi (c :: l) = side (!hi) l:=by
 unfold side;rcases Nat.mod_two_eq_zero_or_one l.length with h | h
 . have : (l.length + 1) % 2 = 1:=by omega
   cases hi<;>simp [h,this]
 . have : (l.length + 1) % 2 = 0:=by omega
   cases hi<;>simp [h,this]
theorem zIR (l m : List UInt8) : ∀ hi,tot hi (l ++ m) = tot hi l + tot (side hi l) m:=by
 induction l with
 | nil=>intro hi;simp [tot,side]
 | cons c l ih=>
   intro hi;rw [side_cons,List.cons_append];cases hi<;>simp [tot,ih]<;>omega
theorem tot_le2 (l : List UInt8) : 2 * tot true l <= 65535 * l.length + 65025 /\ 2 * tot false l <= 65535 * l.length:=by
 induction l with
 | nil=>simp [tot]
 | cons c l ih=>
   have:=c.toNat_lt;simp [tot];omega
theorem tot_le (l : List UInt8) : tot true l <= 32768 * l.length + 32768:=by have:=tot_le2 l;omega
theorem tot_snoc (l : List UInt8) (c : UInt8) : tot true (l ++ [c]) = tot true l + if side true l = true then c.toNat * 256 else c.toNat:=by
 rw [zIR];cases side true l<;>simp [tot]
structure BL (l : List Int) : Prop where
 m : ∀ x ∈ l,0 <= x /\ x < 256
theorem BL.nil : BL []:=⟨λx h=>by cases h⟩
theorem BL.cons {x : Int} {l : List Int} (hx : 0 <= x /\ x < 256) (h : BL l) : BL (x :: l):=⟨λy hy=>by
 rcases List.mem_cons.1 hy with rfl | hy
 . exact hx
 . exact h.m y hy⟩
theorem BL.append {l m : List Int} (h : BL l) (k : BL m) : BL (l ++ m):=⟨λy hy=>by
 rcases List.mem_append.1 hy with hy | hy
 . exact h.m y hy
 . exact k.m y hy⟩
theorem BL.take {l : List Int} (h : BL l) (n : Nat) : BL (l.take n):=⟨λy hy=>h.m y (List.mem_of_mem_take hy)⟩
theorem BL.drop {l : List Int} (h : BL l) (n : Nat) : BL (l.drop n):=⟨λy hy=>h.m y (List.mem_of_mem_drop hy)⟩
theorem BL.get {l : List Int} (h : BL l) (i : Nat) : 0 <= l.getD i default /\ l.getD i default < 256:=by
 rcases Nat.lt_or_ge i l.length with hi | hi
 . rw [List.getD_eq_getElem?_getD,List.getElem?_eq_getElem hi];exact h.m _ (List.getElem_mem hi)
 . rw [List.getD_eq_getElem?_getD,List.getElem?_eq_none hi];exact ⟨Int.le_refl _,by decide⟩
def beN (v : Int) : Nat -> List Int
 | 0=>[]
 | n + 1=>v / 256 ^ n % 256 :: beN v n
theorem zCN (v : Int) : ∀ n,(beN v n).length = n:=by
 intro n;induction n with
 | zero=>rfl
 | succ n ih=>simp [beN,ih]
theorem beN_BL (v : Int) : ∀ n,BL (beN v n):=by
 intro n;induction n with
 | zero=>exact BL.nil
 | succ n ih=>exact BL.cons ⟨Int.emod_nonneg _ (by omega),Int.emod_lt_of_pos _ (by omega)⟩ ih
def ZT (l : List Int) : Int:=l.foldl (λa c=>a * 256 + c) 0
theorem YJ (l : List Int) (c : Int) : ZT (l ++ [c]) = ZT l * 256 + c:=by unfold ZT;rw [List.foldl_append];rfl
end Go.Proofs.YtjknkfjhcapocaaGreatDoor
namespace Go.Proofs.YtjknkfjhcapocaaGreatDoor.AX
open Go.RowKit
abbrev eB : Elem Int:=eI .u8
theorem Zb : 0 < eB.sz:=Nat.one_pos
theorem eI_rd (k : IntKind) (a : Int) : (eI k).rd ((eI k).cell a) = a:=rfl
theorem zx (l : List Int) : Zw eB l.length (zn eB l) = l:=toL_row (eI_rd .u8) l
theorem Zv (l : List Int) : (Zw eB l.length λk j=>zn eB l (0 + k) j) = l:=by simp only [Nat.zero_add];exact zx l
theorem leN_set {c : Wc} {t : TypeId} {α : Type} [Inhabited α] {E : Elem α} {L : List α} {idx n : Nat} {x : α} {f : Nat -> Nat -> CV} {g : Nat -> CV} (hn : n = L.length) (hi : idx < L.length)
 (hf : ∀ i,i < L.length -> ∀ j,j < E.sz -> LeC c (f i j) (zn E L i j)) (hg : ∀ j,j < E.sz -> LeC c (g j) (E.cell x j)) : LeN c ⟨t,n,E.sz,false,zBg false f idx g⟩ (qD E t (L.set idx x)):=by
 refine zBe (by rw [hn];simp) λi hi' j hj=>?_;subst hn;by_cases h : i = idx
 . subst h;refine zCG (beq_of rfl) ?_;refine zGf (hg j hj) ?_;unfold zn;rw [List.getD_eq_getElem?_getD,List.getElem?_set_self hi];rfl
 . refine zAl (beq_ne h) ?_;refine zGf (hf i hi' j hj) ?_;unfold zn;rw [List.getD_eq_getElem?_getD,List.getD_eq_getElem?_getD,List.getElem?_set_ne (Ne.symm h)]
theorem leN_app {c : Wc} {t : TypeId} {α : Type} [Inhabited α] {E : Elem α} {L M : List α} {n : Nat} {f : Nat -> Nat -> CV} (hn : n = L.length + M.length) (h1 : ∀ i,i < L.length -> ∀ j,j < E.sz -> LeC c (f i j) (zn E L i j)) (h2 : ∀ i,i < M.length -> ∀ j,j < E.sz -> LeC c (f (L.length + i) j) (zn E M i j)) :
 LeN c ⟨t,n,E.sz,false,f⟩ (qD E t (L ++ M)):=by
 refine zBe (by rw [hn];simp) λi hi j hj=>?_;subst hn;by_cases h : i < L.length
 . refine zGf (h1 i h j hj) ?_;unfold zn;rw [List.getD_eq_getElem?_getD,List.getD_eq_getElem?_getD,List.getElem?_append_left h]
 . obtain ⟨k,rfl⟩ : ∃ k,i = L.length + k:=⟨i - L.length,by omega⟩;refine zGf (h2 k (by omega) j hj) ?_;unfold zn;rw [List.getD_eq_getElem?_getD,List.getD_eq_getElem?_getD,List.getElem?_append_right (by omega)];congr 3;omega
def QB (v : Int) (m j : Nat) : Int:=IntKind.u8.wrap (Zn .u64 v (8 * ((m : Int) - 1 - (j : Int))))
def beM (v : Int) (m : Nat) : List Int:=(List.range m).map (QB v m)
theorem byteM_eq (v : Int) (m j : Nat) (hj : j < m) (hm : m <= 8) : QB v m j = v / 256 ^ (m - 1 - j) % 256:=by
 unfold QB Zn;rw [IntKind.wrap_u8'];have e1 : (8 * ((m : Int) - 1 - (j : Int))).toNat = 8 * (m - 1 - j):=by omega
 rw [e1,show IntKind.bits .u64 = 64 from rfl,show min (8 * (m - 1 - j)) 64 = 8 * (m - 1 - j) by omega];have e2 : (2 : Int) ^ (8 * (m - 1 - j)) = 256 ^ (m - 1 - j):=by rw [Int.pow_mul];rfl
 rw [e2,Int.fdiv_eq_ediv_of_nonneg _ (Int.le_of_lt (Int.pow_pos (by omega)))]
theorem zDh (v : Int) (m : Nat) (hm : m <= 8) : beM v m = beN v m:=by
 have key : ∀ k,k <= m -> (List.range k).map (λj=>QB v m (m - k + j)) = beN v k:=by
  intro k;induction k with
  | zero=>intro _;rfl
  | succ k ih=>
    intro hk;rw [List.range_succ_eq_map,List.map_cons,List.map_map,beN,<- ih (by omega)];congr 1
    . rw [byteM_eq _ _ _ (by omega) hm];congr 2
      congr 1;omega
    . apply List.map_congr_left;intro j hj;have:=List.mem_range.1 hj;show QB v m (m - (k + 1) + (j + 1)) = QB v m (m - k + j);congr 1;omega
 have:=key m (Nat.le_refl _);rw [Nat.sub_self] at this;unfold beM;rw [<- this];apply List.map_congr_left;intro j _;rw [Nat.zero_add]
def qk (v n : Int) : List Int:=if 0 <= n /\ n <= 8 then beN v n.toNat else []
def zCc (l : List Int) (m : Nat) (v : Int) (i : Nat) : List Int:=l ++ ((List.range i).map (QB v m) ++ List.replicate (m - i) 0)
theorem fillL_len (l : List Int) (m : Nat) (v : Int) (i : Nat) (h : i <= m) : (zCc l m v i).length = l.length + m:=by simp [zCc];omega
theorem zIH (l : List Int) (m : Nat) (v : Int) (i : Nat) (h : i < m) : zCc l m v (i + 1) = (zCc l m v i).set (l.length + i) (QB v m i):=by
 unfold zCc;rw [List.set_append_right _ _ (by omega),show l.length + i - l.length = i by omega];congr 1
 rw [List.set_append_right _ _ (by simp)];simp only [List.length_map,List.length_range,Nat.sub_self];obtain ⟨k,hk⟩ : ∃ k,m - i = k + 1:=⟨m - i - 1,by omega⟩;rw [hk,List.replicate_succ,List.set_cons_zero,List.range_succ,List.map_append,List.append_assoc];rw [show m - (i + 1) = k by omega];rfl
theorem fillL_end (l : List Int) (m : Nat) (v : Int) : zCc l m v m = l ++ beM v m:=by simp [zCc,beM]
theorem oapp_ok (l : List Int) (v n : Int) (hl : l.length <= 70368744177664) :
 ql Tryz.prog 78 [(qf eB Zb).enc l,(cI .u64).enc v,(cI .i64).enc n] (some (l ++ qk v n).length) none (qD eB 5 (l ++ qk v n)):=by
 by_cases hr : 0 <= n /\ n <= 8
 . obtain ⟨m,rfl⟩ : ∃ m : Nat,n = m:=⟨n.toNat,by omega⟩;have hm8 : m <= 8:=by omega
   have hspec : l ++ qk v m = zCc l m v m:=by
    rw [fillL_end,zDh v m hm8];unfold qk;rw [if_pos hr];rfl
   rw [hspec];clear hspec;have em : IntKind.i64.wrap ((l.length : Int) + m) = l.length + m:=IntWalk.i64_in _ (by omega);have hmin : Nat.min l.length (l.length + m) = l.length:=Nat.min_eq_left (by omega);refine ZR (wd:=1) (by decide) zM (zT ZG) zN Tryz.func78 rfl _ (by show 3 <= _;decide) (λi _ j _=>qU eB _ i j) ?_;repeat' (first | (apply And.intro<;>intro hc<;>(first | exact Bool.noConfusion hc | (simp only [qm] at hc) | skip)) | (refine And.intro Ql ?_) | (apply And.intro) | (intro s hs))
   all_goals first
    | (exfalso;omega)
    | (rw [Int.natCast_one,Int.one_mul];omega)
    | omega
    | skip
   refine zp (ZE ZG) (λs : {i : Nat // i <= m}=>(⟨[(0,one (.sl false l.length eB.sz (zn eB l))),(1,one (.int .u64 v)),(2,one (.int .i64 m)),(7,one (.os 40 0 (l.length + m))),(23,one (.int .i64 m)),(24,one (.int .i64 (s.1 : Int)))],
    [(40,some (qD eB 5 (zCc l m v s.1)))],41⟩ : Hd)) (λs=>m - s.1) (λ_=>rfl) ?_ ⟨0,by omega⟩ [(40,some 11)] ?_
   . rintro ⟨i,hi⟩;dsimp only at hi ⊢;have hlen:=fillL_len l m v i hi;have w1 : IntKind.i64.wrap ((l.length : Int) + i) = l.length + i:=IntWalk.i64_in _ (by omega);have w2 : IntKind.i64.wrap ((m : Int) - 1) = m - 1:=IntWalk.i64_in _ (by omega);have w3 : IntKind.i64.wrap ((m : Int) - 1 - i) = m - 1 - i:=IntWalk.i64_in _ (by omega);have w4 : IntKind.i64.wrap (8 * ((m : Int) - 1 - i)) = 8 * (m - 1 - i):=IntWalk.i64_in _ (by omega);have w5 : i < m -> 0 <= IntKind.i64.wrap (8 * IntKind.i64.wrap (IntKind.i64.wrap ((m : Int) - 1) - i)):=λ_=>by rw [w2,w3,w4];omega
     repeat' (first | (apply And.intro<;>intro hc<;>(first | exact Bool.noConfusion hc | (simp only [qm] at hc) | skip)) | (refine And.intro Ql ?_) | (apply And.intro) | (intro s hs))
     all_goals first
      | exact w5 (by omega)
      | omega
      | skip
     . refine ⟨⟨i + 1,by omega⟩,[],by dsimp only<;>omega,rfl,?_,?_⟩
       . repeat' (first | exact qH | refine zF ?_ | refine zC ?_ | exact qI | apply And.intro)
         exact zaw
       . repeat' (first | exact qH | refine zF ?_ | refine zC ?_ | exact qI | apply And.intro)
         show LeN _ _ (qD eB _ (zCc l m v (i + 1)));rw [zIH l m v i (by omega)];have hidx : 0 + (IntKind.i64.wrap ((l.length : Int) + i)).toNat = l.length + i:=by rw [w1];omega
         rw [hidx];refine leN_set rfl (by omega) (λi _ j _=>(Elem.flat _ _ _).le) λj hj=>zA ?_;unfold QB;rw [w2,w3,w4]
     . have him : i = m:=by omega
       subst him;refine ⟨⟨some 40,qM (zy rfl hlen.symm),qp⟩⟩
   . refine ⟨rfl,?_,?_⟩
     . repeat' (first | exact qH | refine zF ?_ | refine zC ?_ | exact qI | apply And.intro)
       exact qM (zy rfl (by rw [em];omega))
     . repeat' (first | exact qH | refine zF ?_ | refine zC ?_ | exact qI | apply And.intro)
       show LeN _ _ (qD eB _ (l ++ (List.map (QB v m) (List.range 0) ++ List.replicate (m - 0) 0)));rw [em];refine leN_app (E:=eB) ?_ (λi hi j hj=>?_) λi hi j hj=>?_
       . rw [List.length_append,List.length_map,List.length_range,List.length_replicate];omega
       . refine zCG (zCk ⟨by omega,?_⟩) (zA (by first | rfl | rw [Nat.sub_zero]));rw [show ((l.length : Int) + m).toNat = l.length + m by omega,hmin];omega
       . refine zAl (zA6 (.inr ?_)) ?_
         . rw [show ((l.length : Int) + m).toNat = l.length + m by omega,hmin];omega
         . obtain rfl : j = 0:=by have : j < 1:=hj;omega
           refine zA ?_;show (0 : Int) = (List.replicate (m - 0) (0 : Int)).getD i default;have hi' : i < m:=by
            have h:=hi;rw [List.length_append,List.length_map,List.length_range,List.length_replicate] at h;omega
           rw [List.getD_eq_getElem?_getD,List.getElem?_replicate,if_pos (by omega)];rfl
 . have hspec : l ++ qk v n = l:=by unfold qk;rw [if_neg hr];simp
   rw [hspec];clear hspec;have em : IntKind.i64.wrap ((l.length : Int) + 0) = l.length:=by rw [Int.add_zero];exact IntWalk.i64_in _ (by omega)
   have em2 : (IntKind.i64.wrap ((l.length : Int) + 0)).toNat = l.length:=by omega
   refine ZR (wd:=1) (by decide) zM (zT ZG) zN Tryz.func78 rfl _ (by show 3 <= _;decide) (λi _ j _=>qU eB _ i j) ?_;repeat' (first | (apply And.intro<;>intro hc<;>(first | exact Bool.noConfusion hc | (simp only [qm] at hc) | skip)) | (refine And.intro Ql ?_) | (apply And.intro) | (intro s hs))
   all_goals first
    | (exfalso;omega)
    | (rw [Int.natCast_one,Int.one_mul];omega)
    | omega
    | skip
   all_goals
    refine zp (ZE ZG) (λs : Unit=>(⟨[(7,one (.os 40 0 l.length)),(23,one (.int .i64 0)),(24,one (.int .i64 0))],[(40,some (qD eB 5 l))],41⟩ : Hd)) (λs=>0) (λ_=>rfl) ?_ () [(40,some 12)] ?_
    . rintro ⟨⟩;repeat' (first | (apply And.intro<;>intro hc<;>(first | exact Bool.noConfusion hc | (simp only [qm] at hc) | skip)) | (refine And.intro Ql ?_) | (apply And.intro) | (intro s hs))
      exact ⟨⟨some 40,qM (zy rfl rfl),qp⟩⟩
    . refine ⟨rfl,?_,?_⟩
      . repeat' (first | exact qH | refine zF ?_ | refine zC ?_ | exact qI | apply And.intro)
        exact qM (zy rfl em2)
      . repeat' (first | exact qH | refine zF ?_ | refine zC ?_ | exact qI | apply And.intro)
        rw [em];refine zBe (by omega) λi hi j hj=>?_;refine zCG (zCk ⟨by omega,?_⟩) (zA (by first | rfl | rw [Nat.sub_zero]));rw [show ((l.length : Nat) : Int).toNat = l.length by omega,show Nat.min l.length l.length = l.length from Nat.min_self _];omega
abbrev appA : AC (List Int × Int × Int × Unit):=AC.cons (qf eB Zb) (AC.cons (cI .u64) (AC.cons (cI .i64) AC.nil))
abbrev zEx : ZD:=zBu appA (λa=>a.1.length <= 70368744177664) (λa=>a.1 ++ qk a.2.1 a.2.2.1) (λL=>some L.length) (λ_=>none) (λL=>qD eB 5 L)
theorem zHV : EntOk Tryz.prog 78 zEx:=QF ⟨_,Tryz.func78,rfl,by kernel_rfl⟩ (λs l h=>by cases h) λa h=>oapp_ok a.1 a.2.1 a.2.2.1 h
theorem rapp_ok (l : List Int) (v n : Int) (hl : l.length <= 70368744177664) :
 ql Tryz.prog 32 [(qf eB Zb).enc l,(cI .u64).enc v,(cI .i64).enc n] (some (l ++ qk v n).length) none (qD eB 5 (l ++ qk v n)):=by
 by_cases hr : 0 <= n /\ n <= 8
 . obtain ⟨m,rfl⟩ : ∃ m : Nat,n = m:=⟨n.toNat,by omega⟩;have hm8 : m <= 8:=by omega
   have hspec : l ++ qk v m = l ++ beM v m:=by
    rw [zDh v m hm8];unfold qk;rw [if_pos hr];rfl
   rw [hspec];clear hspec;have em : IntKind.i64.wrap ((m : Int) - 1) = m - 1:=IntWalk.i64_in _ (by omega);refine ZR (wd:=1) (by decide) zM (zT ZG) zN Tryz.func32 rfl _ (by show 3 <= _;decide) (λi _ j _=>qU eB _ i j) ?_;repeat' (first | (apply And.intro<;>intro hc<;>(first | exact Bool.noConfusion hc | (simp only [qm] at hc) | skip)) | (refine And.intro Ql ?_) | (apply And.intro) | (intro s hs))
   all_goals first
    | (exfalso;omega)
    | (rw [Int.natCast_one,Int.one_mul];omega)
    | omega
    | skip
   refine zp (ZE ZG) (λs : {k : Nat // k <= m}=>(⟨[(1,one (.int .u64 v)),(7,one (.os 40 0 (l ++ (List.range s.1).map (QB v m)).length)),(8,one (.int .i64 ((m : Int) - 1 - (s.1 : Int))))],
    [(40,some (qD eB 5 (l ++ (List.range s.1).map (QB v m))))],41⟩ : Hd)) (λs=>m - s.1) (λ_=>rfl) ?_ ⟨0,by omega⟩ [(40,some 3)] ?_
   . rintro ⟨k,hk⟩;dsimp only at hk ⊢;have hlen : (l ++ (List.range k).map (QB v m)).length = l.length + k:=by simp
     obtain ⟨L,hL⟩ : ∃ L,L = l ++ (List.range k).map (QB v m):=⟨_,rfl⟩;rw [<- hL] at hlen ⊢;have w1 : 0 <= (m : Int) - 1 - k -> IntKind.u64.wrap ((m : Int) - 1 - k) = m - 1 - k:=λ_=>IntWalk.u64_in _ (by omega);have w2 : 0 <= (m : Int) - 1 - k -> IntKind.u64.wrap (8 * ((m : Int) - 1 - k)) = 8 * (m - 1 - k):=λ_=>IntWalk.u64_in _ (by omega);have w3 : 0 <= (m : Int) - 1 - k -> IntKind.i64.wrap ((m : Int) - 1 - k - 1) = m - 1 - (k + 1):=λ_=>by rw [IntWalk.i64_in _ (by omega)];omega
     have w4 : 0 <= (m : Int) - 1 - k -> 0 <= IntKind.u64.wrap (8 * IntKind.u64.wrap ((m : Int) - 1 - k)):=λh=>by rw [w1 h,w2 h];omega
     repeat' (first | (apply And.intro<;>intro hc<;>(first | exact Bool.noConfusion hc | (simp only [qm] at hc) | skip)) | (refine And.intro Ql ?_) | (apply And.intro) | (intro s hs))
     all_goals first
      | exact w4 ‹_›
      | (rw [Int.natCast_one,Int.one_mul];omega)
      | omega
      | skip
     . have hc' : 0 <= (m : Int) - 1 - k:=hc;have eL : l ++ (List.range (k + 1)).map (QB v m) = L ++ [QB v m k]:=by rw [List.range_succ,List.map_append,<- List.append_assoc,<- hL];rfl
       refine ⟨⟨k + 1,by omega⟩,[(40,some 51)],by dsimp only<;>omega,rfl,?_,?_⟩
       . repeat' (first | exact qH | refine zF ?_ | refine zC ?_ | exact qI | apply And.intro)
         . rw [eL];exact qM (zy rfl (by simp))
         . exact (w3 hc').trans (by dsimp only;omega)
       . repeat' (first | exact qH | refine zF ?_ | refine zC ?_ | exact qI | apply And.intro)
         show LeN _ _ (qD eB _ (l ++ (List.range (k + 1)).map (QB v m)));rw [eL];refine zHW (E:=eB) (L:=L) (x:=QB v m k) rfl (λi hi j hj=>zCG (Nat.ble_eq_true_of_le hi) (Elem.flat _ _ _).le) ?_;refine ⟨trivial,?_⟩;refine zAl (zEz _) ?_;rw [Nat.sub_self];refine zA ?_;unfold QB;rw [w1 hc',w2 hc'];rfl
     . have hkm : k = m:=by omega
       subst hkm;rw [hL];exact ⟨⟨some 40,qM (zy rfl rfl),qp⟩⟩
   . refine ⟨rfl,?_,?_⟩
     . repeat' (first | exact qH | refine zF ?_ | refine zC ?_ | exact qI | apply And.intro)
       . exact qM (zy rfl (by simp))
       . exact em.trans (by dsimp only;omega)
     . repeat' (first | exact qH | refine zF ?_ | refine zC ?_ | exact qI | apply And.intro)
       show LeN _ _ (qD eB _ (l ++ []));rw [List.append_nil];refine zBe (by simp) λi hi j hj=>?_;refine zAl (zHX _) ?_;rw [Nat.sub_zero];exact qd (E:=eB) (by simp)
 . have hspec : l ++ qk v n = l:=by unfold qk;rw [if_neg hr];simp
   rw [hspec];clear hspec;refine ZR (wd:=1) (by decide) zM (zT ZG) zN Tryz.func32 rfl _ (by show 3 <= _;decide) (λi _ j _=>qU eB _ i j) ?_;repeat' (first | (apply And.intro<;>intro hc<;>(first | exact Bool.noConfusion hc | (simp only [qm] at hc) | skip)) | (refine And.intro Ql ?_) | (apply And.intro) | (intro s hs))
   all_goals first
    | (exfalso;omega)
    | (rw [Int.natCast_one,Int.one_mul];omega)
    | omega
    | skip
   all_goals
    refine ⟨⟨some 3,qM (zy rfl (Nat.zero_add _)),zBe (Nat.zero_add _) λi hi j hj=>?_⟩⟩;refine zAl (zHX _) ?_;rw [Nat.sub_zero];exact (eB.flat _ _).le
theorem zEy : EntOk Tryz.prog 32 zEx:=QF ⟨_,Tryz.func32,rfl,by kernel_rfl⟩ (λs l h=>by cases h) λa h=>rapp_ok a.1 a.2.1 a.2.2.1 h
theorem shl8 (x : Int) (h : 0 <= x /\ x < 72057594037927936) : zCZ .u64 x 8 = x * 256:=by
 unfold zCZ;rw [show min (8 : Int).toNat (IntKind.bits .u64) = 8 from rfl];exact IntWalk.u64_in _ (by omega)
theorem zII : ∀ (l : List Int) (a : Int),BL l -> 0 <= a -> a * 256 ^ l.length <= l.foldl (λa c=>a * 256 + c) a /\ l.foldl (λa c=>a * 256 + c) a < (a + 1) * 256 ^ l.length:=by
 intro l;induction l with
 | nil=>intro a _ h;simp;omega
 | cons c l ih=>
   intro a h ha;have hc:=h.m c (by simp);obtain ⟨h1,h2⟩:=ih (a * 256 + c) ⟨λx hx=>h.m x (by simp [hx])⟩ (by omega);rw [List.foldl_cons,List.length_cons,Int.pow_succ,Int.mul_comm (256 ^ l.length) 256,<- Int.mul_assoc,<- Int.mul_assoc];have hp : (0 : Int) <= 256 ^ l.length:=Int.le_of_lt (Int.pow_pos (by omega));have h3:=Int.mul_le_mul_of_nonneg_right (show a * 256 <= a * 256 + c by omega) hp;have h4:=Int.mul_le_mul_of_nonneg_right (show a * 256 + c + 1 <= (a + 1) * 256 by omega) hp;omega
theorem zBP (l : List Int) (h : BL l) : 0 <= ZT l /\ ZT l < 256 ^ l.length:=by
 have:=zII l 0 h (Int.le_refl _);unfold ZT;simp only [Int.zero_mul,Int.zero_add,Int.one_mul] at this;exact this
theorem Yj {k n : Nat} (h : k <= n) : (256 : Int) ^ k <= 256 ^ n:=by
 obtain ⟨d,rfl⟩ : ∃ d,n = k + d:=⟨n - k,by omega⟩;rw [Int.pow_add];have h1 : (0 : Int) < 256 ^ k:=Int.pow_pos (by omega);have h2 : (0 : Int) < 256 ^ d:=Int.pow_pos (by omega);have:=Int.mul_le_mul_of_nonneg_left (show (1 : Int) <= 256 ^ d by omega) (Int.le_of_lt h1);omega
theorem or8 (x c : Int) (hx : 0 <= x /\ x < 72057594037927936) (hc : 0 <= c /\ c < 256) : bits .or .u64 (zCZ .u64 x 8) (IntKind.u64.wrap c) = x * 256 + c:=by
 rw [shl8 x hx,show IntKind.u64.wrap c = c from IntWalk.u64_in _ (by omega),u64_or _ _ (by omega) (by omega) (by omega) (by omega)];rw [nat_join 8 _ _ (by omega) (by omega)];omega
def ZL (b : List Int) (at_ n : Int) : Int × Bool:=if 1 <= n /\ n <= 8 /\ 0 <= at_ /\ at_ <= b.length - n then (ZT ((b.drop at_.toNat).take n.toNat),true) else (0,false)
def zFx (r : Int × Bool) : FV:=.tup [.c (.int .u64 r.1),.c (.bool r.2)]
theorem zBd (b : List Int) (a n k : Nat) (hk : k < n) (h : a + n <= b.length) : ((b.drop a).take n).getD k default = b.getD (a + k) default:=by
 rw [List.getD_eq_getElem?_getD,List.getD_eq_getElem?_getD,List.getElem?_take,if_pos hk,List.getElem?_drop]
theorem QC {l : List Int} {k : Nat} (h : k < l.length) : l.take (k + 1) = l.take k ++ [l.getD k default]:=by
 rw [List.take_succ_eq_append_getElem h,List.getD_eq_getElem?_getD,List.getElem?_eq_getElem h];rfl
theorem ouint_ok (b : List Int) (a n : Int) (hb : BL b) (hl : b.length <= 70368744177664) :
 zY Tryz.prog 89 [(qf eB Zb).enc b,(cI .i64).enc a,(cI .i64).enc n] (zFx (ZL b a n)):=by
 by_cases hr : 1 <= n /\ n <= 8 /\ 0 <= a /\ a <= b.length - n
 . obtain ⟨m,rfl⟩ : ∃ m : Nat,n = m:=⟨n.toNat,by omega⟩;obtain ⟨p,rfl⟩ : ∃ p : Nat,a = p:=⟨a.toNat,by omega⟩;obtain ⟨w,hw⟩ : ∃ w,w = (b.drop p).take m:=⟨_,rfl⟩;have hwl : w.length = m:=by rw [hw];simp;omega
   have hwB : BL w:=by rw [hw];exact (hb.drop p).take m
   have hsp : ZL b p m = (ZT w,true):=by unfold ZL;rw [if_pos hr,hw];rfl
   rw [hsp];have e1 : IntKind.i64.wrap ((b.length : Int) - m) = b.length - m:=IntWalk.i64_in _ (by omega);have e2 : IntKind.i64.wrap ((p : Int) + m) = p + m:=IntWalk.i64_in _ (by omega);have e3 : (IntKind.i64.wrap ((p : Int) + m)).toNat - (p : Int).toNat = m:=by omega
   refine zG (wd:=1) (by decide) zM (zT ZG) zN Tryz.func89 rfl _ (by show 3 <= _;decide) _ ?_;repeat' (first | (apply And.intro<;>intro hc<;>(first | exact Bool.noConfusion hc | (simp only [qm] at hc) | skip)) | (refine And.intro Ql ?_) | (apply And.intro) | (intro s hs))
   all_goals first
    | (exfalso;omega)
    | omega
    | skip
   refine zp (ZE ZG) (λs : {k : Nat // k <= m}=>(⟨[(8,one (.int .u64 (ZT (w.take s.1)))),(34,one (.sl false w.length eB.sz (zn eB w))),(35,one (.int .i64 m)),(36,one (.int .i64 (s.1 : Int)))],[],0⟩ : Hd)) (λs=>m - s.1) (λ_=>rfl) ?_ ⟨0,by omega⟩ [] ?_
   . rintro ⟨k,hk⟩;dsimp only at hk ⊢;have hv:=zBP (w.take k) (hwB.take k);repeat' (first | (apply And.intro<;>intro hc<;>(first | exact Bool.noConfusion hc | (simp only [qm] at hc) | skip)) | (refine And.intro Ql ?_) | (apply And.intro) | (intro s hs))
     all_goals first
      | omega
      | skip
     . have hc' : k < m:=by omega
       have hx:=hwB.get k;refine ⟨⟨k + 1,by omega⟩,[],by dsimp only<;>omega,rfl,?_,?_⟩
       . repeat' (first | exact qH | refine zF ?_ | refine zC ?_ | exact qI | apply And.intro)
         . have hp:=Yj (show (w.take k).length <= 7 by simp;omega);refine (or8 _ _ ⟨hv.1,by omega⟩ hx).trans ?_;show _ = ZT (w.take (k + 1));rw [QC (by omega),YJ];try rfl
         . exact zaw
       . exact QI
     . refine Done.mk (zE ?_);have hkm : k = m:=by omega
       refine ⟨zAY (zA ?_),zAY (zH rfl),trivial⟩;show ZT (w.take k) = ZT w;rw [List.take_of_length_le (by omega)]
   . refine ⟨rfl,?_,?_⟩
     . repeat' (first | exact qH | refine zF ?_ | refine zC ?_ | exact qI | apply And.intro)
       . refine qM (qh (λh=>by cases h) ?_ rfl λi hi j hj=>?_)
         . rw [hwl];exact e3
         . refine qd (E:=eB) ?_;rw [hw,zBd _ _ _ _ (by omega) (by omega)];rfl
       . show ((_ : Nat) : Int) = m;rw [e3]
     . exact QI
 . have hsp : ZL b a n = (0,false):=by unfold ZL;rw [if_neg hr]
   rw [hsp];have e1 : 1 <= n -> n <= 8 -> IntKind.i64.wrap ((b.length : Int) - n) = b.length - n:=λ_ _=>IntWalk.i64_in _ (by omega);refine zG (wd:=1) (by decide) zM (zT ZG) zN Tryz.func89 rfl _ (by show 3 <= _;decide) _ ?_;repeat' (first | (apply And.intro<;>intro hc<;>(first | exact Bool.noConfusion hc | (simp only [qm] at hc) | skip)) | (refine And.intro Ql ?_) | (apply And.intro) | (intro s hs))
   all_goals first
    | exact Done.mk (zE ⟨zAY (zA rfl),zAY (zH rfl),trivial⟩)
    | (exfalso;have:=e1 (by omega) (by omega);omega)
abbrev uintA : AC (List Int × Int × Int × Unit):=AC.cons (qf eB Zb) (AC.cons (cI .i64) (AC.cons (cI .i64) AC.nil))
abbrev uintE : ZD:=ZH uintA (λa=>BL a.1 /\ a.1.length <= 70368744177664) (λa=>ZL a.1 a.2.1 a.2.2.1) zFx
theorem ouintE_ok : EntOk Tryz.prog 89 uintE:=zO ⟨_,Tryz.func89,rfl,by kernel_rfl⟩ λa h=>ouint_ok a.1 a.2.1 a.2.2.1 h.1 h.2
theorem ruint_ok (b : List Int) (a n : Int) (hb : BL b) (hl : b.length <= 70368744177664) :
 zY Tryz.prog 66 [(qf eB Zb).enc b,(cI .i64).enc a,(cI .i64).enc n] (zFx (ZL b a n)):=by
 by_cases hr : 1 <= n /\ n <= 8 /\ 0 <= a /\ a <= b.length - n
 . obtain ⟨m,rfl⟩ : ∃ m : Nat,n = m:=⟨n.toNat,by omega⟩;obtain ⟨p,rfl⟩ : ∃ p : Nat,a = p:=⟨a.toNat,by omega⟩;obtain ⟨w,hw⟩ : ∃ w,w = (b.drop p).take m:=⟨_,rfl⟩;have hwl : w.length = m:=by rw [hw];simp;omega
   have hwB : BL w:=by rw [hw];exact (hb.drop p).take m
   have hsp : ZL b p m = (ZT w,true):=by unfold ZL;rw [if_pos hr,hw];rfl
   rw [hsp];have e1 : IntKind.i64.wrap ((b.length : Int) - p) = b.length - p:=IntWalk.i64_in _ (by omega);refine zG (wd:=1) (by decide) zM (zT ZG) zN Tryz.func66 rfl _ (by show 3 <= _;decide) _ ?_;repeat' (first | (apply And.intro<;>intro hc<;>(first | exact Bool.noConfusion hc | (simp only [qm] at hc) | skip)) | (refine And.intro Ql ?_) | (apply And.intro) | (intro s hs))
   all_goals first
    | (exfalso;omega)
    | omega
    | skip
   refine zp (ZE ZG) (λs : {k : Nat // k <= m}=>(⟨[(0,one (.sl false b.length eB.sz (zn eB b))),(1,one (.int .i64 p)),(2,one (.int .i64 m)),(8,one (.int .u64 (ZT (w.take s.1)))),(9,one (.int .i64 (s.1 : Int)))],[],0⟩ : Hd)) (λs=>m - s.1) (λ_=>rfl) ?_ ⟨0,by omega⟩ [] ?_
   . rintro ⟨k,hk⟩;dsimp only at hk ⊢;have hv:=zBP (w.take k) (hwB.take k);have hp:=Yj (show (w.take k).length <= k by simp;omega);have e2 : IntKind.i64.wrap ((p : Int) + k) = p + k:=IntWalk.i64_in _ (by omega);repeat' (first | (apply And.intro<;>intro hc<;>(first | exact Bool.noConfusion hc | (simp only [qm] at hc) | skip)) | (refine And.intro Ql ?_) | (apply And.intro) | (intro s hs))
     all_goals first
      | omega
      | skip
     . have hc' : k < m:=by omega
       have hp7:=Yj (show k <= 7 by omega);have hx:=hb.get (p + k);refine ⟨⟨k + 1,by omega⟩,[],by dsimp only<;>omega,rfl,?_,?_⟩
       . repeat' (first | exact qH | refine zF ?_ | refine zC ?_ | exact qI | apply And.intro)
         . rw [e2,show ((p : Int) + k).toNat = p + k by omega];rw [shl8 _ ⟨hv.1,by omega⟩,show IntKind.u64.wrap (b.getD (p + k) default) = b.getD (p + k) default from IntWalk.u64_in _ (by omega),IntWalk.u64_in _ (by omega)];show _ = ZT (w.take (k + 1));rw [QC (by omega),YJ,hw,zBd _ _ _ _ (by omega) (by omega)]
         . exact zaw
       . exact QI
     . refine Done.mk (zE ?_);have hkm : k = m:=by omega
       refine ⟨zAY (zA ?_),zAY (zH rfl),trivial⟩;show ZT (w.take k) = ZT w;rw [List.take_of_length_le (by omega)]
   . refine ⟨rfl,?_,?_⟩
     . exact QI
     . exact QI
 . have hsp : ZL b a n = (0,false):=by unfold ZL;rw [if_neg hr]
   rw [hsp];have e1 : 0 <= a -> a <= b.length -> IntKind.i64.wrap ((b.length : Int) - a) = b.length - a:=λ_ _=>IntWalk.i64_in _ (by omega);refine zG (wd:=1) (by decide) zM (zT ZG) zN Tryz.func66 rfl _ (by show 3 <= _;decide) _ ?_;repeat' (first | (apply And.intro<;>intro hc<;>(first | exact Bool.noConfusion hc | (simp only [qm] at hc) | skip)) | (refine And.intro Ql ?_) | (apply And.intro) | (intro s hs))
   all_goals first
    | exact Done.mk (zE ⟨zAY (zA rfl),zAY (zH rfl),trivial⟩)
    | (exfalso;have:=e1 (by omega) (by omega);omega)
theorem ruintE_ok : EntOk Tryz.prog 66 uintE:=zO ⟨_,Tryz.func66,rfl,by kernel_rfl⟩ λa h=>ruint_ok a.1 a.2.1 a.2.2.1 h.1 h.2
structure SmS (a b : List Int) where
 i : Nat
 hi : i <= a.length
 h : a.take i = b.take i
theorem zIJ {a b : List Int} {i : Nat} (h : a.take i = b.take i) (ha : i < a.length) (hl : a.length = b.length) : (a.getD i default = b.getD i default ↔ a.take (i + 1) = b.take (i + 1)):=by
 rw [QC ha,QC (by omega),h];constructor
 . intro e;rw [e]
 . intro e;simpa using e
theorem same_ok (a b : List Int) (hl : a.length <= 9223372036854775806) : zY Tryz.prog 29 [(qf eB Zb).enc a,(qf eB Zb).enc b] (cB.enc (decide (a = b))):=by
 by_cases hab : a.length = b.length
 . refine zG (wd:=1) (by decide) zM (zT ZG) zN Tryz.func29 rfl _ (by show 2 <= _;decide) _ ?_;repeat' (first | (apply And.intro<;>intro hc<;>(first | exact Bool.noConfusion hc | (simp only [qm] at hc) | skip)) | (refine And.intro Ql ?_) | (apply And.intro) | (intro s hs))
   all_goals first
    | (exfalso;omega)
    | skip
   refine zp (ZE ZG) (λs : SmS a b=>(⟨[(0,one (.sl false a.length eB.sz (zn eB a))),(1,one (.sl false b.length eB.sz (zn eB b))),(5,one (.int .i64 (s.i : Int)))],[],0⟩ : Hd)) (λs=>a.length - s.i) (λ_=>rfl) ?_ ⟨0,by omega,rfl⟩ [] ?_
   . rintro ⟨i,hi,h⟩;dsimp only at hi h ⊢;repeat' (first | (apply And.intro<;>intro hc<;>(first | exact Bool.noConfusion hc | (simp only [qm] at hc) | skip)) | (refine And.intro Ql ?_) | (apply And.intro) | (intro s hs))
     all_goals first
      | omega
      | skip
     . refine Done.mk (zC ?_);symm
       rw [decide_eq_false_iff_not];intro e;subst e;exact hc rfl
     . refine ⟨⟨i + 1,by omega,(zIJ h (by omega) hab).1 hc⟩,[],by dsimp only<;>omega,rfl,?_,?_⟩
       . repeat' (first | exact qH | refine zF ?_ | refine zC ?_ | exact qI | apply And.intro)
         exact zaw
       . exact QI
     . refine Done.mk (zC ?_);symm
       rw [decide_eq_true_eq];rw [List.take_of_length_le (by omega),List.take_of_length_le (by omega)] at h;exact h
   . refine ⟨rfl,?_,?_⟩
     . exact QI
     . exact QI
 . have e : decide (a = b) = false:=by rw [decide_eq_false_iff_not];intro e;rw [e] at hab;exact hab rfl
   rw [e];refine zG (wd:=1) (by decide) zM (zT ZG) zN Tryz.func29 rfl _ (by show 2 <= _;decide) _ ?_;repeat' (first | (apply And.intro<;>intro hc<;>(first | exact Bool.noConfusion hc | (simp only [qm] at hc) | skip)) | (refine And.intro Ql ?_) | (apply And.intro) | (intro s hs))
   all_goals first
    | exact Done.mk (zC rfl)
    | (exfalso;omega)
abbrev sameE : ZD:=ZH (AC.cons (qf eB Zb) (AC.cons (qf eB Zb) AC.nil)) (λa=>a.1.length <= 9223372036854775806) (λa=>decide (a.1 = a.2.1)) cB.enc
theorem sameE_ok : EntOk Tryz.prog 29 sameE:=zO ⟨_,Tryz.func29,rfl,by kernel_rfl⟩ λa h=>same_ok a.1 a.2.1 h
theorem wf_u8 {n : Int} (h : (Lit.int .u8 n).wf = true) : 0 <= n /\ n < 256:=by
 simp [Lit.wf,IntKind.min,IntKind.max,IntKind.bits,IntKind.signed] at h;omega
theorem rowB_rel {w : World} {a : Option Addr} {len cap : Nat} {zs : List Int} (h : IsRow .u8 w a len cap zs) :
 (FV.e (.c (CV.sl true len 1 (zn eB zs)))).rel (λ_=>none) (λ_=>False) (λ_=>False) w (.slice a len cap):=by
 rcases h with ⟨rfl,rfl,rfl,rfl⟩ | ⟨ad,rfl,hl,hm,hz,hcell,hwz⟩
 . exact ⟨none,0,rfl,Nat.le_refl _,λh=>absurd h (Nat.lt_irrefl _)⟩
 . refine ⟨some ad,cap,rfl,hl,λh0=>?_⟩;have h1:=hcell 0 (by omega);rw [zCV] at h1;have hsp : ad.spot = none:=zD6 h1;refine ⟨ad,rfl,hsp,λh=>h,λ_ h=>h,zBq h1,λi hi j hj=>?_⟩;have : j = 0:=by omega
   subst this;have h2:=hcell i (by omega);rw [addS hsp] at h2;exact ⟨_,by rw [show i * 1 + 0 = i by omega];exact h2,rfl⟩
theorem zIC {w : World} {a : Option Addr} {len cap : Nat} {zs : List Int} (h : IsRow .u8 w a len cap zs) : (∀ z ∈ zs,0 <= z /\ z < 256) /\ len <= zs.length /\ len <= cap:=by
 rcases h with ⟨rfl,rfl,rfl,rfl⟩ | ⟨ad,rfl,hl,hm,hz,hcell,hwz⟩
 . exact ⟨λz hz=>(by cases hz),Nat.le_refl _,Nat.le_refl _⟩
 . exact ⟨λz hz=>wf_u8 (hwz z hz),by omega,hl⟩
theorem rowB_cut {w : World} {a : Option Addr} {len cap : Nat} {zs : List Int} (h : IsRow .u8 w a len cap zs) :
 ∃ b : List Int,BL b /\ b.length = len /\ (FV.e (.c (CV.sl true b.length 1 (zn eB b)))).rel (λ_=>none) (λ_=>False) (λ_=>False) w (.slice a len cap):=by
 obtain ⟨h1,h2,h3⟩:=zIC h;have e : (zs.take len).length = len:=by rw [List.length_take];omega
 refine ⟨zs.take len,⟨λx hx=>h1 x (List.mem_of_mem_take hx)⟩,e,?_⟩;rw [e];have hr:=rowB_rel h;obtain ⟨x,cap',hv,c1,c2⟩:=hr;refine ⟨x,cap',hv,c1,λh0=>?_⟩;obtain ⟨ad,g1,g2,g3,g4,g5,g6⟩:=c2 h0;refine ⟨ad,g1,g2,g3,g4,g5,λi hi j hj=>?_⟩;obtain ⟨u,k1,k2⟩:=g6 i hi j hj;refine ⟨u,k1,?_⟩;have e2 : zn eB (zs.take len) i j = zn eB zs i j:=by
  unfold zn;rw [List.getD_eq_getElem?_getD,List.getD_eq_getElem?_getD,List.getElem?_take,if_pos hi]
 rw [e2];exact k2
def normK : Hp -> List Nat -> Hp -> (Hp -> Prop) -> Prop
 | [],_,acc,k=>k acc
 | (t,v) :: l,seen,acc,k=>bif zEN seen t then normK l seen acc k else normK l (t :: seen) ((t,v) :: acc) k
def zDQ (H : Hp) : Hp:=H.map λp=>(p.1,none)
theorem zHo {l : List Nat} {t : Nat} : zEN l t = true ↔ t ∈ l:=by
 constructor
 . intro h;obtain ⟨x,hx,hb⟩:=List.any_eq_true.1 h;rw [Nat.eq_of_beq_eq_true hb];exact hx
 . exact zC8
def zA9 : Hp -> List Nat -> Hp -> Hp
 | [],_,acc=>acc
 | (t,v) :: l,seen,acc=>bif zEN seen t then zA9 l seen acc else zA9 l (t :: seen) ((t,v) :: acc)
theorem normK_L : ∀ (l : Hp) (seen : List Nat) (acc : Hp) (k : Hp -> Prop),normK l seen acc k = k (zA9 l seen acc):=by
 intro l;induction l with
 | nil=>intro seen acc k;rfl
 | cons p l ih=>
   intro seen acc k;obtain ⟨t0,v⟩:=p;unfold normK zA9;cases zEN seen t0 with
   | true=>exact ih _ _ _
   | false=>exact ih _ _ _
theorem normL_eq : ∀ (l : Hp) (seen : List Nat) (acc : Hp),(∀ t,t ∈ seen ↔ Zl acc t = true) ->
 (∀ t,Zl (zA9 l seen acc) t = (Zl acc t || Zl l t)) /\ ∀ t,qr none (zA9 l seen acc) t = qr none (acc ++ l) t:=by
 intro l;induction l with
 | nil=>intro seen acc _;exact ⟨λt=>by simp [Zl,zA9],λt=>by simp [zA9]⟩
 | cons p l ih=>
   intro seen acc hs;obtain ⟨t0,v⟩:=p;cases hb : zEN seen t0 with
   | true=>
     obtain ⟨h2,h3⟩:=ih seen acc hs;have hk : Zl acc t0 = true:=(hs t0).1 (zHo.1 hb);have hL : zA9 ((t0,v) :: l) seen acc = zA9 l seen acc:=by show (bif zEN seen t0 then _ else _) = _;rw [hb];rfl
     rw [hL];refine ⟨λt=>?_,λt=>?_⟩
     . rw [h2 t,YG];by_cases ht : t0 = t
       . subst ht;rw [hk];simp
       . have : Nat.beq t0 t = false:=by
          cases h : Nat.beq t0 t with
          | false=>rfl
          | true=>exact absurd (Nat.eq_of_beq_eq_true h) ht
         rw [this];simp
     . rw [h3 t,Zp,Zp];cases hkt : Zl acc t with
       | true=>rfl
       | false=>
         have ht : t ≠ t0:=λh=>by subst h;rw [hk] at hkt;cases hkt
         rw [cond_false,cond_false];exact (zg _ _ _ ht).symm
   | false=>
     have hk : Zl acc t0 = false:=by
      cases h : Zl acc t0 with
      | false=>rfl
      | true=>have:=zHo.2 ((hs t0).2 h);rw [hb] at this;cases this
     have hL : zA9 ((t0,v) :: l) seen acc = zA9 l (t0 :: seen) ((t0,v) :: acc):=by show (bif zEN seen t0 then _ else _) = _;rw [hb];rfl
     rw [hL];obtain ⟨h2,h3⟩:=ih (t0 :: seen) ((t0,v) :: acc) (λt=>by
      rw [YG,List.mem_cons,hs t,Bool.or_eq_true];constructor
      . rintro (rfl | h)
        . exact .inl (by simp)
        . exact .inr h
      . rintro (h | h)
        . exact .inl (Nat.eq_of_beq_eq_true h).symm
        . exact .inr h)
     refine ⟨λt=>?_,λt=>?_⟩
     . rw [h2 t,YG,YG];cases Nat.beq t0 t<;>cases Zl acc t<;>rfl
     . rw [h3 t];show qr none (((t0,v) :: acc) ++ l) t = qr none (acc ++ (t0,v) :: l) t;rw [Zp,Zp,YG];by_cases ht : t = t0
       . subst ht;rw [hk,show Nat.beq t t = true by simp,Bool.true_or,cond_true,cond_false,zu,zu]
       . have e1 : Nat.beq t0 t = false:=by
          cases h : Nat.beq t0 t with
          | false=>rfl
          | true=>exact absurd (Nat.eq_of_beq_eq_true h).symm ht
         rw [e1,Bool.false_or,zg _ _ _ ht,zg _ _ _ ht]
def inEnd (H Hf : Hp) (nf top : Nat) (k : Hp -> Prop) : Prop:=Nat.ble nf top = true /\ normK (Hf ++ zDQ H) [] [] k
theorem inEnd_eq {H Hf : Hp} {nf top : Nat} {k : Hp -> Prop} (h : inEnd H Hf nf top k) : nf <= top /\ ∃ L,k L /\ ∀ t,zP (L ++ H) t = zP Hf t:=by
 refine ⟨Nat.le_of_ble_eq_true h.1,?_⟩;obtain ⟨h2,h3⟩:=normL_eq (Hf ++ zDQ H) [] [] (λt=>by simp [Zl]);refine ⟨zA9 (Hf ++ zDQ H) [] [],by have:=h.2;rw [normK_L] at this;exact this,λt=>?_⟩;have hkill : ∀ (H : Hp) t,Zl (zDQ H) t = Zl H t:=λH t=>by
  unfold Zl zDQ;rw [List.any_map];rfl
 have hnone : ∀ (H : Hp) t,qr none (zDQ H) t = none:=by
  intro H;induction H with
  | nil=>intro t;rfl
  | cons p H ih=>
    intro t;show (bif Nat.beq t p.1 then none else qr none (zDQ H) t) = none;cases Nat.beq t p.1 with
    | true=>rfl
    | false=>exact ih t
 show qr none (zA9 (Hf ++ zDQ H) [] [] ++ H) t = qr none Hf t;rw [Zp,h2 t,h3 t];have e0 : Zl ([] : Hp) t = false:=rfl;have e1 : Zl (Hf ++ zDQ H) t = (Zl Hf t || Zl H t):=by
  unfold Zl;rw [List.any_append];exact congrArg (_ || ·) (hkill H t)
 rw [e0,e1,Bool.false_or,List.nil_append,Zp];cases h4 : Zl Hf t with
 | true=>rfl
 | false=>
   have look_no : ∀ (H : Hp),Zl H t = false -> qr none H t = none:=by
    intro H;induction H with
    | nil=>intro _;rfl
    | cons p H ih=>
      obtain ⟨k,v⟩:=p;intro h;rw [YG] at h;simp only [Bool.or_eq_false_iff] at h;have : Nat.beq t k = false:=by rw [zF6];exact h.1
      show (bif Nat.beq t k then v else qr none H t) = none;rw [this];exact ih h.2
   rw [cond_false,Bool.false_or,hnone,look_no Hf h4];cases h5 : Zl H t with
   | true=>rfl
   | false=>rw [cond_false,look_no H h5]
def inlE (T : Tys) (Q : Qs) (wi nt : Nat) (rv : List ResultVar) (c : Code) : ZD:=λargs H nm wd=>some λK=>
 Nat.ble args.length nt = true /\ qo T Q wi nt nm c (Ya args 0) H nm (YQ T rv λx Hf nf=>inEnd H Hf nf (nm + wd) λe=>K x e [zDk])
theorem zCO {T : Tys} {rv : List ResultVar} {p p' : FV -> Hp -> Nat -> Prop} (h : ∀ x H n,p x H n -> p' x H n) : ∀ e fr H nx,YQ T rv p e fr H nx -> YQ T rv p' e fr H nx:=by
 intro e fr H nx hp;cases e with
 | ret=>
   simp only [YQ] at hp ⊢;split at hp
   . exact h _ _ _ hp
   . exact hp.elim
 | normal=>
   simp only [YQ] at hp ⊢;split at hp
   . exact h _ _ _ hp
   . exact hp.elim
 | exit=>exact hp.elim
 | goto=>exact hp.elim
 | panic=>exact hp.elim
 | outgrown=>exact hp.elim
theorem gl_in {cx : Cx} {r : Qj} {H : Hp} {w : World} (st : St cx r H w) : GlobOk (λb=>cx.X b \/ (∃ k x,r k = some x /\ x.b = b) \/ wr r H b) w:=λp hp=>by
 obtain ⟨h1,h2,h3⟩:=(zFz st).2 p hp;refine ⟨h1,?_,h3⟩;rintro (h | ⟨k,x,hk,hb⟩ | h)
 . exact h2 (.inl h)
 . obtain ⟨g1,g2,_⟩:=st.xlt.gl p hp;rcases (st.dom k x hk).2.1 with hd | hd
   . omega
   . exact g2 (.inr (.inl (by rw [<- hb];exact hd)))
 . exact h2 (.inr h)
theorem zGw {P : Program} {T : Tys} {Q : Qs} {wi : Nat} (hwi : 0 < wi) (hT : qO P T) (hQ : zBR P Q) (hM : zCn Q) (hm : P.follows .mixedOrders = true) {f : FuncId} {fn : Func} {c : Code} (hf : P.funcs[f]? = some fn) (hb : fn.body = some c) (hnm : (fn.name == "runtime.NumGoroutine") = false) : EntOk P f (inlE T Q wi fn.ntmps fn.results.toList c):=by
 refine ⟨λargs H nm wd q hwd hq K hK=>?_,λargs H nm wd q hq K K' hKK hK=>?_⟩
 . injection hq with hq;subst hq;obtain ⟨hn,hK⟩:=hK;have hn:=Nat.le_of_ble_eq_true hn;obtain ⟨⟨x,Hf,nf⟩,hend,hex⟩:=zDr (α:=FV × Hp × Nat) (post:=λa x H n=>x = a.1 /\ H = a.2.1 /\ n = a.2.2) (S:=λa=>inEnd H a.2.1 a.2.2 (nm + wd) λe=>K a.1 e [zDk]) hwi hQ
    (zAh hM c _ _ (zCO λx Hf nf h=>⟨(x,Hf,nf),h,rfl,rfl,rfl⟩) _ _ _ hK)
   obtain ⟨hle,L,hKL,hL⟩:=inEnd_eq hend;refine ⟨x,L,[zDk],⟨⟨fn,hf,by rw [hb];rfl,hnm⟩,λH' hh cx r w vals st hfr hw hrel=>?_⟩,hKL⟩;obtain ⟨w1,w2⟩:=hw (List.mem_singleton.2 rfl);have w1' : ∀ k,zP H' k = zP H k:=λk=>(w1 k).symm;have st:=st.congr w1';rw [zB3 (r:=r) w1'] at hrel;have w3 : ∀ k,nm <= k -> r k = none /\ zP H k = none:=λk hk=>⟨(w2 k hk).1,by rw [w1];exact (w2 k hk).2⟩;have hG:=gl_in st;refine (zCm (np:=nm) (cx:=⟨w,λb=>∃ k x,r k = some x /\ x.b = b,wr r H,cx.X,λk=>if k < nm then r k else none⟩) hwi hT (QR_ok P) hm hf hb hn hex (λk b hk=>?_)
    ⟨rfl,rfl,rfl,Nat.le_refl _,λ_ _ _=>rfl,⟨λb hb=>Nat.lt_of_lt_of_le (st.xlt.lt b hb) st.size,hG⟩,λk x hk=>⟨(st.dom k x hk).1,.inr ⟨k,x,hk,rfl⟩,(st.dom k x hk).2.2⟩,λk e x he hx=>.inr ⟨k,e,x,he,hx,rfl⟩,st.inj,λk b hk=>?_,st.blk⟩ hrel w3).mono λe w' he=>?_
   . by_cases h : k < nm
     . exact h
     . have hk' : (if k < nm then r k else none) = some b:=hk;rw [if_neg h] at hk';cases hk'
   . by_cases h : k < nm
     . have hk' : (if k < nm then r k else none) = some b:=hk;rw [if_pos h] at hk';exact hk'
     . have hk' : (if k < nm then r k else none) = some b:=hk;rw [if_neg h] at hk';cases hk'
   . obtain ⟨v,r',x',Hf',nf',rfl,⟨e1,e2,e3⟩,st',hn',hx,hlow⟩:=he;dsimp only at e1 e2 e3;rw [e2] at st' hx;rw [e1] at hx;rw [e2,e3] at hn';clear e1 e2 e3;have hG : ∀ t,zP (L ++ H') t = zP Hf t:=λt=>by
      rw [<- hL t];show qr none (L ++ H') t = qr none (L ++ H) t;rw [Zp,Zp];cases Zl L t with
      | true=>rfl
      | false=>exact w1' t
     have hle2 : ∀ k,nm + wd <= k -> r' k = none /\ zP Hf k = none:=λk hk=>hn' k (Nat.le_trans hle hk);have stF : St cx r' Hf w':=by
      refine ⟨st'.os.trans st.os,st'.tape.trans st.tape,st'.output.trans st.output,Nat.le_trans st.size st'.size,λb hb hE=>?_,st.xlt,λk y hk=>?_,λk e y he hy=>?_,st'.inj,λk b hk=>?_,st'.blk⟩
      . rw [<- st.kept b hb hE];refine st'.kept b (Nat.lt_of_lt_of_le hb st.size) ?_;rintro ⟨k,e,y,he,hy,rfl⟩;rcases st.ow k e y he hy with h | h
        . omega
        . exact hE h
      . obtain ⟨d1,d2,d3⟩:=st'.dom k y hk;refine ⟨d1,?_,d3⟩;rcases d2 with d2 | ⟨k0,x0,d4,d5⟩
        . exact .inl (Nat.le_trans st.size d2)
        . rw [<- d5];exact (st.dom k0 x0 d4).2.1
      . rcases st'.ow k e y he hy with h | ⟨k0,e0,x0,h1,h2,h3⟩
        . exact .inl (Nat.le_trans st.size h)
        . rw [<- h3];exact st.ow k0 e0 x0 h1 h2
      . have hr:=st.pin k b hk;have : k < nm:=by
         rcases Nat.lt_or_ge k nm with h | h
         . exact h
         . rw [(w3 k h).1] at hr;cases hr
        rw [hlow k this];exact hr
     have hwr : wr r' (L ++ H') = wr r' Hf:=zB3 hG;have hwr0 : wr r H' = wr r H:=zB3 w1';refine ⟨v,rfl,r',⟨λk b hk=>?_,st'.size,λb hb hW=>st'.kept b hb (by rw [<- hwr0];exact hW),λb hb hW=>?_⟩,stF.congr λt=>(hG t).symm,λk hk=>?_,λk e hk=>?_,by rw [hwr];exact hx⟩
     . have : k < nm:=by
        rcases Nat.lt_or_ge k nm with h | h
        . exact h
        . rw [(w3 k h).1] at hk;cases hk
       rw [hlow k this];exact hk
     . rw [hwr] at hW;rw [hwr0];obtain ⟨k,e,y,he,hy,rfl⟩:=hW;rcases st'.ow k e y he hy with h | h
       . have : w.heap.size <= y.b:=h;omega
       . exact h
     . rcases hk with hk | hk
       . exact hlow k hk
       . rw [(hle2 k hk).1,(w3 k (by omega)).1]
     . refine .inl ⟨.inr (List.mem_singleton.2 rfl),?_⟩;rcases Nat.lt_or_ge k (nm + wd) with h | h
       . exact h
       . have hk' : zP (L ++ H') k = some e:=hk;rw [hG k,(hle2 k h).2] at hk';cases hk'
 . injection hq with hq;subst hq;refine ⟨hK.1,zAh hM c _ _ (zCO λx Hf nf h=>⟨h.1,?_⟩) _ _ _ hK.2⟩;have h2:=h.2;rw [normK_L] at h2 ⊢;exact hKK _ _ _ h2
def zBN (x : FV) : Prop:=∀ r r' X X' W W' w w' v,x.rel r X W w v -> x.rel r' X' W' w' v
def FlatE (x : EV) : Prop:=∀ r r' X X' W W' w w' v,x.rel r X W w v -> x.rel r' X' W' w' v
theorem Yr {x : CV} (h : zA5 x) : FlatE (.c x):=λr r' X X' W W' w w' v hv=>h r r' X X' W W' w w' v hv
theorem zDf {n : Nat} {g : Nat -> CV} (h : ∀ i,zA5 (g i)) : FlatE (.agg n g):=by
 rintro r r' X X' W W' w w' v ⟨cs,rfl,h1,h2⟩;exact ⟨cs,rfl,h1,λi u hu=>h i _ _ _ _ _ _ _ _ _ (h2 i u hu)⟩
theorem zET {x : EV} (h : FlatE x) : zBN (.e x):=h
theorem zBO {l : List EV} (h : ∀ x ∈ l,FlatE x) : zBN (.tup l):=by
 rintro r r' X X' W W' w w' v ⟨vs,rfl,h1,h2⟩;exact ⟨vs,rfl,h1,λi x u hx hu=>h x (List.mem_of_getElem? hx) _ _ _ _ _ _ _ _ _ (h2 i x u hx hu)⟩
theorem zZ {x : FV} (h : zBN x) : NFF x:=λr r' X W w v hv=>h r r' X X W W w w v hv
theorem zHU {P : Program} {f : FuncId} (hb : YS P f) {k : Nat} {s : Bool} {rest rest' : List FV} {H : Hp} {rd : List Nat} {nm wd : Nat} {e eT eT' e' : Ent} {val : FV} (hk : zP H k = some e) (hv : e.v = true) (hkr : k ∉ rd)
 (hin : ∀ r X W w o hp X' W',(∀ b,X' b -> W b) -> (∀ b,W' b -> W b) -> Qm r X W w e o hp -> Qm (λ_=>none) X' W' w eT o hp)
 (hout : ∀ r X X2 W W' w o hp,(∀ b,W b -> W' b) -> Qm (λ_=>none) X W' w eT' o hp -> Qm r X2 W w e' o hp) (hfl : zBN val)
 (hbo : ∀ H',(∀ k ∈ rd,zP H k = zP H' k) -> BoL H' rd rest rest') (h : ze P f rest' eT val eT') : zCd P f (.e (.c (.ptr k 0 0 s)) :: rest) H nm wd ⟨none,val,[(k,some e')],k :: rd⟩:=by
 refine ⟨hb,λH' hh cx r w vals st hfr _ hrel=>?_⟩;obtain ⟨h1,h2⟩:=hbo H' (λk hk=>hh k (List.mem_cons_of_mem _ hk));have hk' : zP H' k = some e:=by rw [<- hh k (List.mem_cons_self ..)];exact hk
 have hblk:=st.blk k e hk';obtain ⟨g1,g2,g3⟩:=hblk;rcases g3 with ⟨_,g4⟩ | ⟨x,cs,c1,c2,c3,c4,c5,c6⟩ | ⟨hfit,_⟩
 . have:=g2 hv;omega
 . obtain ⟨d1,d2,d3⟩:=st.dom k x c1;have hXx : ¬ (YU r H' [k] x.b):=by
    rintro ⟨k2,e2,y,he2,hy,hyb,hne⟩;have:=st.inj k2 k e2 e y x he2 hk' hy c1 hyb;exact hne (by rw [this];exact List.mem_singleton.2 rfl)
   have hsubX : ∀ b,YU r H' [k] b -> wr r H' b:=by
    rintro b ⟨k2,e2,y,he2,hy,hyb,_⟩;exact ⟨k2,e2,y,he2,hy,hyb⟩
   have hsubW : ∀ b,b = x.b -> wr r H' b:=λb hb=>⟨k,e,x,hk',c1,hb.symm⟩;have hXlt : Xw (λb=>YU r H' [k] b \/ b = x.b) w:=zGi (zFz st) λb hb=>.inr (hb.elim (hsubX b) (hsubW b));refine (h (λb=>YU r H' [k] b) w x vals d1 hXx hXlt ?_ ⟨by rw [hrel.1];simp [h1],λi y u hy hu=>?_⟩).mono λen w' he=>?_
   . exact hin r cx.X (wr r H') w (some x) w.heap _ _ hsubX hsubW ⟨g1,g2,.inr (.inl ⟨x,cs,rfl,c2,c3,c4,c5,c6⟩)⟩
   . cases i with
     | zero=>
       simp only [List.getElem?_cons_zero,Option.some.injEq] at hy;subst hy;obtain ⟨z,hz,hzv⟩:=hrel.2 0 _ u rfl hu;have hz1:=hz.1;rw [c1] at hz1;injection hz1 with hz1;subst hz1;exact ⟨x,⟨if_pos rfl,hz.2⟩,hzv⟩
     | succ i=>
       have hy' : rest'[i]? = some y:=by simpa using hy
       have hi : i < rest.length:=by rw [h1];exact (List.getElem?_eq_some_iff.1 hy').1
       have h3:=h2 i _ y (List.getElem?_eq_getElem hi) hy' cx r w u st (hrel.2 (i + 1) _ u (by simp [List.getElem?_eq_getElem hi]) hu);have h4 : y.rel (at0 (some x)) (λb=>cx.X b \/ wr r H' b) (YU r H' rd) w u:=FV.rel_ext ⟨λ_ _ h=>(by cases h),Nat.le_refl _,λ_ _ _=>rfl,λ_ _ h=>h⟩ _ _ h3;have h5 : y.rel (at0 (some x)) (λb=>cx.X b \/ wr r H' b) (λb=>b = x.b) w u:=FV.rel_w (λb hb=>⟨k,e,x,hk',c1,hb.symm,hkr⟩) _ _ h4;have hs : ∀ b,YU r H' [k] b -> (cx.X b \/ wr r H' b) \/ b = x.b:=λb hb=>.inl (.inr (hsubX b hb));cases y with
       | top=>trivial
       | e y=>
         cases y with
         | c y=>exact CV.rel_sub hs (λb hb=>hb) _ _ h5
         | agg n g=>obtain ⟨cs',e1,e2,e3⟩:=h5;exact ⟨cs',e1,e2,λi u hu=>CV.rel_sub hs (λb hb=>hb) _ _ (e3 i u hu)⟩
       | tup l=>
         obtain ⟨vs,e1,e2,e3⟩:=h5;refine ⟨vs,e1,e2,λi z u hz hu=>?_⟩;have:=e3 i z u hz hu;cases z with
         | c z=>exact CV.rel_sub hs (λb hb=>hb) _ _ this
         | agg n g=>obtain ⟨cs',e1,e2,e3⟩:=this;exact ⟨cs',e1,e2,λi u hu=>CV.rel_sub hs (λb hb=>hb) _ _ (e3 i u hu)⟩
   . obtain ⟨v,rfl,o1,o2,o3,o4,o5,o6,o7⟩:=he;have hY : ∀ b,wr r H' b -> orB (λb=>YU r H' [k] b) (some x) b:=by
      rintro b ⟨k2,e2,y,he2,hy,hyb⟩;by_cases hk2 : k2 = k
      . subst hk2;rw [c1] at hy;injection hy with hy;subst hy;exact .inr ⟨x,rfl,hyb⟩
      . exact .inl ⟨k2,e2,y,he2,hy,hyb,λhm=>hk2 (List.mem_singleton.1 hm)⟩
     have hl0 : zP ((k,some e') :: H') k = some e':=zu _ _ _ _;have hl : ∀ j,j ≠ k -> zP ((k,some e') :: H') j = zP H' j:=λj hj=>zg _ _ _ hj;have live : ∀ j e1,zP ((k,some e') :: H') j = some e1 -> ∃ e2,zP H' j = some e2:=λj e1 hj=>by
      by_cases hjk : j = k
      . subst hjk;exact ⟨e,hk'⟩
      . rw [hl j hjk] at hj;exact ⟨e1,hj⟩
     have hwr2 : ∀ b,wr r ((k,some e') :: H') b -> wr r H' b:=by
      rintro b ⟨j,e1,y,h1,h2,h3⟩;obtain ⟨e2,h1⟩:=live j e1 h1;exact ⟨j,e2,y,h1,h2,h3⟩
     have hE : Ext r (wr r H') w r (wr r ((k,some e') :: H')) w':=⟨λ_ _ h=>h,o4,λb hb hw=>o5 b hb λhbx=>hw ⟨k,e,x,hk',c1,hbx.symm⟩,λb _ hb=>hwr2 b hb⟩;refine ⟨v,rfl,r,hE,⟨o1.trans st.os,o2.trans st.tape,o3.trans st.output,Nat.le_trans st.size o4,λb hb hne=>?_,st.xlt,λj y hy=>?_,λj e1 y hj hy=>?_,λn m e1 e2 y z h1 h2 hy hz hyz=>?_,st.pin,λj e1 hj=>?_⟩,λ_ _=>rfl,λj e1 hj=>.inr (live j e1 hj),?_⟩
     . rw [<- st.kept b hb hne];refine o5 b (Nat.lt_of_lt_of_le hb st.size) λhbx=>?_;rcases st.ow k e x hk' c1 with h | h
       . omega
       . exact hne (hbx ▸ h)
     . obtain ⟨a1,a2,a3⟩:=st.dom j y hy;exact ⟨Nat.lt_of_lt_of_le a1 o4,a2,a3⟩
     . obtain ⟨e2,hj⟩:=live j e1 hj;exact st.ow j e2 y hj hy
     . obtain ⟨e1',h1⟩:=live n e1 h1;obtain ⟨e2',h2⟩:=live m e2 h2;exact st.inj n m e1' e2' y z h1 h2 hy hz hyz
     . have hj' : zP ((k,some e') :: H') j = some e1:=hj;by_cases hjk : j = k
       . subst hjk;rw [hl0] at hj';injection hj' with hj';subst hj';rw [c1];exact hout r _ cx.X (wr r ((j,some e') :: H')) _ w' (some x) w'.heap (λb hb=>hY b (hwr2 b hb)) o6
       . rw [hl j hjk] at hj';have hold:=st.old hj' rfl (w':=w') λy hy=>o5 _ (st.dom j y hy).1 λhyx=>hjk (st.inj j k e1 e y x hj' hk' hy c1 hyx);exact hold.ext hE
     . exact hfl _ _ _ _ _ _ _ _ _ o7
 . have hf : e.v = false:=hfit.1;rw [hv] at hf;cases hf
theorem sl_in {sh : Bool} {n : Nat} {b : List Int} {r : Qj} {X W X' W' : Nat -> Prop} {w : World} {v : Value} (hX : ∀ b,X' b -> W b) (hW : ∀ b,W' b -> W b) (h : (CV.sl sh n 1 (zn eB b)).rel r X W w v) : (CV.sl true n 1 (zn eB b)).rel (λ_=>none) X' W' w v:=by
 obtain ⟨a,cap,rfl,h1,h2⟩:=h;refine ⟨a,cap,rfl,h1,λh0=>?_⟩;obtain ⟨ad,rfl,hs,ho,hx,hlt,hc⟩:=h2 h0;refine ⟨ad,rfl,hs,λh=>ho (hW _ h),λ_ h=>ho (hX _ h),hlt,λi hi j hj=>?_⟩;obtain ⟨u,hu,hr⟩:=hc i hi j hj;exact ⟨u,hu,(eB.flat _ _) _ _ _ _ _ _ _ _ _ hr⟩
theorem sl_out {n : Nat} {b : List Int} {r : Qj} {X X2 W W' : Nat -> Prop} {w : World} {v : Value} (hW : ∀ b,W b -> W' b) (h : (CV.sl true n 1 (zn eB b)).rel (λ_=>none) X W' w v) : (CV.sl false n 1 (zn eB b)).rel r X2 W w v:=by
 obtain ⟨a,cap,rfl,h1,h2⟩:=h;refine ⟨a,cap,rfl,h1,λh0=>?_⟩;obtain ⟨ad,rfl,hs,ho,hx,hlt,hc⟩:=h2 h0;refine ⟨ad,rfl,hs,λh=>ho (hW _ h),(λh=>by cases h),hlt,λi hi j hj=>?_⟩;obtain ⟨u,hu,hr⟩:=hc i hi j hj;exact ⟨u,hu,(eB.flat _ _) _ _ _ _ _ _ _ _ _ hr⟩
theorem zC5 {sh : Bool} {n : Nat} {b : List Int} : NF (.sl sh n 1 (zn eB b)):=zE3 λi _ j _=>QS
theorem QJ {r r' : Qj} {X X' W W' : Nat -> Prop} {w : World} {e e' : Ent} {o : Option Bi} {hp : Array Obj} (ht : e.t = e'.t) (hn : e.n = e'.n) (hz : e.sz = e'.sz) (hv : e.v = e'.v) (hf : ∀ i,i < e.n -> ∀ j,j < e.sz -> ∀ u,(e.f i j).rel r X W w u -> (e'.f i j).rel r' X' W' w u) (h : Qm r X W w e o hp) : Qm r' X' W' w e' o hp:=by
 exact h.map ht hn hz hv rfl (λ_ _=>rfl) hf
def qW (sh : Bool) (b : List Int) (q : Int) : Ent:=⟨126,1,2,true,λ_ j=>bif Nat.beq j 0 then .sl sh b.length 1 (zn eB b) else .int .i64 q⟩
theorem ZZ {sh : Bool} {b : List Int} {q : Int} : ∀ i,i < (qW sh b q).n -> ∀ j,j < (qW sh b q).sz -> NF ((qW sh b q).f i j):=by
 intro i _ j _;show NF (bif Nat.beq j 0 then _ else _);cases Nat.beq j 0 with
 | true=>exact zC5
 | false=>exact QS
theorem zEw {P : Program} {fid : FuncId} {rest : List FV} {e e1 : Ent} {val : FV} {e' : Ent} (ht : e1.t = e.t) (hn : e1.n = e.n) (hz : e1.sz = e.sz) (hv : e1.v = e.v) (hf : ∀ i,i < e1.n -> ∀ j,j < e1.sz -> e1.f i j = e.f i j) (h : ze P fid rest e val e') : ze P fid rest e1 val e':=by
 intro X w x vals a1 a2 a3 hent hrel;exact h X w x vals a1 a2 a3 (QJ ht hn hz hv (λi hi j hj u hu=>by rw [<- hf i hi j hj];exact hu) hent) hrel
def rdE {α R : Type} (A : AC α) (p : List Int -> Int -> α -> Prop) (F : List Int -> Int -> α -> R × Int) (enc : R -> FV) : ZD:=λargs H _ _=>
 match args with
 | .e (.c (.ptr k 0 0 _)) :: rest=>
   match zP H k with
   | some ⟨t,en,es,v,g⟩=>
     match g 0 0,g 0 1 with
     | .sl sh n s f,.int .i64 q=>
       match A.dec H rest with
       | some (a,pq,rd)=>bif Nat.beq t 126 && Nat.beq en 1 && Nat.beq es 2 && v && Nat.beq s 1 && !(rd.any (Nat.beq k)) then
          some λK=>pAnd pq (∃ b : List Int,(n = b.length /\ f = zn eB b /\ p b q a) /\ ∀ s,s = F b q a -> K (enc s.1) [(k,some (qW sh b s.2))] (k :: rd)) else none
       | none=>none
     | _,_=>none
   | none=>none
 | _=>none
theorem j2 {i j : Nat} (hi : i < 1) (hj : j < 2) : i = 0 /\ (j = 0 \/ j = 1):=by omega
theorem zDg {α R : Type} {A : AC α} {p : List Int -> Int -> α -> Prop} {F : List Int -> Int -> α -> R × Int} {enc : R -> FV} {P : Program} {f : FuncId} (hb : YS P f) (hfl : ∀ r,zBN (enc r))
 (h : ∀ b q a,p b q a -> ze P f (A.enc a) (qW true b q) (enc (F b q a).1) (qW true b (F b q a).2)) : EntOk P f (rdE A p F enc):=by
 refine ⟨λargs H nm wd q _ hq K hK=>?_,λargs H nm wd q hq K K' hKK hK=>?_⟩
 . unfold rdE at hq;split at hq
   . rename_i k s rest;split at hq
     . rename_i t en es v g he;split at hq
       . rename_i sh n s f q0 hg0 hg1;split at hq
         . rename_i a pr rd hd;obtain ⟨hc,hq⟩:=ZN hq;subst hq;simp only [Bool.and_eq_true,Bool.not_eq_true'] at hc;obtain ⟨⟨⟨⟨⟨c1,c2⟩,c3⟩,c4⟩,c5⟩,c6⟩:=hc;have c1:=Nat.eq_of_beq_eq_true c1;have c2:=Nat.eq_of_beq_eq_true c2;have c3:=Nat.eq_of_beq_eq_true c3;have c5:=Nat.eq_of_beq_eq_true c5;subst c1 c2 c3 c4 c5;have hkr : k ∉ rd:=λhm=>by
            have : rd.any (Nat.beq k) = true:=List.any_eq_true.2 ⟨k,hm,by simp⟩;rw [c6] at this;cases this
           obtain ⟨h1,b,⟨h2,h3,h4⟩,h5⟩:=QD.1 hK;subst h2 h3;have hm:=h b q0 a h4;have hnf : ∀ i,i < 1 -> ∀ j,j < 2 -> NF (g i j):=λi hi j hj=>by
            obtain ⟨rfl,rfl | rfl⟩:=j2 hi hj
            . rw [hg0];exact zC5
            . rw [hg1];exact QS
           cases sh with
           | true=>
             refine ⟨_,_,_,zCl (e:=⟨126,1,2,true,g⟩) hb he rfl hkr hnf (λH' hh=>A.sound H H' rest a pr rd hd h1 hh) (zEw (e:=qW true b q0) rfl rfl rfl rfl (λi hi j hj=>?_) hm) rfl,h5 _ rfl⟩;obtain ⟨rfl,rfl | rfl⟩:=j2 hi hj
             . exact hg0
             . exact hg1
           | false=>
             refine ⟨_,_,_,zHU (e:=⟨126,1,2,true,g⟩) (eT:=qW true b q0) (eT':=qW true b (F b q0 a).2) (e':=qW false b (F b q0 a).2) hb he rfl hkr ?_ ?_ (hfl _) (λH' hh=>A.sound H H' rest a pr rd hd h1 hh) hm,h5 _ rfl⟩
             . intro r X W w o hp X' W' hX hW hE;refine QJ (e:=⟨126,1,2,true,g⟩) (e':=qW true b q0) rfl rfl rfl rfl (λi hi j hj u hu=>?_) hE;obtain ⟨rfl,rfl | rfl⟩:=j2 hi hj
               . have hu' : (CV.sl false b.length 1 (zn eB b)).rel r X W w u:=by rw [<- hg0];exact hu
                 exact sl_in hX hW hu'
               . have hu' : (CV.int .i64 q0).rel r X W w u:=by rw [<- hg1];exact hu
                 exact hu'
             . intro r X X2 W W' w o hp hW hE;refine QJ (e:=qW true b (F b q0 a).2) (e':=qW false b (F b q0 a).2) rfl rfl rfl rfl (λi hi j hj u hu=>?_) hE;obtain ⟨rfl,rfl | rfl⟩:=j2 hi hj
               . exact sl_out hW hu
               . exact hu
         . cases hq
       . cases hq
     . cases hq
   . cases hq
 . unfold rdE at hq;split at hq
   . split at hq
     . split at hq
       . split at hq
         . obtain ⟨hc,hq⟩:=ZN hq;subst hq;obtain ⟨h1,b,h2,h3⟩:=QD.1 hK;exact QD.2 ⟨h1,b,h2,λs hs=>hKK _ _ _ (h3 s hs)⟩
         . cases hq
       . cases hq
     . cases hq
   . cases hq
theorem ZK {c : Wc} {b : List Int} {q q' : Int} (h : q = q') : LeN c (qW true b q) (qW true b q'):=
 zh ⟨⟨trivial,qh (λ_=>rfl) rfl rfl λi _ j _=>qd rfl⟩,zA h⟩
end Go.Proofs.YtjknkfjhcapocaaGreatDoor.AX
namespace Go.Proofs.YtjknkfjhcapocaaGreatDoor.AX
structure Ctx where
 id : Int
 ip : Fin 16 -> Int
 bits : Int
 comp : Bool
 til : Int
instance : Inhabited Ctx:=⟨⟨0,λ_=>0,0,false,0⟩⟩
structure Pfx where
 ip : Fin 16 -> Int
 bits : Int
def eCtxC (x : Ctx) (j : Nat) : CV:=bif Nat.beq j 0 then .int .i64 x.id else bif Nat.blt j 17 then .int .u8 (zQ x.ip (j - 1)) else bif Nat.beq j 17 then .int .i64 x.bits else bif Nat.beq j 18 then .bool x.comp else (.int .i64 x.til)
def zb : Elem Ctx where
 sz:=20
 cell:=eCtxC
 rd g:=⟨qY (g 0),λq=>qY (g (1 + q.1)),qY (g 17),valB (g 18),qY (g 19)⟩
 ok g:=isK .i64 (g 0) && okA .u8 g 1 16 && isK .i64 (g 17) && isB (g 18) && isK .i64 (g 19)
 ok_eq g h j hj:=by
  simp only [Bool.and_eq_true] at h;unfold eCtxC;by_cases c0 : j < 1
  . have e : j = 0:=by omega
    subst e;exact Qo h.1.1.1.1
  by_cases c1 : j < 17
  . have e:=zE0 h.1.1.1.2 (j - 1) (by omega);rw [show 1 + (j - 1) = j by omega] at e;have b0 : Nat.beq j 0 = false:=by cases hb : Nat.beq j 0 with | false=>rfl | true=>have:=Nat.eq_of_beq_eq_true hb;omega
    rw [b0,cond_false,show Nat.blt j 17 = true from Nat.ble_eq_true_of_le c1,cond_true];rw [show zQ (λq : Fin 16=>qY (g (1 + q.1))) (j - 1) = qY (g (1 + (j - 1))) from ZV _ (by omega)];rw [show 1 + (j - 1) = j by omega];exact e
  by_cases c2 : j < 18
  . have e : j = 17:=by omega
    subst e;exact Qo h.1.1.2
  by_cases c3 : j < 19
  . have e : j = 18:=by omega
    subst e;exact isB_eq h.1.2
  by_cases c4 : j < 20
  . have e : j = 19:=by omega
    subst e;exact Qo h.2
  omega
 flat a j:=by
  unfold eCtxC;cases Nat.beq j 0 with
  | true=>exact ZO
  | false=>
  cases Nat.blt j 17 with
  | true=>exact ZO
  | false=>
  cases Nat.beq j 17 with
  | true=>exact ZO
  | false=>
  cases Nat.beq j 18 with
  | true=>exact zFy
  | false=>
  exact ZO
theorem zq : 0 < zb.sz:=by decide
theorem zFS (x : Ctx) (q : Nat) (h : q < 16) : zb.cell x (1 + q) = .int .u8 (zQ x.ip q):=by
 show eCtxC x (1 + q) = _;unfold eCtxC;rw [show Nat.beq (1 + q) 0 = false from by cases hb : Nat.beq (1 + q) 0 with | false=>rfl | true=>have:=Nat.eq_of_beq_eq_true hb;omega,cond_false];rw [show Nat.blt (1 + q) 17 = true from Nat.ble_eq_true_of_le (by omega),cond_true];rw [show 1 + q - 1 = q by omega]
theorem eCtx_ip (x : Ctx) : (λq : Fin 16=>qY (zb.cell x (1 + q.1))) = x.ip:=by
 funext q
 rw [zFS x q.1 q.2];exact ZV _ q.2
theorem zAc (x : Ctx) : zb.rd (zb.cell x) = x:=by
 show (⟨x.id,λq=>qY (zb.cell x (1 + q.1)),x.bits,x.comp,x.til⟩ : Ctx) = x;rw [eCtx_ip]
def ePfxC (x : Pfx) (j : Nat) : CV:=bif Nat.blt j 16 then .int .u8 (zQ x.ip (j - 0)) else (.int .i64 x.bits)
def qS : Elem Pfx where
 sz:=17
 cell:=ePfxC
 rd g:=⟨λq=>qY (g (0 + q.1)),qY (g 16)⟩
 ok g:=okA .u8 g 0 16 && isK .i64 (g 16)
 ok_eq g h j hj:=by
  simp only [Bool.and_eq_true] at h;unfold ePfxC;by_cases c0 : j < 16
  . have e:=zE0 h.1 (j - 0) (by omega);rw [show 0 + (j - 0) = j by omega] at e;rw [show Nat.blt j 16 = true from Nat.ble_eq_true_of_le c0,cond_true];rw [show zQ (λq : Fin 16=>qY (g (0 + q.1))) (j - 0) = qY (g (0 + (j - 0))) from ZV _ (by omega)];rw [show 0 + (j - 0) = j by omega];exact e
  by_cases c1 : j < 17
  . have e : j = 16:=by omega
    subst e;exact Qo h.2
  omega
 flat a j:=by
  unfold ePfxC;cases Nat.blt j 16 with
  | true=>exact ZO
  | false=>
  exact ZO
theorem zAs (x : Pfx) (q : Nat) (h : q < 16) : qS.cell x (0 + q) = .int .u8 (zQ x.ip q):=by
 show ePfxC x (0 + q) = _;unfold ePfxC;rw [show Nat.blt (0 + q) 16 = true from Nat.ble_eq_true_of_le (by omega),cond_true];rw [show 0 + q - 0 = q by omega]
theorem zEZ (x : Pfx) : (λq : Fin 16=>qY (qS.cell x (0 + q.1))) = x.ip:=by
 funext q
 rw [zAs x q.1 q.2];exact ZV _ q.2
theorem ePfx_rd (x : Pfx) : qS.rd (qS.cell x) = x:=by
 show (⟨λq=>qY (qS.cell x (0 + q.1)),x.bits⟩ : Pfx) = x;rw [zEZ]
def vt (t : Int) : Bool:=decide (0 <= t) && decide (t <= 1099511627776)
theorem vt_ok (t : Int) : zY Tryz.prog 124 [(cI .i64).enc t] (cB.enc (vt t)):=by
 refine zG (wd:=1) (by decide) zM (zT ZG) zN Tryz.func124 rfl _ (by show 1 <= _;decide) _ ?_;repeat' (first | (apply And.intro<;>intro hc<;>(first | exact Bool.noConfusion hc | (simp only [qm] at hc) | skip)) | (refine And.intro Ql ?_) | (apply And.intro) | (intro s hs))
 all_goals (refine Done.mk (zC ?_);simp [vt, *])
def Qz (c : Ctx) (now : Int) : Bool:=c.comp && decide (now < c.til)
theorem compr_ok (c : Ctx) (now : Int) : zY Tryz.prog 130 [(cE zb).enc c,(cI .i64).enc now] (cB.enc (Qz c now)):=by
 refine zG (wd:=1) (by decide) zM (zT ZG) zN Tryz.func130 rfl _ (by show 2 <= _;decide) _ ?_;repeat' (first | (apply And.intro<;>intro hc<;>(first | exact Bool.noConfusion hc | (simp only [qm] at hc) | skip)) | (refine And.intro Ql ?_) | (apply And.intro) | (intro s hs))
 all_goals (refine Done.mk (zC ?_);simp [Qz, *])
def zAt (c : Ctx) (now : Int) : Bool:=decide (now < IntKind.i64.wrap (c.til + 32))
theorem decom_ok (c : Ctx) (now : Int) : zY Tryz.prog 125 [(cE zb).enc c,(cI .i64).enc now] (cB.enc (zAt c now)):=by
 refine zG (wd:=1) (by decide) zM (zT ZG) zN Tryz.func125 rfl _ (by show 2 <= _;decide) _ ?_;repeat' (first | (apply And.intro<;>intro hc<;>(first | exact Bool.noConfusion hc | (simp only [qm] at hc) | skip)) | (refine And.intro Ql ?_) | (apply And.intro) | (intro s hs))
 all_goals (refine Done.mk (zC ?_);simp [zAt, *])
def Zo (b lo hi : Int) : Int:=if hi < (if b < lo then lo else b) then hi else (if b < lo then lo else b)
def QV (b : Int) (i : Nat) : Int:=Zo (b - 8 * i) 0 8
def zAD (a : Fin 16 -> Int) (b : Int) (i : Nat) : Int:=bits .andNot .u8 (zQ a i) (Zn .u8 255 (QV b i))
def qu (a : Fin 16 -> Int) (b : Int) : Pfx:=⟨λq=>zAD a (Zo b 0 128) q.1,Zo b 0 128⟩
def maskS (a : Fin 16 -> Int) (b : Int) (i : Nat) (j : Nat) : CV:=bif Nat.blt j 16 then .int .u8 (if j < i then zAD a b j else 0) else .int .i64 b
theorem upd_step (i j : Nat) (v : Int) (m : Nat -> Int) (h : v = m i) : (bif Nat.ble (0 + i * 1) j && Nat.blt j (0 + i * 1 + 1) then v else (if j < i then m j else 0)) = if j < i + 1 then m j else 0:=by
 rw [Nat.mul_one,Nat.zero_add];by_cases h1 : j = i
 . subst h1;have : (Nat.ble j j && Nat.blt j (j + 1)) = true:=by simp [Nat.blt]
   rw [this,cond_true,if_pos (by omega),h]
 . have : (Nat.ble i j && Nat.blt j (i + 1)) = false:=by
    cases hb : (Nat.ble i j && Nat.blt j (i + 1)) with
    | false=>rfl
    | true=>
      simp only [Bool.and_eq_true] at hb;have:=Nat.le_of_ble_eq_true hb.1;have:=Nat.le_of_ble_eq_true hb.2;omega
   rw [this,cond_false];by_cases h2 : j < i
   . rw [if_pos h2,if_pos (by omega)]
   . rw [if_neg h2,if_neg (by omega)]
theorem zBY (b : Int) {lo hi : Int} (h : lo <= hi) : lo <= Zo b lo hi /\ Zo b lo hi <= hi:=by unfold Zo;split<;>split<;>omega
theorem mask_ok (a : Fin 16 -> Int) (b : Int) : zY Tryz.prog 131 [(cE (eA .u8 16)).enc a,(cI .i64).enc b] ((cE qS).enc (qu a b)):=by
 have hb:=zBY b (lo:=0) (hi:=128) (by omega);refine zG (wd:=1) (by decide) zM (zT ZG) zN Tryz.func131 rfl _ (by show 2 <= _;decide) _ ?_;refine zp (ZE ZG) (λi : {i : Nat // i <= 16}=>(⟨[(2,one (.ptr 0 0 0 false)),(4,one (.ptr 1 0 0 false)),(5,one (.ptr 6 0 0 false)),(12,one (.int .i64 (i.1 : Int)))],
  [(0,some ⟨24,1,16,true,λ_=>(eA .u8 16).cell a⟩),(1,some ⟨57,1,17,true,λ_ _=>.top⟩),(6,some ⟨57,1,17,true,λ_=>maskS a (Zo b 0 128) i.1⟩)],9⟩ : Hd)) (λi=>16 - i.1) (λ_=>rfl) ?_ ⟨0,by omega⟩ [] ?_
 . rintro ⟨i,hi⟩;dsimp only;have hv : bits .andNot .u8 (zQ a (0 + (i : Int).toNat * 1 + 0)) (Zn .u8 255 (Zo (IntKind.i64.wrap (Zo b 0 128 - IntKind.i64.wrap (8 * (i : Int)))) 0 8)) = zAD a (Zo b 0 128) i:=by
    have h1 : IntKind.i64.wrap (8 * (i : Int)) = 8 * i:=IntWalk.i64_in _ (by omega);have h2 : IntKind.i64.wrap (Zo b 0 128 - 8 * (i : Int)) = Zo b 0 128 - 8 * i:=IntWalk.i64_in _ (by omega);simp [zAD,QV,h1,h2]
   repeat' (first | (apply And.intro<;>intro hc<;>(first | exact Bool.noConfusion hc | (simp only [qm] at hc) | skip)) | (refine And.intro Ql ?_) | (apply And.intro) | (intro s hs))
   . refine ⟨⟨i + 1,by omega⟩,[],by dsimp only;omega,rfl,?_,?_⟩
     . repeat' (first | exact qH | refine zF ?_ | refine zC ?_ | exact qI | apply And.intro)
       exact zaw
     . repeat' (first | exact qH | refine zF ?_ | refine zC ?_ | exact qI | apply And.intro)
       refine zh ?_;repeat' (first | exact trivial | exact zA (upd_step i _ _ _ hv) | exact zA rfl | apply And.intro)
       refine zHY (b:=Nat.ble (0 + (i : Int).toNat * 1) 16 && Nat.blt 16 (0 + (i : Int).toNat * 1 + 1)) (y:=.int .i64 (Zo b 0 128)) (z:=.int .i64 (Zo b 0 128)) ?_ ?_
       . refine zA6 (i:=0 + (i : Int).toNat * 1) (j:=16) (n:=1) ?_;simp;omega
       . exact zA rfl
   . refine Done.mk (ZS (zd ?_));have h16 : i = 16:=by omega
     subst h16;repeat' (first | exact trivial | exact zA rfl | apply And.intro)
 . refine ⟨rfl,?_,?_⟩
   . exact QI
   . repeat' (first | exact qH | refine zF ?_ | refine zC ?_ | exact qI | apply And.intro)
     refine zh ?_;repeat' (first | exact trivial | exact zA rfl | apply And.intro)
def zBk (a b : Fin 16 -> Int) : Bool:=(List.range 16).all λj=>zQ a j == zQ b j
theorem zFT {a b : Fin 16 -> Int} : zBk a b = true ↔ a = b:=by
 simp only [zBk,List.all_eq_true,List.mem_range,beq_iff_eq];constructor
 . intro h;funext q
   have:=h q.1 q.2;rw [ZV _ q.2,ZV _ q.2] at this;exact this
 . rintro rfl j _;rfl
def pEq (p q : Pfx) : Bool:=zBk p.ip q.ip && decide (p.bits = q.bits)
theorem zG1 {p q : Pfx} : pEq p q = true ↔ p = q:=by
 simp only [pEq,Bool.and_eq_true,zFT,decide_eq_true_eq];constructor
 . rintro ⟨h1,h2⟩;obtain ⟨a,b⟩:=p;obtain ⟨c,d⟩:=q;simp only at h1 h2;rw [h1,h2]
 . rintro rfl;exact ⟨rfl,rfl⟩
theorem zHr (p q : Pfx) : zz (qS.cell p) (qS.cell q) 17 0 = pEq p q:=by
 rw [Bool.eq_iff_iff,zAE,zG1];simp only [Nat.zero_add];constructor
 . intro h;obtain ⟨a,b⟩:=p;obtain ⟨c,d⟩:=q;have h1 : a = c:=by
    funext j
    have:=h j.1 (by omega);rw [<- Nat.zero_add j.1,zAs _ _ j.2,zAs _ _ j.2] at this;simp only [Qp,beq_iff_eq] at this;rw [ZV _ j.2,ZV _ j.2] at this;exact this
   have h2 : b = d:=by
    have:=h 16 (by omega);have e1 : ∀ x : Pfx,qS.cell x 16 = .int .i64 x.bits:=λx=>rfl;rw [e1,e1] at this;simpa [Qp] using this
   rw [h1,h2]
 . rintro rfl j hj;by_cases h16 : j < 16
   . rw [<- Nat.zero_add j,zAs _ _ h16];simp [Qp]
   . have : j = 16:=by omega
     subst this;have e1 : ∀ x : Pfx,qS.cell x 16 = .int .i64 x.bits:=λx=>rfl;rw [e1];simp [Qp]
def vpf (p : Pfx) : Bool:=decide (0 <= p.bits) && decide (p.bits <= 128) && pEq (qu p.ip p.bits) p
def LE1 : Qb:=(131,some (ZH (AC.cons (cE (eA .u8 16)) (AC.cons (cI .i64) AC.nil)) (λ_=>True) (λa=>qu a.1 a.2.1) (cE qS).enc)) :: []
theorem LE1_ok : ZC Tryz.prog LE1:=⟨zO ⟨_,Tryz.func131,rfl,by kernel_rfl⟩ λa _=>mask_ok a.1 a.2.1,trivial⟩
theorem vpf_ok (p : Pfx) : zY Tryz.prog 129 [(cE qS).enc p] (cB.enc (vpf p)):=by
 refine zG (wd:=1) (by decide) zM (zT LE1_ok) zN Tryz.func129 rfl _ (by show 1 <= _;decide) _ ?_;repeat' (first | (apply And.intro<;>intro hc<;>(first | exact Bool.noConfusion hc | (simp only [qm] at hc) | skip)) | (refine And.intro Ql ?_) | (apply And.intro) | (intro s hs))
 . refine Done.mk (zC ?_);refine (show _ = zz (qS.cell s) (qS.cell p) 17 0 from by simp only [Nat.zero_add];rfl).trans ?_;rw [zHr,hs];have e : ((eA .u8 16).rd λq=>(λx=>qS.cell p) 0 (0 + 0 + q)) = p.ip:=by
    have:=zEZ p;simp only [Nat.zero_add] at this ⊢;exact this
   rw [e];simp [vpf, *]
 all_goals (refine Done.mk (zC ?_);simp [vpf, *])
def Zy (c : Ctx) : Pfx:=⟨c.ip,c.bits⟩
theorem YL (c : Ctx) : qS.rd (λq=>zb.cell c (1 + q)) = Zy c:=by
 show (⟨λq=>qY (zb.cell c (1 + (0 + q.1))),qY (zb.cell c (1 + 16))⟩ : Pfx) = _;have:=eCtx_ip c;simp only [Nat.zero_add];rw [this];rfl
def qX : Int -> List Ctx -> Bool
 | _,[]=>true
 | b,c :: l=>decide (b < c.id) && decide (c.id < 16) && vpf (Zy c) && vt c.til && qX c.id l
def Zd (l : List Ctx) : Bool:=qX (-1) l
def LE2 : Qb:=(129,some (ZH (AC.cons (cE qS) AC.nil) (λ_=>True) (λa=>vpf a.1) cB.enc)) ::
 (124,some (ZH (AC.cons (cI .i64) AC.nil) (λ_=>True) (λa=>vt a.1) cB.enc)) ::
 (130,some (ZH (AC.cons (cE zb) (AC.cons (cI .i64) AC.nil)) (λ_=>True) (λa=>Qz a.1 a.2.1) cB.enc)) ::
 (125,some (ZH (AC.cons (cE zb) (AC.cons (cI .i64) AC.nil)) (λ_=>True) (λa=>zAt a.1 a.2.1) cB.enc)) :: LE1
theorem LE2_ok : ZC Tryz.prog LE2:=⟨zO ⟨_,Tryz.func129,rfl,by kernel_rfl⟩ λa _=>vpf_ok a.1,zO ⟨_,Tryz.func124,rfl,by kernel_rfl⟩ λa _=>vt_ok a.1,zO ⟨_,Tryz.func130,rfl,by kernel_rfl⟩ λa _=>compr_ok a.1 a.2.1,zO ⟨_,Tryz.func125,rfl,by kernel_rfl⟩ λa _=>decom_ok a.1 a.2.1,LE1_ok⟩
theorem Yh {l : List Ctx} {i : Nat} (b : Int) (h : i < l.length) : qX b (l.drop i) = (decide (b < (l.getD i default).id) && decide ((l.getD i default).id < 16) && vpf (Zy (l.getD i default)) && vt (l.getD i default).til && qX (l.getD i default).id (l.drop (i + 1))):=by
 have : l.drop i = l.getD i default :: l.drop (i + 1):=by
  rw [List.drop_eq_getElem_cons h,List.getD_eq_getElem?_getD,List.getElem?_eq_getElem h];rfl
 rw [this,qX]
theorem valid_ok (l : List Ctx) (hl : l.length <= 9223372036854775807) : zY Tryz.prog 105 [(qf zb zq).enc l] (cB.enc (Zd l)):=by
 refine zG (wd:=1) (by decide) zM (zT LE2_ok) zN Tryz.func105 rfl _ (by show 1 <= _;decide) _ ?_;refine zp (ZE LE2_ok) (λs : {s : Nat × Int // s.1 <= l.length /\ Zd l = qX s.2 (l.drop s.1)}=>(⟨[(3,one (.int .i64 s.1.2)),(6,one (.sl false l.length zb.sz (zn zb l))),(7,one (.int .i64 (l.length : Int))),(8,one (.int .i64 (s.1.1 : Int)))],[],5⟩ : Hd)) (λs=>l.length - s.1.1) (λ_=>rfl) ?_ ⟨(0,-1),by simp,rfl⟩ [] ?_
 . rintro ⟨⟨i,b⟩,hi,hv⟩;dsimp only at hi hv ⊢;repeat' (first | (apply And.intro<;>intro hc<;>(first | exact Bool.noConfusion hc | (simp only [qm] at hc) | skip)) | (refine And.intro Ql ?_) | (apply And.intro) | (intro s hs))
   . have h:=Yh b (l:=l) (i:=i) (by omega);simp only [Int.toNat_natCast] at *;refine Done.mk (zC ?_);rw [hv,h,decide_eq_false (p:=b < _) (by omega)];rfl
   . have h:=Yh b (l:=l) (i:=i) (by omega);simp only [Int.toNat_natCast] at *;refine Done.mk (zC ?_);rw [hv,h,decide_eq_false (p:=_ < (16 : Int)) (by omega)];simp
   . have h:=Yh b (l:=l) (i:=i) (by omega);have hs' : s = vpf (Zy (l.getD i default)):=by
      rw [hs,<- YL];simp only [Int.toNat_natCast,Nat.zero_add];rfl
     have hf : s = false:=by assumption
     refine Done.mk (zC ?_);rw [hv,h,<- hs',hf];simp
   . have h:=Yh b (l:=l) (i:=i) (by omega);have hs' : s = vt (l.getD i default).til:=hs;refine Done.mk (zC ?_);rw [hv,h,<- hs',hc];simp
   . have h:=Yh b (l:=l) (i:=i) (by omega);rename_i s1 hs1 hc1;have hs1' : s1 = vpf (Zy (l.getD i default)):=by
      rw [hs1,<- YL];simp only [Int.toNat_natCast,Nat.zero_add];rfl
     have hs' : s = vt (l.getD i default).til:=hs;have hd1 : ¬ (l.getD i default).id <= b:=by assumption
     have hd2 : ¬ 16 <= (l.getD i default).id:=by assumption
     refine ⟨⟨(i + 1,(l.getD i default).id),by dsimp only;omega,?_⟩,[],by dsimp only;omega,rfl,?_,?_⟩
     . dsimp only;have d1 : decide (b < (l.getD i default).id) = true:=decide_eq_true (by omega);have d2 : decide ((l.getD i default).id < 16) = true:=decide_eq_true (by omega);rw [hv,h,<- hs',<- hs1',hc,hc1,d1,d2];rfl
     . repeat' (first | exact qH | refine zF ?_ | refine zC ?_ | exact qI | apply And.intro)
       refine (IntWalk.i64_in _ ?_).trans ?_
       . constructor<;>omega
       . dsimp only;omega
     . exact QI
   . refine Done.mk (zC ?_);have : i = l.length:=by omega
     subst this;rw [hv,List.drop_length];rfl
 . refine ⟨rfl,?_,?_⟩
   . exact QI
   . exact QI
def LE3 : Qb:=(105,some (ZH (AC.cons (qf zb zq) AC.nil) (λa=>a.1.length <= 9223372036854775807) (λa=>Zd a.1) cB.enc)) :: LE2
theorem zFR : ZC Tryz.prog LE3:=⟨zO ⟨_,Tryz.func105,rfl,by kernel_rfl⟩ λa h=>valid_ok a.1 h,LE2_ok⟩
def qc (id now : Int) : List Ctx -> Ctx × Bool
 | []=>(default,false)
 | c :: l=>if c.id = id /\ zAt c now = true then (c,true) else qc id now l
def zK (l : List Ctx) (id now : Int) : Ctx × Bool:=if Zd l = true /\ vt now = true then qc id now l else (default,false)
def zCg (r : Ctx × Bool) : FV:=.tup [.agg zb.sz (zb.cell r.1),.c (.bool r.2)]
theorem zU (l : List Ctx) : Zw zb l.length (zn zb l) = l:=toL_row zAc l
theorem forDec_ok (l : List Ctx) (id now : Int) (hl : l.length <= 9223372036854775807) : zY Tryz.prog 95 [(qf zb zq).enc l,(cI .i64).enc id,(cI .i64).enc now] (zCg (zK l id now)):=by
 refine zG (wd:=1) (by decide) zM (zT zFR) zN Tryz.func95 rfl _ (by show 3 <= _;decide) _ ?_;repeat' (first | (apply And.intro<;>intro hc<;>(first | exact Bool.noConfusion hc | (simp only [qm] at hc) | skip)) | (refine And.intro Ql ?_) | (apply And.intro) | (intro s hs))
 . show (Zw zb l.length (zn zb l)).length <= _;rw [zU];exact hl
 . have hs' : s = Zd l:=by rw [hs,zU]
   have hf : s = false:=by assumption
   have e : zK l id now = (default,false):=by simp [zK,<- hs',hf]
   rw [e];refine Done.mk (zE ?_);repeat' (first | exact zw2 | refine zd ?_ | exact zH ‹_› | apply And.intro)
 . have hs' : s = vt now:=hs;have e : zK l id now = (default,false):=by simp [zK,<- hs',hc]
   rw [e];refine Done.mk (zE ?_);repeat' (first | exact zw2 | refine zd ?_ | exact zH ‹_› | apply And.intro)
 . rename_i s1 hs1 hc1;have hs1' : s1 = Zd l:=by rw [hs1,zU]
   have hs' : s = vt now:=hs;have e : zK l id now = qc id now l:=by simp [zK,<- hs',<- hs1',hc,hc1]
   rw [e];clear hs hs1 hs' hs1' hc hc1 e;refine zp (ZE zFR) (λi : {i : Nat // i <= l.length /\ qc id now l = qc id now (l.drop i)}=>(⟨[(1,one (.int .i64 id)),(2,one (.int .i64 now)),(6,one (.ptr 0 0 0 false)),(19,one (.sl false l.length zb.sz (zn zb l))),(20,one (.int .i64 (l.length : Int))),(21,one (.int .i64 (i.1 : Int)))],
    [(0,some ⟨60,1,20,true,λ_ _=>.top⟩)],13⟩ : Hd)) (λi=>l.length - i.1) (λ_=>rfl) ?_ ⟨0,by omega,rfl⟩ [] ?_
   . rintro ⟨i,hi,hv⟩;dsimp only at hi hv ⊢;repeat' (first | (apply And.intro<;>intro hc<;>(first | exact Bool.noConfusion hc | (simp only [qm] at hc) | skip)) | (refine And.intro Ql ?_) | (apply And.intro) | (intro s hs))
     . have hs' : s = zAt (l.getD i default) now:=by
        rw [hs];simp only [Int.toNat_natCast,Nat.zero_add];show zAt (zb.rd (zb.cell (l.getD i default))) now = _;rw [zAc]
       have hid : (l.getD i default).id = id:=by assumption
       have e : qc id now l = (l.getD i default,true):=by
        rw [hv,qy (by omega),qc,if_pos ⟨hid,by rw [<- hs'];exact hc⟩]
       rw [e];refine Done.mk (zE ?_);repeat' (first | exact zw2 | refine zd ?_ | exact zH ‹_› | apply And.intro)
     . have hs' : s = zAt (l.getD i default) now:=by
        rw [hs];simp only [Int.toNat_natCast,Nat.zero_add];show zAt (zb.rd (zb.cell (l.getD i default))) now = _;rw [zAc]
       refine ⟨⟨i + 1,by omega,?_⟩,[],by dsimp only;omega,rfl,?_,?_⟩
       . rw [hv,qy (by omega),qc,if_neg];rw [<- hs',hc];simp
       . repeat' (first | exact qH | refine zF ?_ | refine zC ?_ | exact qI | apply And.intro)
         refine (IntWalk.i64_in _ ?_).trans ?_
         . constructor<;>omega
         . dsimp only;omega
       . exact QI
     . have hid : (l.getD i default).id ≠ id:=by assumption
       refine ⟨⟨i + 1,by omega,?_⟩,[],by dsimp only;omega,rfl,?_,?_⟩
       . rw [hv,qy (by omega),qc,if_neg];exact λh=>hid h.1
       . repeat' (first | exact qH | refine zF ?_ | refine zC ?_ | exact qI | apply And.intro)
         refine (IntWalk.i64_in _ ?_).trans ?_
         . constructor<;>omega
         . dsimp only;omega
       . exact QI
     . have hil : i = l.length:=by omega
       have e : qc id now l = (default,false):=by rw [hv,hil,List.drop_length];rfl
       rw [e];refine Done.mk (zE ?_);repeat' (first | exact zw2 | refine zd ?_ | exact zH ‹_› | apply And.intro)
   . refine ⟨rfl,?_,?_⟩
     . exact QI
     . exact QI
end Go.Proofs.YtjknkfjhcapocaaGreatDoor.AX
