/- Texts of one's own in one file: Ma5, Mkn, Mra, Mtd, Mrb, Mqs, Ml8, Ms1, Ms2, Ms4, Ms5, Ms6, Ms3, Ms7, Mqc, Mrc, Mrd, Mre, Mri. -/
import Derived.Test.YtfaibcgakcmhcaaJMulticastStepsc
set_option linter.unusedVariables false
set_option linter.unusedSimpArgs false
set_option maxHeartbeats 16000000
set_option maxRecDepth 20000
namespace Go.Proofs.Ytfaibcgakcmhcaa.AX
open Go.RowKit
theorem zCS {t : Int} (h : zx t = true) : 0 <= t /\ t <= 1099511627776:=by
 unfold zx at h;simp only [Bool.and_eq_true,decide_eq_true_eq] at h;omega
theorem Ys {s V : Bool} {M L : List Sed} (hs : s = ZC M) (h : M = L) (hV : ZC L = V) : V = s:=by rw [hs,h,hV]
theorem rd_fnd {s F : Nat × Bool} {id : Int} {M L : List Sed} (hs : s = Zq id M 0) (h : M = L) (hF : Zq id L 0 = F) : F = s:=by rw [hs,h,hF]
theorem acc1 (L : List Sed) (now : Int) (c : Cas) (deaf : Bool) (draw : Int) (hL : LHn L) (hdr : ZM draw) : zBu Try.prog 11 [(Yl ZF qA).enc L,(cI .i64).enc now,(cN Zr).enc c,cB.enc deaf,(cI .u32).enc draw] (some (qB L now c deaf draw).1.length) (qE (qB L now c deaf draw)) (ZL ZF 78 (qB L now c deaf draw).1):=by
 obtain ⟨R,hR⟩ : ∃ R,qB L now c deaf draw = R:=⟨_,rfl⟩;rw [hR];obtain ⟨g,hg⟩ : ∃ g,(if (Zq c.id L 0).2 = true then (Zq c.id L 0).1 else L.length) = g:=⟨_,rfl⟩;obtain ⟨V,hV⟩ : ∃ V,ZC L = V:=⟨_,rfl⟩;obtain ⟨F,hF⟩ : ∃ F,Zq c.id L 0 = F:=⟨_,rfl⟩;obtain ⟨B,hB⟩ : ∃ B,zx now = B:=⟨_,rfl⟩;obtain ⟨g1,g2,g3⟩:=zg3;have hV0 : V = false -> R = ([],false,1):=λh=>by rw [<- hR];unfold qB;rw [if_pos (.inl (hV.trans h))]
 have hI0 : c.id = 0 -> R = ([],false,1):=λh=>by rw [<- hR];unfold qB;rw [if_pos (.inr (.inl h))]
 have hD0 : 64 < c.data.length -> R = ([],false,1):=λh=>by rw [<- hR];unfold qB;rw [if_pos (.inr (.inr h))]
 have h1 : V = true -> ¬ c.id = 0 -> ¬ 64 < c.data.length -> R = if zx now = false \/ c.num < 0 \/ 1073741824 <= c.num then ([],false,2) else
  if F.2 = false /\ 8 <= L.length then ([],false,10) else
  ((Qm c L).set F.1 (ZZ ((Qm c L).getD F.1 default) now c deaf draw).1,(ZZ ((Qm c L).getD F.1 default) now c deaf draw).2,0):=λha hb hd=>by
  rw [<- hR];unfold qB;rw [if_neg (by rw [hV,ha];simp;omega),hF]
 clear hR;refine zDt zM Try.func11 rfl _ (by show 5 <= _;decide) (λi _ j hj=>zEZ _ hj) ?_;refine zK (wd:=1) (Q:=Zt (qX g)) (by decide) zM (zb (zX g)) zN ?_;refine zK (wd:=1) (Q:=Zt (qX g)) (by decide) zM (zb (zX g)) zN ?_;repeat' (first | (apply And.intro<;>intro hc<;>(first | exact Bool.noConfusion hc | (exfalso;first | exact absurd rfl hc) | (simp only [zg] at hc<;>first | exact absurd rfl hc | (exfalso;first | exact absurd rfl hc) | skip) | skip)) | (refine And.intro ze ?_) | (apply And.intro) | (intro s hs;(have q : V = s:=Ys hs (ZE ZS _) hV;clear hs;subst q)) | (refine Exists.intro _ (And.intro ⟨rfl,rfl,rfl⟩ ?_)))
 . exact λ_ _=>⟨rfl,qG _⟩
 . exact Eq.mpr (congrArg LHn (ZE ZS _)) hL
 . exact YC (hV0 ‹_›)
 . exact YC (hI0 ‹_›)
 . exact YC (hD0 (by omega))
 rename_i hi;have h2:=h1 ‹_› hi (by omega);clear h1 hV0 hI0 hD0;refine zK (wd:=1) (Q:=Zt (qX g)) (by decide) zM (zb (zX g)) zN ?_;repeat' (first | (apply And.intro<;>intro hc<;>(first | exact Bool.noConfusion hc | (exfalso;first | exact absurd rfl hc) | (simp only [zg] at hc<;>first | exact absurd rfl hc | (exfalso;first | exact absurd rfl hc) | skip) | skip)) | (refine And.intro ze ?_) | (apply And.intro) | (intro s hs;(have q : B = s:=hB.symm.trans hs.symm;clear hs;subst q)) | (refine Exists.intro _ (And.intro ⟨rfl,rfl,rfl⟩ ?_)))
 . exact YC (h2.trans (if_pos (.inl (hB.trans ‹_›))))
 . exact YC (h2.trans (if_pos (.inr (.inl ‹_›))))
 . exact YC (h2.trans (if_pos (.inr (.inr hc))))
 rename_i hn;have h3:=h2.trans (if_neg (by rw [hB,show B = true by assumption];simp;omega));clear h2;have hVt : ZC L = true:=hV.trans ‹_›;have hCl:=vl_cl hVt;have hl8:=Zp hVt;refine zK (wd:=1) (Q:=Zt (qX g)) (by decide) zM (zb (zX g)) zN ?_;repeat' (first | (apply And.intro<;>intro hc<;>(first | exact Bool.noConfusion hc | (exfalso;first | exact absurd rfl hc) | (simp only [zg] at hc<;>first | exact absurd rfl hc | (exfalso;first | exact absurd rfl hc) | skip) | skip)) | (refine And.intro ze ?_) | (apply And.intro) | (intro s hs;(have q : F = s:=rd_fnd hs (ZE ZS _) hF;clear hs;subst q)) | (refine Exists.intro _ (And.intro ⟨rfl,rfl,rfl⟩ ?_)))
 . exact λ_ _=>⟨rfl,qG _⟩
 . exact Eq.mpr (congrArg (λz : List Sed=>z.length <= 9223372036854775807) (ZE ZS _)) hL.n
 refine zK (wd:=1) (Q:=Zt (qX g)) (by decide) zM (zb (zX g)) zN ?_;repeat' (first | (apply And.intro<;>intro hc<;>(first | exact Bool.noConfusion hc | (exfalso;first | exact absurd rfl hc) | (simp only [zg] at hc<;>first | exact absurd rfl hc | (exfalso;first | exact absurd rfl hc) | skip) | skip)) | (refine And.intro ze ?_) | (apply And.intro) | (intro s hs;skip) | (refine Exists.intro _ (And.intro ⟨rfl,rfl,rfl⟩ ?_)))
 . exact YC (h3.trans (if_pos ⟨by assumption,by omega⟩))
 . rename_i hu;have h4:=h3.trans (if_neg (by omega));clear h3;rw [hF,if_neg (by rw [hu];simp)] at hg;have eA : Qm c L = Zh F.1 ⟨c.id,c.num,[]⟩ L:=by
    unfold Qm;rw [hF,if_neg (by rw [hu];simp)]
   obtain ⟨f1,_,_⟩:=zAz (id:=c.id) (L:=L) (k:=0);rw [hF,Nat.zero_add] at f1;have w1 : IntKind.i64.wrap ((F.1 : Int) + 1) = ((F.1 + 1 : Nat) : Int):=(IntWalk.i64_in _ (by omega)).trans (by omega);refine zK (wd:=2) (Q:=Zt (qX g)) (by decide) zM (zb (zX g)) zN ?_;repeat' (first | (apply And.intro<;>intro hc<;>(first | exact Bool.noConfusion hc | (exfalso;first | exact absurd rfl hc) | (simp only [zg] at hc<;>first | exact absurd rfl hc | (exfalso;first | exact absurd rfl hc) | skip) | skip)) | (refine And.intro ze ?_) | (apply And.intro) | (intro s hs;(have q : L = s:=(hs.trans (ZE ZS _)).symm;clear hs;subst q)) | (refine Exists.intro _ (And.intro ⟨rfl,rfl,rfl⟩ ?_)))
   . exact λ_ _=>⟨rfl,qG _⟩
   . exact Eq.mpr (congrArg ClI (ZE ZS _)) hCl
   change Sem _ _ _ _ _ _ _ _;refine Zf (wd:=1) (Q:=Zt (qX g)) (by decide) zM (zb (zX g)) (zT (zX g)) zN (SA (Qm c L) F.1 now c deaf draw) (by intro _;rfl) ?_ ?_
   . repeat' (first | (simp only [w1]) | (apply And.intro<;>intro hc<;>(first | exact Bool.noConfusion hc | (exfalso;first | exact absurd rfl hc | (rw [hu] at hc;exact Bool.noConfusion hc)) | (simp only [zg] at hc<;>first | exact absurd rfl hc | (exfalso;first | exact absurd rfl hc | (rw [hu] at hc;exact Bool.noConfusion hc)) | skip) | skip)) | (refine And.intro ze ?_) | (apply And.intro) | (intro s hs;skip) | (refine Exists.intro _ (And.intro ⟨rfl,rfl,rfl⟩ ?_)))
     conv=>whnf
     refine ⟨(),[(1,some 58),(2,none)],rfl,⟨zA rfl,zG rfl,zA rfl,zH rfl,zA rfl,zE (zD rfl (by rw [eA,qf f1])),trivial⟩,⟨⟨rfl,zI λj hj=>(Zr.sh _ j hj).le⟩,⟨rfl,⟨rfl,by show L.length + 1 = (Qm c L).length;rw [eA,qf f1],rfl,rfl,λp hp j hj=>?_⟩⟩,?_,trivial⟩⟩
     . have hj : j < 3:=hj;have hp : p < L.length + 1:=hp;show ZX _ _ (zBn 2 F.1 (Qm c L) p j);refine Qy (r:=zBn 50 g L) f1 ?_ hp (λh=>?_) (λh=>?_) (λh=>?_)
       . show min (L.length + 1 - F.1) (L.length + 1 - (F.1 + 1)) = _;omega
       . rw [Yb (.inl (by omega)),Yb (.inl (by omega)),eA,show zo ZF (Zh F.1 ⟨c.id,c.num,[]⟩ L) p j = zo ZF L p j from congrArg (λz=>ZF.cell z j) (YZ f1 h)];exact (ZF.sh _ j hj).le
       . subst h;rcases j with _ | _ | _ | j
         . rw [Yb (.inr (by decide)),eA,show zo ZF (Zh F.1 ⟨c.id,c.num,[]⟩ L) F.1 0 = _ from congrArg (λz=>ZF.cell z 0) (QF f1)];exact zC rfl
         . rw [Yb (.inr (by decide)),eA,show zo ZF (Zh F.1 ⟨c.id,c.num,[]⟩ L) F.1 1 = _ from congrArg (λz=>ZF.cell z 1) (QF f1)];exact zC rfl
         . rw [zCV,eA,QF f1];exact ZP rfl
         . omega
       . rw [Yb (.inl (by omega)),Yb (.inl (by omega)),eA,show zo ZF (Zh F.1 ⟨c.id,c.num,[]⟩ L) p j = zo ZF L (p - 1) j from congrArg (λz=>ZF.cell z j) (Ya f1 h)];exact (ZF.sh _ j hj).le
     . rw [eA,QF f1];exact ⟨rfl,rfl,rfl,Nat.le_of_ble_eq_true rfl⟩
   . intro _;refine acc2 g (Qm c L) F.1 now c deaf draw ⟨?_,?_,?_,?_,?_,⟨by omega,by omega⟩,by omega,zCS (hB.trans ‹_›),hdr⟩ R h4
     . rw [eA,qf f1];omega
     . rw [eA,qf f1];omega
     . rw [eA,QF f1];exact ⟨Nat.zero_le _,λx hx=>by cases hx⟩
     . rw [eA,QF f1];exact Nat.zero_le _
     . rw [eA,QF f1];exact ⟨by dsimp only;omega,by dsimp only;omega⟩
 . rename_i hu;have h4:=h3.trans (if_neg (by rw [hu];simp));clear h3;rw [hF,if_pos hu] at hg;have eA : Qm c L = L:=by
    unfold Qm;rw [hF,if_pos hu]
   obtain ⟨_,f2,_⟩:=zAz (id:=c.id) (L:=L) (k:=0);rw [hF,Nat.zero_add] at f2;have hlt:=f2 hu;refine zK (wd:=2) (Q:=Zt (qX g)) (by decide) zM (zb (zX g)) zN ?_;repeat' (first | (apply And.intro<;>intro hc<;>(first | exact Bool.noConfusion hc | (exfalso;first | exact absurd rfl hc) | (simp only [zg] at hc<;>first | exact absurd rfl hc | (exfalso;first | exact absurd rfl hc) | skip) | skip)) | (refine And.intro ze ?_) | (apply And.intro) | (intro s hs;(have q : L = s:=(hs.trans (ZE ZS _)).symm;clear hs;subst q)) | (refine Exists.intro _ (And.intro ⟨rfl,rfl,rfl⟩ ?_)))
   . exact λ_ _=>⟨rfl,qG _⟩
   . exact Eq.mpr (congrArg ClI (ZE ZS _)) hCl
   change Sem _ _ _ _ _ _ _ _;refine Zf (wd:=1) (Q:=Zt (qX g)) (by decide) zM (zb (zX g)) (zT (zX g)) zN (SA (Qm c L) F.1 now c deaf draw) (by intro _;rfl) ?_ ?_
   . repeat' (first | (apply And.intro<;>intro hc<;>(first | exact Bool.noConfusion hc | (exfalso;first | exact absurd rfl hc | (rw [hu] at hc;exact Bool.noConfusion hc)) | (simp only [zg] at hc<;>first | exact absurd rfl hc | (exfalso;first | exact absurd rfl hc | (rw [hu] at hc;exact Bool.noConfusion hc)) | skip) | skip)) | (refine And.intro ze ?_) | (apply And.intro) | (intro s hs;skip) | (refine Exists.intro _ (And.intro ⟨rfl,rfl,rfl⟩ ?_)))
     conv=>whnf
     rw [eA];subst hg;exact ⟨(),[(1,some 49),(2,some 50)],rfl,⟨zA rfl,zG rfl,zA rfl,zH rfl,zA rfl,zE (zD rfl rfl),trivial⟩,⟨⟨rfl,zI λj hj=>(Zr.sh _ j hj).le⟩,⟨rfl,⟨rfl,rfl,rfl,rfl,λp hp j hj=>zDE hj λ_=>rfl⟩⟩,⟨rfl,zB⟩,trivial⟩⟩
   . intro _;have hS:=(qk hVt _ (QX hlt)).2;refine acc2 g (Qm c L) F.1 now c deaf draw ⟨?_,?_,?_,?_,?_,⟨by omega,by omega⟩,by omega,zCS (hB.trans ‹_›),hdr⟩ R h4
     . rw [eA];exact hlt
     . rw [eA];omega
     . rw [eA];exact hS.k
     . rw [eA];exact hS.n
     . rw [eA];exact hS.mn
structure AccP (L : List Sed) (d : Int) : Prop where
 h : LHn L
 d : ZM d
abbrev acceptE : Zm:=newE (AC.cons (Yl ZF qA) (AC.cons (cI .i64) (AC.cons (cN Zr) (AC.cons cB (AC.cons (cI .u32) AC.nil))))) (λa=>AccP a.1 a.2.2.2.2.1) (λa=>qB a.1 a.2.1 a.2.2.1 a.2.2.2.1 a.2.2.2.2.1) (λs=>some s.1.length) qE (λs=>ZL ZF 78 s.1)
theorem zGA : EntOk Try.prog 11 acceptE:=zB5 ⟨_,Try.func11,rfl,by kernel_rfl⟩ (λs l h x hx=>by
 injection h with h;subst h;rcases List.mem_cons.1 hx with rfl | hx
 . exact nfE_c zEe
 . rcases List.mem_cons.1 hx with rfl | hx
   . exact nfE_c zBy
   . cases hx) λa h=>acc1 a.1 a.2.1 a.2.2.1 a.2.2.2.1 a.2.2.2.2.1 h.h h.d
theorem vl_hn {L : List Sed} (h : ZC L = true) : LHn L:=⟨λx hx=>by have:=(qk h x hx).2.n;omega,by have:=Zp h;omega⟩
theorem okD_nil : okD .nils:=by first | exact trivial | exact .nils | exact .inl rfl | exact rfl
def kc35 : Cas:=⟨7,5,[1]⟩
def ka35 : List Sed × Bool × Int:=qB [] 3 kc35 false 0
def kb35 : List Sed × Bool × Int:=qB ka35.1 4 kc35 false 0
def kd35 : List Sed × Bool × Int:=qB kb35.1 4 ⟨7,4,[]⟩ false 0
theorem kn35 : ka35.2 = (true,0) /\ kb35.2 = (false,0) /\ kd35.2 = (false,0) /\ kb35.1.length = 1 /\ (kb35.1.getD 0 default).held.length = 1 /\ ((kb35.1.getD 0 default).held.getD 0 default).tm.heard = 1:=by decide +kernel
theorem rd_acc {s K : List Sed × Bool × Int} {M L : List Sed} {now : Int} {c c' : Cas} {deaf : Bool} {draw : Int} (hs : s = qB M now c' deaf draw) (h : M = L) (hc : c' = c) (hK : qB L now c deaf draw = K) : K = s:=by rw [hs,h,hc,hK]
def LMd : CsL:=(11,some acceptE) :: []
theorem zE2 : qU Try.prog LMd:=⟨zGA,trivial⟩
def SKn (_ : Unit) : Hd:=⟨[(1,zO (.ptr 0 0 0 false))],[(0,some ⟨32,1,3,true,λ_=>Zr.cell kc35⟩)],1⟩
theorem dr0 : ZM 0:=by unfold ZM;omega
theorem zF9 : Zc Try.prog 12 [] (cB.enc true):=by
 obtain ⟨k1,k2,k3,k4,k5,k6⟩:=kn35;have v1 : LHn ka35.1:=vl_hn (zBw (by decide) (congrArg Prod.snd k1));have v2 : LHn kb35.1:=vl_hn (zBw (by decide) (congrArg Prod.snd k2));obtain ⟨A,eA⟩ : ∃ A,ka35 = A:=⟨_,rfl⟩;obtain ⟨B,eB'⟩ : ∃ A,kb35 = A:=⟨_,rfl⟩;obtain ⟨D,eD⟩ : ∃ A,kd35 = A:=⟨_,rfl⟩;have hA : qB [] 3 kc35 false 0 = A:=eA;have hB : qB A.1 4 kc35 false 0 = B:=by rw [<- eA];exact eB'
 have hD : qB B.1 4 ⟨7,4,[]⟩ false 0 = D:=by rw [<- eB'];exact eD
 rw [eA] at k1 v1;rw [eB'] at k2 k4 k5 k6 v2;rw [eD] at k3;clear eA eB' eD;obtain ⟨a1,a2,a3⟩:=A;obtain ⟨b1,b2,b3⟩:=B;obtain ⟨d1,d2,d3⟩:=D;dsimp only at k1 k2 k3 k4 k5 k6 v1 v2;injection k1 with k1 k1';injection k2 with k2 k2';injection k3 with k3 k3';subst k1 k1' k2 k2' k3 k3';refine zFZ zM Try.func12 rfl _ (by show 0 <= _;decide) _ ?_;refine zK (wd:=1) (by decide) zM (zb zE2) zN ?_;change Sem _ _ _ _ _ _ _ _;refine Zf (wd:=1) (by decide) zM (zb zE2) (zT zE2) zN SKn (by intro _;rfl) ?_ ?_
 . conv=>whnf
   refine ⟨(),[(0,some 3)],rfl,⟨zH rfl,trivial⟩,⟨⟨rfl,zI λj hj=>?_⟩,trivial⟩⟩;rcases j with _ | _ | _ | j
   . exact zC rfl
   . exact zC rfl
   . refine zy rfl rfl rfl rfl (Nat.le_refl _) λq hq j hj=>?_;rcases q with _ | q
     . rcases j with _ | j
       . exact zC rfl
       . exact absurd hj (by show ¬ _ < 1;omega)
     . exact absurd hq (by omega)
   . exact absurd hj (by show ¬ _ < 3;omega)
 intro _;refine QP (wd:=1) (by decide) zM (zb zE2) zN ?_;repeat' (first | (apply And.intro<;>intro hc<;>(first | exact Bool.noConfusion hc | (exfalso;first | exact absurd rfl hc | omega) | (simp only [zg] at hc<;>first | exact absurd rfl hc | (exfalso;first | exact absurd rfl hc | omega) | skip) | skip)) | (refine And.intro ze ?_) | (apply And.intro) | (intro s hs;(first | (have q:=rd_acc hs rfl (zEb _) hA;clear hs;subst q) | (have q:=rd_acc hs (zL ZS _) (zEb _) hB;clear hs;subst q) | (have q:=rd_acc hs (zL ZS _) rfl hD;clear hs;subst q))) | (refine Exists.intro _ (And.intro ⟨rfl,rfl,rfl⟩ ?_)))
 . exact ⟨rfl,zl _⟩
 . exact ⟨⟨λx hx=>(List.not_mem_nil hx).elim,Nat.zero_le _⟩,dr0⟩
 . exact λ_ _=>⟨rfl,qG _⟩
 . exact ⟨rfl,zl _⟩
 . exact ⟨Eq.mpr (congrArg LHn (zL ZS _)) v1,dr0⟩
 . exact λ_ _=>⟨rfl,qG _⟩
 . exact ⟨rfl,okD_nil⟩
 . exact ⟨Eq.mpr (congrArg LHn (zL ZS _)) v2,dr0⟩
 . conv=>whnf
   exact Done.mk (zG (decide_eq_true k6))
 . exact absurd (congrArg (λn : Nat=>(n : Int)) k5) hc
abbrev zFb : Zm:=qy AC.nil (λ_=>True) (λ_=>true) cB.enc
theorem zFc : EntOk Try.prog 12 zFb:=zu ⟨_,Try.func12,rfl,by kernel_rfl⟩ λa _=>zF9
structure LHp (L : List Sed) : Prop where
 h : LHn L
 i : ∀ x ∈ L,0 <= x.id
def zAH (L : List Sed) (i : Nat) : Int:=if i = 0 then 0 else (L.getD (i - 1) default).id
def zCv (mn : Int) (L : List Hel) (k : Nat) : Int:=if k = 0 then mn - 1 else (L.getD (k - 1) default).num
structure RvI (L : List Hel) (mn : Int) (V : Bool) where
 k : Nat
 hk : k <= L.length
 hV : Zb mn (zCv mn L k) (L.drop k) = V
 hg : k ≠ 0 -> mn <= (L.getD (k - 1) default).num
def LRa : CsL:=(69,some zCo) :: (63,some zC3) :: []
theorem zEW : qU Try.prog LRa:=⟨zu ⟨_,Try.func69,rfl,by kernel_rfl⟩ λa h=>TkR.valid_ok _,zu ⟨_,Try.func63,rfl,by kernel_rfl⟩ λa _=>TkR.tkTime_ok a.1,trivial⟩
structure RvN (L : List Hel) (mn : Int) (k : Nat) (V : Bool) : Prop where
 n1 : (L.getD k default).num < mn -> false = V
 n2 : mn + 31 < (L.getD k default).num -> false = V
 n3 : 1073741824 <= (L.getD k default).num -> false = V
 n4 : 64 < (L.getD k default).data.length -> false = V
 n5 : ZQ (L.getD k default).tm = false -> false = V
 n6 : zx (L.getD k default).til = false -> false = V
 n7 : k ≠ 0 -> (L.getD k default).num <= (L.getD (k - 1) default).num -> false = V
 y : ¬ (L.getD k default).num < mn -> ¬ mn + 31 < (L.getD k default).num -> ¬ 1073741824 <= (L.getD k default).num -> ¬ 64 < (L.getD k default).data.length -> ZQ (L.getD k default).tm = true -> zx (L.getD k default).til = true -> (k = 0 \/ ¬ (L.getD k default).num <= (L.getD (k - 1) default).num) -> Zb mn (zCv mn L (k + 1)) (L.drop (k + 1)) = V
theorem rv_step {L : List Hel} {mn : Int} {V : Bool} {k : Nat} (hk : k < L.length) (hV : Zb mn (zCv mn L k) (L.drop k) = V) (hg : k ≠ 0 -> mn <= (L.getD (k - 1) default).num) : RvN L mn k V:=by
 have hs:=vh_step hk hV;have hp : mn - 1 <= zCv mn L k:=by
  unfold zCv;split
  . exact Int.le_refl _
  . have:=hg ‹_›;omega
 have e : ∀ {a b c d e f g : Bool},V = (a && b && c && d && e && f && g) -> (a = false \/ b = false \/ c = false \/ d = false \/ e = false \/ f = false) -> false = V:=by
  intro a b c d e f g h h2;rw [h];rcases h2 with rfl | rfl | rfl | rfl | rfl | rfl<;>simp
 refine ⟨λg=>e hs (.inl (decide_eq_false (by omega))),λg=>e hs (.inr (.inl (decide_eq_false (by omega)))),λg=>e hs (.inr (.inr (.inl (decide_eq_false (by omega))))),λg=>e hs (.inr (.inr (.inr (.inl (decide_eq_false (by omega)))))),λg=>e hs (.inr (.inr (.inr (.inr (.inl g))))),λg=>e hs (.inr (.inr (.inr (.inr (.inr g))))),λg1 g2=>e hs (.inl (decide_eq_false (by unfold zCv;rw [if_neg g1];omega))),λg1 g2 g3 g4 g5 g6 g7=>?_⟩;rw [hs];show Zb mn (L.getD k default).num (L.drop (k + 1)) = _;rw [decide_eq_true (p:=zCv mn L k < (L.getD k default).num) (by
  unfold zCv;split
  . omega
  . rcases g7 with g7 | g7
    . exact absurd g7 ‹_›
    . omega),decide_eq_true (p:=(L.getD k default).num < mn + 32) (by omega),decide_eq_true (p:=(L.getD k default).num < 1073741824) (by omega),decide_eq_true (p:=(L.getD k default).data.length <= 64) (by omega),g5,g6]
 simp
theorem prevI_nn {L : List Sed} (hL : LHp L) {i : Nat} (hi : i <= L.length) : 0 <= zAH L i:=by
 unfold zAH;split
 . exact Int.le_refl _
 . exact hL.i _ (zj (by omega))
theorem zBZ (L : List Sed) (hL : LHp L) : Zc Try.prog 40 [(Yl ZF qA).enc L] (cB.enc (ZC L)):=by
 have hn:=hL.h.n;unfold ZC;obtain ⟨V,hV⟩ : ∃ V,Zx 0 L = V:=⟨_,rfl⟩;rw [hV];refine zr (wd:=1) (by decide) zM (zb zEW) zN Try.func40 rfl _ (by show 1 <= _;decide) _ ?_;repeat' (first | (apply And.intro<;>intro hc<;>(first | exact Bool.noConfusion hc | (exfalso;first | exact absurd rfl hc | omega) | (simp only [zg] at hc<;>first | exact absurd rfl hc | (exfalso;first | exact absurd rfl hc | omega) | skip) | skip)) | (refine And.intro ze ?_) | (apply And.intro) | (intro s hs;skip))
 . refine Done.mk (zG ?_);rw [decide_eq_false (p:=L.length <= 8) (by omega)];rfl
 have hl8 : L.length <= 8:=by omega
 rw [decide_eq_true (p:=L.length <= 8) hl8,Bool.true_and];conv=>whnf
 refine zQ (zT zEW) (λs : {i : Nat // i <= L.length /\ Zx (zAH L i) (L.drop i) = V}=>(⟨[(0,zO (qY ZF L)),(10,zO (qY ZF L)),(11,zO (.int .i64 (L.length : Int))),(12,zO (.int .i64 (s.1 : Int)))],[],1⟩ : Hd)) (λs=>L.length - s.1) (λ_=>rfl) ?_ ⟨0,Nat.zero_le _,hV⟩ [] ⟨rfl,⟨zE (zm (zc L)),zE (zm (zc L)),zA rfl,zA rfl,trivial⟩,trivial⟩;rintro ⟨i,hi,hVi⟩;dsimp only at hi hVi ⊢;unfold qY;by_cases hil : i < L.length
 . have hst:=vs_step hil hVi;obtain ⟨x,ex⟩ : ∃ x,L.getD i default = x:=⟨_,rfl⟩;have hx0 : 0 <= x.id:=by rw [<- ex];exact hL.i _ (zj hil)
   have hxn : x.held.length <= 9223372036854775807:=by rw [<- ex];exact hL.h.h _ (zj hil)
   rw [ex] at hst;have z0 : (i : Int).toNat = i:=rfl;have zi : ((i : Int) - 1).toNat = i - 1:=by omega
   have ec : zo ZF L i = ZF.cell x:=congrArg ZF.cell ex;have w3 : IntKind.i64.wrap ((i : Int) + 1) = ((i + 1 : Nat) : Int):=(IntWalk.i64_in _ (by omega)).trans (by omega);have w4 : IntKind.i64.wrap ((i : Int) - 1) = (i : Int) - 1:=IntWalk.i64_in _ (by omega);repeat' (first | (simp only [z0,ec,w4]) | (apply And.intro<;>intro hc<;>(first | exact Bool.noConfusion hc | (exfalso;first | exact absurd rfl hc | omega) | (simp only [zg] at hc<;>first | exact absurd rfl hc | (exfalso;first | exact absurd rfl hc | omega) | skip) | skip)) | (refine And.intro ze ?_) | (apply And.intro) | (intro s hs;skip))
   . refine Done.mk (zG ?_);have : x.id = 0:=by assumption
     rw [hst,decide_eq_false (p:=zAH L i < x.id) (by have:=prevI_nn hL (by omega : i <= L.length);omega)];rfl
   . refine Done.mk (zG ?_);rw [hst];unfold qc;rw [decide_eq_false (p:=0 <= x.mn) (by omega)];simp
   . refine Done.mk (zG ?_);rw [hst];unfold qc;rw [decide_eq_false (p:=x.mn <= 1073741824) (by omega)];simp
   . refine Done.mk (zG ?_);rw [hst];unfold qc;rw [decide_eq_false (p:=x.held.length <= 32) (by omega)];simp
   . refine Done.mk (zG ?_);rw [hst,decide_eq_false (p:=zAH L i < x.id) (by unfold zAH;rw [if_neg (by omega)];have h:=hc;rw [zi] at h;omega)];rfl
   . have hle2 : zAH L i < x.id:=by unfold zAH;rw [if_neg (by omega)];have h:=hc;rw [zi] at h;omega
     have hVe : V = (Zb x.mn (x.mn - 1) x.held && Zx x.id (L.drop (i + 1))):=by
      rw [hst,decide_eq_true (p:=zAH L i < x.id) hle2];unfold qc;rw [decide_eq_true (p:=0 <= x.mn) (by omega),decide_eq_true (p:=x.mn <= 1073741824) (by omega),decide_eq_true (p:=x.held.length <= 32) (by omega)];simp
     obtain ⟨U,hU⟩ : ∃ U,Zb x.mn (x.mn - 1) x.held = U:=⟨_,rfl⟩;rw [hU] at hVe;have hUf : false = U -> false = V:=λh=>by rw [hVe,<- h];rfl
     have hx32 : x.held.length <= 32:=by omega
     have hm0 : 0 <= x.mn:=by omega
     have hm1 : x.mn <= 1073741824:=by omega
     conv=>whnf
     refine zQ (zT zEW) (λs : RvI x.held x.mn U=>(⟨[(0,zO (qY ZF L)),(10,zO (qY ZF L)),(11,zO (.int .i64 (L.length : Int))),(12,zO (.int .i64 (i : Int))),(4,zO (.ptr 1 0 0 false)),(52,zO (slN zn x.held)),(53,zO (.int .i64 (x.held.length : Int))),(54,zO (.int .i64 (s.k : Int)))],[(1,some ⟨78,1,3,true,λ_=>ZF.cell x⟩)],2⟩ : Hd)) (λs=>x.held.length - s.k) (λ_=>rfl) ?_ ⟨0,Nat.zero_le _,hU,λh=>absurd rfl h⟩ [(1,some 5)] ⟨rfl,⟨zE (zm (zc L)),zE (zm (zc L)),zA rfl,zA rfl,zH rfl,zE (qO _).le,zA rfl,zA rfl,trivial⟩,⟨rfl,zI λj hj=>(ZF.sh _ j hj).le⟩,trivial⟩;rintro ⟨k,hk,hVk,hgk⟩;dsimp only at hk hVk hgk ⊢;by_cases hkl : k < x.held.length
     . have hr:=rv_step hkl hVk hgk;have zk : (k : Int).toNat = k:=rfl;have w5 : IntKind.i64.wrap ((k : Int) + 1) = ((k + 1 : Nat) : Int):=(IntWalk.i64_in _ (by omega)).trans (by omega);have w6 : IntKind.i64.wrap ((k : Int) - 1) = (k : Int) - 1:=IntWalk.i64_in _ (by omega);have w7 : IntKind.i64.wrap (x.mn + 31) = x.mn + 31:=IntWalk.i64_in _ (by omega);have zp : ((k : Int) - 1).toNat = k - 1:=by omega
       obtain ⟨h,eh⟩ : ∃ h,x.held.getD k default = h:=⟨_,rfl⟩;have eck : zo zn x.held k = zn.cell h:=congrArg zn.cell eh;obtain ⟨n1,n2,n3,n4,n5,n6,n7,ny⟩:=hr;rw [eh] at n1 n2 n3 n4 n5 n6 n7 ny;obtain ⟨A,eA⟩ : ∃ A,ZQ h.tm = A:=⟨_,rfl⟩;obtain ⟨B,eB'⟩ : ∃ A,zx h.til = A:=⟨_,rfl⟩;rw [eA] at n5 ny;rw [eB'] at n6 ny;repeat' (first | (simp only [zk,eck,w6,w7,zp]) | (apply And.intro<;>intro hc<;>(first | exact Bool.noConfusion hc | (exfalso;first | exact absurd rfl hc | omega) | (simp only [zg] at hc<;>first | exact absurd rfl hc | (exfalso;first | exact absurd rfl hc | omega) | skip) | skip)) | (refine And.intro ze ?_) | (apply And.intro) | (intro s hs;(first | (have q : A = s:=eA.symm.trans hs.symm;clear hs;subst q) | (have q : B = s:=eB'.symm.trans hs.symm;clear hs;subst q))))
       . exact Done.mk (zG (hUf (n1 (by omega))))
       . exact Done.mk (zG (hUf (n2 (by omega))))
       . exact Done.mk (zG (hUf (n3 (by omega))))
       . exact Done.mk (zG (hUf (n4 (by omega))))
       . exact Done.mk (zG (hUf (n5 ‹_›)))
       . exact Done.mk (zG (hUf (n6 ‹_›)))
       . exact Done.mk (zG (hUf (n7 (by omega) (by omega))))
       . conv=>whnf
         exact ⟨⟨k + 1,hkl,ny (by omega) (by omega) (by omega) (by omega) ‹_› ‹_› (.inr (by omega)),λ_=>by show x.mn <= (x.held.getD k default).num;rw [eh];omega⟩,[],by dsimp only;omega,rfl,⟨zE (zm (zc L)),zE (zm (zc L)),zA rfl,zA rfl,zH rfl,zE (qO _).le,zA rfl,zA w5,trivial⟩,⟨rfl,zI λj hj=>(ZF.sh _ j hj).le⟩,trivial⟩
       . conv=>whnf
         exact ⟨⟨k + 1,hkl,ny (by omega) (by omega) (by omega) (by omega) ‹_› ‹_› (.inl (by omega)),λ_=>by show x.mn <= (x.held.getD k default).num;rw [eh];omega⟩,[],by dsimp only;omega,rfl,⟨zE (zm (zc L)),zE (zm (zc L)),zA rfl,zA rfl,zH rfl,zE (qO _).le,zA rfl,zA w5,trivial⟩,⟨rfl,zI λj hj=>(ZF.sh _ j hj).le⟩,trivial⟩
     . have hUt : U = true:=by rw [<- hVk,List.drop_of_length_le (by omega)];rfl
       have hnx : Zx (zAH L (i + 1)) (L.drop (i + 1)) = V:=by rw [hVe,hUt,Bool.true_and];unfold zAH;rw [if_neg (Nat.succ_ne_zero i),Nat.add_sub_cancel,ex]
       repeat' (first | (apply And.intro<;>intro hc<;>(first | exact Bool.noConfusion hc | (exfalso;first | exact absurd rfl hc | omega) | (simp only [zg] at hc<;>first | exact absurd rfl hc | (exfalso;first | exact absurd rfl hc | omega) | skip) | skip)) | (refine And.intro ze ?_) | (apply And.intro) | (intro s hs;skip))
       conv=>whnf
       exact ⟨⟨i + 1,hil,hnx⟩,[],by dsimp only;omega,rfl,⟨zE (zm (zc L)),zE (zm (zc L)),zA rfl,zA w3,trivial⟩,trivial⟩
   . have hle2 : zAH L i < x.id:=by unfold zAH;rw [if_pos (by omega)];omega
     have hVe : V = (Zb x.mn (x.mn - 1) x.held && Zx x.id (L.drop (i + 1))):=by
      rw [hst,decide_eq_true (p:=zAH L i < x.id) hle2];unfold qc;rw [decide_eq_true (p:=0 <= x.mn) (by omega),decide_eq_true (p:=x.mn <= 1073741824) (by omega),decide_eq_true (p:=x.held.length <= 32) (by omega)];simp
     obtain ⟨U,hU⟩ : ∃ U,Zb x.mn (x.mn - 1) x.held = U:=⟨_,rfl⟩;rw [hU] at hVe;have hUf : false = U -> false = V:=λh=>by rw [hVe,<- h];rfl
     have hx32 : x.held.length <= 32:=by omega
     have hm0 : 0 <= x.mn:=by omega
     have hm1 : x.mn <= 1073741824:=by omega
     conv=>whnf
     refine zQ (zT zEW) (λs : RvI x.held x.mn U=>(⟨[(0,zO (qY ZF L)),(10,zO (qY ZF L)),(11,zO (.int .i64 (L.length : Int))),(12,zO (.int .i64 (i : Int))),(4,zO (.ptr 1 0 0 false)),(52,zO (slN zn x.held)),(53,zO (.int .i64 (x.held.length : Int))),(54,zO (.int .i64 (s.k : Int)))],[(1,some ⟨78,1,3,true,λ_=>ZF.cell x⟩)],2⟩ : Hd)) (λs=>x.held.length - s.k) (λ_=>rfl) ?_ ⟨0,Nat.zero_le _,hU,λh=>absurd rfl h⟩ [(1,some 5)] ⟨rfl,⟨zE (zm (zc L)),zE (zm (zc L)),zA rfl,zA rfl,zH rfl,zE (qO _).le,zA rfl,zA rfl,trivial⟩,⟨rfl,zI λj hj=>(ZF.sh _ j hj).le⟩,trivial⟩;rintro ⟨k,hk,hVk,hgk⟩;dsimp only at hk hVk hgk ⊢;by_cases hkl : k < x.held.length
     . have hr:=rv_step hkl hVk hgk;have zk : (k : Int).toNat = k:=rfl;have w5 : IntKind.i64.wrap ((k : Int) + 1) = ((k + 1 : Nat) : Int):=(IntWalk.i64_in _ (by omega)).trans (by omega);have w6 : IntKind.i64.wrap ((k : Int) - 1) = (k : Int) - 1:=IntWalk.i64_in _ (by omega);have w7 : IntKind.i64.wrap (x.mn + 31) = x.mn + 31:=IntWalk.i64_in _ (by omega);have zp : ((k : Int) - 1).toNat = k - 1:=by omega
       obtain ⟨h,eh⟩ : ∃ h,x.held.getD k default = h:=⟨_,rfl⟩;have eck : zo zn x.held k = zn.cell h:=congrArg zn.cell eh;obtain ⟨n1,n2,n3,n4,n5,n6,n7,ny⟩:=hr;rw [eh] at n1 n2 n3 n4 n5 n6 n7 ny;obtain ⟨A,eA⟩ : ∃ A,ZQ h.tm = A:=⟨_,rfl⟩;obtain ⟨B,eB'⟩ : ∃ A,zx h.til = A:=⟨_,rfl⟩;rw [eA] at n5 ny;rw [eB'] at n6 ny;repeat' (first | (simp only [zk,eck,w6,w7,zp]) | (apply And.intro<;>intro hc<;>(first | exact Bool.noConfusion hc | (exfalso;first | exact absurd rfl hc | omega) | (simp only [zg] at hc<;>first | exact absurd rfl hc | (exfalso;first | exact absurd rfl hc | omega) | skip) | skip)) | (refine And.intro ze ?_) | (apply And.intro) | (intro s hs;(first | (have q : A = s:=eA.symm.trans hs.symm;clear hs;subst q) | (have q : B = s:=eB'.symm.trans hs.symm;clear hs;subst q))))
       . exact Done.mk (zG (hUf (n1 (by omega))))
       . exact Done.mk (zG (hUf (n2 (by omega))))
       . exact Done.mk (zG (hUf (n3 (by omega))))
       . exact Done.mk (zG (hUf (n4 (by omega))))
       . exact Done.mk (zG (hUf (n5 ‹_›)))
       . exact Done.mk (zG (hUf (n6 ‹_›)))
       . exact Done.mk (zG (hUf (n7 (by omega) (by omega))))
       . conv=>whnf
         exact ⟨⟨k + 1,hkl,ny (by omega) (by omega) (by omega) (by omega) ‹_› ‹_› (.inr (by omega)),λ_=>by show x.mn <= (x.held.getD k default).num;rw [eh];omega⟩,[],by dsimp only;omega,rfl,⟨zE (zm (zc L)),zE (zm (zc L)),zA rfl,zA rfl,zH rfl,zE (qO _).le,zA rfl,zA w5,trivial⟩,⟨rfl,zI λj hj=>(ZF.sh _ j hj).le⟩,trivial⟩
       . conv=>whnf
         exact ⟨⟨k + 1,hkl,ny (by omega) (by omega) (by omega) (by omega) ‹_› ‹_› (.inl (by omega)),λ_=>by show x.mn <= (x.held.getD k default).num;rw [eh];omega⟩,[],by dsimp only;omega,rfl,⟨zE (zm (zc L)),zE (zm (zc L)),zA rfl,zA rfl,zH rfl,zE (qO _).le,zA rfl,zA w5,trivial⟩,⟨rfl,zI λj hj=>(ZF.sh _ j hj).le⟩,trivial⟩
     . have hUt : U = true:=by rw [<- hVk,List.drop_of_length_le (by omega)];rfl
       have hnx : Zx (zAH L (i + 1)) (L.drop (i + 1)) = V:=by rw [hVe,hUt,Bool.true_and];unfold zAH;rw [if_neg (Nat.succ_ne_zero i),Nat.add_sub_cancel,ex]
       repeat' (first | (apply And.intro<;>intro hc<;>(first | exact Bool.noConfusion hc | (exfalso;first | exact absurd rfl hc | omega) | (simp only [zg] at hc<;>first | exact absurd rfl hc | (exfalso;first | exact absurd rfl hc | omega) | skip) | skip)) | (refine And.intro ze ?_) | (apply And.intro) | (intro s hs;skip))
       conv=>whnf
       exact ⟨⟨i + 1,hil,hnx⟩,[],by dsimp only;omega,rfl,⟨zE (zm (zc L)),zE (zm (zc L)),zA rfl,zA w3,trivial⟩,trivial⟩
 . have hVt : V = true:=by rw [<- hVi,List.drop_of_length_le (by omega)];rfl
   rw [hVt];repeat' (first | (apply And.intro<;>intro hc<;>(first | exact Bool.noConfusion hc | (exfalso;first | exact absurd rfl hc | omega) | (simp only [zg] at hc<;>first | exact absurd rfl hc | (exfalso;first | exact absurd rfl hc | omega) | skip) | skip)) | (refine And.intro ze ?_) | (apply And.intro) | (intro s hs;skip))
   exact Done.mk (zG rfl)
abbrev zDD : Zm:=qy (AC.cons (Yl ZF qA) AC.nil) (λa=>LHp a.1) (λa=>ZC a.1) cB.enc
def smH (n : Int) : List Hel -> Int
 | []=>n
 | h :: t=>smH (IntKind.i64.wrap (n + IntKind.i64.wrap ((h.data.length : Int).tdiv 8))) t
def smS (n : Int) : List Sed -> Int
 | []=>n
 | s :: t=>smS (smH (IntKind.i64.wrap (n + (s.held.length : Int))) s.held) t
def smallF (L : List Sed) : Bool:=decide (smS L.length L <= 120)
theorem smH_step {n : Int} {H : List Hel} {p : Nat} (h : p < H.length) : smH n (H.drop p) = smH (IntKind.i64.wrap (n + IntKind.i64.wrap (((H.getD p default).data.length : Int).tdiv 8))) (H.drop (p + 1)):=by rw [qL h];rfl
theorem smS_step {n : Int} {L : List Sed} {p : Nat} (h : p < L.length) : smS n (L.drop p) = smS (smH (IntKind.i64.wrap (n + ((L.getD p default).held.length : Int))) (L.getD p default).held) (L.drop (p + 1)):=by rw [qL h];rfl
theorem small_ok (L : List Sed) (hL : LHn L) : Zc Try.prog 13 [(Yl ZF qA).enc L] (cB.enc (smallF L)):=by
 have hn:=hL.n;obtain ⟨R,hR⟩ : ∃ R,smS L.length L = R:=⟨_,rfl⟩;have hRe : smallF L = decide (R <= 120):=by rw [<- hR];rfl
 rw [hRe];refine zr (wd:=1) (by decide) zM (zb qD) zN Try.func13 rfl _ (by show 1 <= _;decide) _ ?_;repeat' (first | (apply And.intro<;>intro hc<;>(first | exact Bool.noConfusion hc | (exfalso;first | exact absurd rfl hc | omega) | (simp only [zg] at hc<;>first | exact absurd rfl hc | (exfalso;first | exact absurd rfl hc | omega) | skip) | skip)) | (refine And.intro ze ?_) | (apply And.intro) | (intro s hs;subst hs))
 conv=>whnf
 refine zQ (zT qD) (λs : {s : Nat × Int // s.1 <= L.length /\ smS s.2 (L.drop s.1) = R}=>(⟨[(3,zO (.int .i64 s.1.2)),(10,zO (qY ZF L)),(11,zO (.int .i64 (L.length : Int))),(12,zO (.int .i64 (s.1.1 : Int)))],[],0⟩ : Hd)) (λs=>L.length - s.1.1) (λ_=>rfl) ?_ ⟨(0,L.length),Nat.zero_le _,hR⟩ [] ⟨rfl,⟨zA rfl,zE (zm (zc L)),zA rfl,zA rfl,trivial⟩,trivial⟩;rintro ⟨⟨p,n⟩,hp,hV⟩;dsimp only at hp hV ⊢;unfold qY;by_cases hpl : p < L.length
 . have w4 : IntKind.i64.wrap ((p : Int) + 1) = ((p + 1 : Nat) : Int):=(IntWalk.i64_in _ (by omega)).trans (by omega);rw [smS_step hpl] at hV;have hh:=hL.h _ (zj hpl);obtain ⟨x,ex⟩ : ∃ x,L.getD p default = x:=⟨_,rfl⟩;have ec : zo ZF L p = ZF.cell x:=congrArg ZF.cell ex;have zp : (p : Int).toNat = p:=rfl;rw [ex] at hV hh;obtain ⟨W,eW⟩ : ∃ W,smH (IntKind.i64.wrap (n + (x.held.length : Int))) x.held = W:=⟨_,rfl⟩;rw [eW] at hV;repeat' (first | (simp only [zp,ec]) | (apply And.intro<;>intro hc<;>(first | exact Bool.noConfusion hc | (exfalso;first | exact absurd rfl hc | omega) | (simp only [zg] at hc<;>first | exact absurd rfl hc | (exfalso;first | exact absurd rfl hc | omega) | skip) | skip)) | (refine And.intro ze ?_) | (apply And.intro) | (intro s hs;subst hs))
   conv=>whnf
   refine zQ (zT qD) (λs : {s : Nat × Int // s.1 <= x.held.length /\ smH s.2 (x.held.drop s.1) = W}=>(⟨[(3,zO (.int .i64 s.1.2)),(10,zO (qY ZF L)),(11,zO (.int .i64 (L.length : Int))),(12,zO (.int .i64 (p : Int))),(22,zO (slN zn x.held)),(23,zO (.int .i64 (x.held.length : Int))),(24,zO (.int .i64 (s.1.1 : Int)))],[],0⟩ : Hd)) (λs=>x.held.length - s.1.1) (λ_=>rfl) ?_ ⟨(0,_),Nat.zero_le _,eW⟩ [] ⟨rfl,⟨zA rfl,zE (zm (zc L)),zA rfl,zA rfl,zE (qO _).le,zA rfl,zA rfl,trivial⟩,trivial⟩;rintro ⟨⟨k,m⟩,hk,hW⟩;dsimp only at hk hW ⊢;unfold qY;by_cases hkl : k < x.held.length
   . have w5 : IntKind.i64.wrap ((k : Int) + 1) = ((k + 1 : Nat) : Int):=(IntWalk.i64_in _ (by omega)).trans (by omega);rw [smH_step hkl] at hW;obtain ⟨h,eh⟩ : ∃ h,x.held.getD k default = h:=⟨_,rfl⟩;have ech : zo zn x.held k = zn.cell h:=congrArg zn.cell eh;have zk : (k : Int).toNat = k:=rfl;rw [eh] at hW;repeat' (first | (simp only [zk,ech]) | (apply And.intro<;>intro hc<;>(first | exact Bool.noConfusion hc | (exfalso;first | exact absurd rfl hc | omega) | (simp only [zg] at hc<;>first | exact absurd rfl hc | (exfalso;first | exact absurd rfl hc | omega) | skip) | skip)) | (refine And.intro ze ?_) | (apply And.intro) | (intro s hs;subst hs))
     conv=>whnf
     exact ⟨⟨(k + 1,_),hkl,hW⟩,[],by dsimp only;omega,rfl,⟨zA rfl,zE (zm (zc L)),zA rfl,zA rfl,zE (qO _).le,zA rfl,zA w5,trivial⟩,trivial⟩
   . obtain rfl : m = W:=by rw [<- hW,List.drop_of_length_le (by omega)];rfl
     repeat' (first | (apply And.intro<;>intro hc<;>(first | exact Bool.noConfusion hc | (exfalso;first | exact absurd rfl hc | omega) | (simp only [zg] at hc<;>first | exact absurd rfl hc | (exfalso;first | exact absurd rfl hc | omega) | skip) | skip)) | (refine And.intro ze ?_) | (apply And.intro) | (intro s hs;subst hs))
     conv=>whnf
     exact ⟨⟨(p + 1,m),hpl,hV⟩,[],by dsimp only;omega,rfl,⟨zA rfl,zE (zm (zc L)),zA rfl,zA w4,trivial⟩,trivial⟩
 . obtain rfl : n = R:=by rw [<- hV,List.drop_of_length_le (by omega)];rfl
   repeat' (first | (apply And.intro<;>intro hc<;>(first | exact Bool.noConfusion hc | (exfalso;first | exact absurd rfl hc | omega) | (simp only [zg] at hc<;>first | exact absurd rfl hc | (exfalso;first | exact absurd rfl hc | omega) | skip) | skip)) | (refine And.intro ze ?_) | (apply And.intro) | (intro s hs;subst hs))
   conv=>whnf
   exact Done.mk (zG rfl)
abbrev smallE : Zm:=qy (AC.cons (Yl ZF qA) AC.nil) (λa=>LHn a.1) (λa=>smallF a.1) cB.enc
theorem smallE_ok : EntOk Try.prog 13 smallE:=zu ⟨_,Try.func13,rfl,by kernel_rfl⟩ λa h=>small_ok a.1 h
def neI : NElem Int where
 sz:=3
 cell a j:=bif Nat.beq j 0 then .int .u64 a else .top
 rd g:=YY (g 0)
 ok g:=isK .u64 (g 0) = true
 ok_rel g h j hj r X W w v hv:=by
  rcases j with _ | j
  . rw [Qd h] at hv;exact hv
  . exact Yq hv
 sh a j hj:=by
  rcases j with _ | j
  . exact .int _ _
  . exact .top
theorem neI_sz : 0 < neI.sz:=by decide
def zBY (id : Int) : List Int -> Nat -> Int
 | [],_=>-1
 | s :: t,k=>if s = id then (k : Int) else zBY id t (k + 1)
theorem rfind_ok (L : List Int) (id : Int) (hn : L.length <= 9223372036854775807) : Zc Try.prog 64 [(Yl neI neI_sz).enc L,(cI .u64).enc id] ((cI .i64).enc (zBY id L 0)):=by
 obtain ⟨R,hR⟩ : ∃ R,zBY id L 0 = R:=⟨_,rfl⟩;rw [hR];refine zr (wd:=1) (by decide) zM (zb qD) zN Try.func64 rfl _ (by show 2 <= _;decide) _ ?_;repeat' (first | (apply And.intro<;>intro hc<;>(first | exact Bool.noConfusion hc | (exfalso;first | exact absurd rfl hc | omega) | (simp only [zg] at hc<;>first | exact absurd rfl hc | (exfalso;first | exact absurd rfl hc | omega) | skip) | skip)) | (refine And.intro ze ?_) | (apply And.intro) | (intro s hs;skip))
 conv=>whnf
 refine zQ (zT qD) (λs : {i : Nat // i <= L.length /\ zBY id (L.drop i) i = R}=>(⟨[(1,zO (.int .u64 id)),(7,zO (qY neI L)),(8,zO (.int .i64 (L.length : Int))),(9,zO (.int .i64 (s.1 : Int)))],[],1⟩ : Hd)) (λs=>L.length - s.1) (λ_=>rfl) ?_ ⟨0,Nat.zero_le _,hR⟩ [] ⟨rfl,⟨zA rfl,zE (zm (zc L)),zA rfl,zA rfl,trivial⟩,trivial⟩;rintro ⟨i,hi,hV⟩;dsimp only at hi hV ⊢;unfold qY;by_cases hil : i < L.length
 . have w3 : IntKind.i64.wrap ((i : Int) + 1) = ((i + 1 : Nat) : Int):=(IntWalk.i64_in _ (by omega)).trans (by omega);rw [qL hil] at hV;have ny : L.getD ((i : Int).toNat) default = id -> R = (i : Int):=λg=>by rw [<- hV];exact if_pos g
   have nn : ¬ L.getD ((i : Int).toNat) default = id -> zBY id (L.drop (i + 1)) (i + 1) = R:=λg=>by rw [<- hV];exact (if_neg g).symm
   clear hV;repeat' (first | (apply And.intro<;>intro hc<;>(first | exact Bool.noConfusion hc | (exfalso;first | exact absurd rfl hc | omega) | (simp only [zg] at hc<;>first | exact absurd rfl hc | (exfalso;first | exact absurd rfl hc | omega) | skip) | skip)) | (refine And.intro ze ?_) | (apply And.intro) | (intro s hs;skip))
   . rw [ny ‹_›];exact Done.mk (zA rfl)
   . refine ⟨⟨i + 1,by omega,nn ‹_›⟩,[],by dsimp only;omega,rfl,⟨zA rfl,zE (zm (zc L)),zA rfl,zA w3,trivial⟩,trivial⟩
 . have hi2 : i = L.length:=by omega
   rw [List.drop_of_length_le (by omega)] at hV;have hV : (-1 : Int) = R:=hV;rw [<- hV];repeat' (first | (apply And.intro<;>intro hc<;>(first | exact Bool.noConfusion hc | (exfalso;first | exact absurd rfl hc | omega) | (simp only [zg] at hc<;>first | exact absurd rfl hc | (exfalso;first | exact absurd rfl hc | omega) | skip) | skip)) | (refine And.intro ze ?_) | (apply And.intro) | (intro s hs;skip))
   exact Done.mk (zA rfl)
abbrev rfindE : Zm:=qy (AC.cons (Yl neI neI_sz) (AC.cons (cI .u64) AC.nil)) (λa=>a.1.length <= 9223372036854775807) (λa=>zBY a.2.1 a.1 0) (cI .i64).enc
theorem zE8 {id : Int} : ∀ {L : List Sed} {last : Int} {k : Nat},Zx last L = true -> zBY id (L.map Sed.id) k = if (Zq id L k).2 = true then ((Zq id L k).1 : Int) else -1:=by
 intro L;induction L with
 | nil=>intro _ _ _;rfl
 | cons a t ih=>
   intro last k hv;have hv':=Qj.1 hv;show (if a.id = id then (k : Int) else zBY id (t.map Sed.id) (k + 1)) = _;by_cases h : id <= a.id
   . have e : Zq id (a :: t) k = (k,decide (a.id = id)):=if_pos h;rw [e];by_cases h2 : a.id = id
     . rw [if_pos h2,decide_eq_true h2,if_pos rfl]
     . rw [if_neg h2,decide_eq_false h2,if_neg (by simp)];have : ∀ {t : List Sed} {last : Int} {k : Nat},Zx last t = true -> id < last -> zBY id (t.map Sed.id) k = -1:=by
        intro t;induction t with
        | nil=>intro _ _ _ _;rfl
        | cons b t ih2=>
          intro last k hv hl;have hv':=Qj.1 hv;show (if b.id = id then (k : Int) else zBY id (t.map Sed.id) (k + 1)) = -1;rw [if_neg (by omega)];exact ih2 hv'.2.2 (by omega)
       exact this hv'.2.2 (by omega)
   . have e : Zq id (a :: t) k = Zq id t (k + 1):=if_neg h;rw [e,if_neg (by omega)];exact ih hv'.2.2
def LSm : CsL:=(31,some zDF) :: []
theorem LSm_ok : qU Try.prog LSm:=⟨zu ⟨_,Try.func31,rfl,by kernel_rfl⟩ λa h=>zBa a.1 h,trivial⟩
theorem qm {P : Nat -> Prop} (h : P 0 /\ P 1 /\ P 2) : ∀ j,j < 3 -> P j:=λj hj=>by
 rcases (show j = 0 \/ j = 1 \/ j = 2 by omega) with rfl | rfl | rfl
 . exact h.1
 . exact h.2.1
 . exact h.2.2
structure SySt (L : List Sed) (R : List Smy) where
 i : Nat
 O : List Smy
 hi : i <= L.length
 h : O ++ (L.drop i).map zC5 = R
 n : O.length = i
theorem summ_ok (L : List Sed) (hL : LHn L) : zBu Try.prog 30 [(Yl ZF qA).enc L] (some (Yu L).length) none (zBD eSm 60 (Yu L)):=by
 obtain ⟨V,hV⟩ : ∃ V,ZC L = V:=⟨_,rfl⟩;obtain ⟨R,hR⟩ : ∃ R,Yu L = R:=⟨_,rfl⟩;have h8' : V = true -> L.length <= 8:=λh=>Zp (hV.trans h);rw [hR];refine zBb (wd:=1) (by decide) zM (zb LSm_ok) zN Try.func30 rfl _ (by show 1 <= _;decide) (λi _ j _=>row_nf eSm R i j) ?_;repeat' (first | (apply And.intro<;>intro hc<;>(first | exact Bool.noConfusion hc | (exfalso;first | exact absurd rfl hc | omega) | (simp only [zg] at hc<;>first | exact absurd rfl hc | (exfalso;first | exact absurd rfl hc | omega) | skip) | skip)) | (refine And.intro ze ?_) | (apply And.intro) | (intro s hs;(have q : V = s:=Ys hs (ZE ZS _) hV;clear hs;subst q)))
 . exact λ_ _=>⟨rfl,qG _⟩
 . exact Eq.mpr (congrArg LHn (ZE ZS _)) hL
 . have e : R = []:=by rw [<- hR];unfold Yu;rw [if_neg (by rw [hV,(by assumption : V = false)];simp)]
   subst e;conv=>whnf
   exact ⟨none,zE (ZP rfl),⟨rfl,rfl,Nat.le_of_ble_eq_true rfl⟩⟩
 . have:=h8' ‹_›;show (24 : Int) * (L.length : Int) <= 281474976710656;omega
 . have:=h8' ‹_›;omega
 have hVt : ZC L = true:=hV.trans ‹_›;have h8:=Zp hVt;have eR : L.map zC5 = R:=by rw [<- hR];unfold Yu;rw [if_pos hVt]
 conv=>whnf
 refine zQ (zT LSm_ok) (λs : SySt L R=>(⟨[(3,zO (.os 50 0 s.O.length)),(15,zO (qY ZF L)),(16,zO (.int .i64 (L.length : Int))),(17,zO (.int .i64 (s.i : Int)))],[(50,some (zBD eSm 60 s.O))],51⟩ : Hd)) (λs=>L.length - s.i) (λ_=>rfl) ?_ ⟨0,[],Nat.zero_le _,eR,rfl⟩ [(50,some 6)] ⟨rfl,⟨zE (zD rfl rfl),zE (zm (zc L)),zA rfl,zA rfl,trivial⟩,⟨rfl,⟨rfl,rfl,rfl,rfl,λp hp=>absurd hp (Nat.not_lt_zero p)⟩⟩,trivial⟩;rintro ⟨i,O,hi,hO,hOl⟩;dsimp only at hi hO hOl ⊢;unfold qY;by_cases hil : i < L.length
 . have hx:=(qk hVt _ (zj hil)).2;obtain ⟨x,ex⟩ : ∃ x,L.getD i default = x:=⟨_,rfl⟩;have ec : zo ZF L i = ZF.cell x:=congrArg ZF.cell ex;rw [ex] at hx;have hO2 : (O ++ [zC5 x]) ++ (L.drop (i + 1)).map zC5 = R:=by rw [qL hil,ex] at hO;rw [<- hO];simp
   have z0 : (i : Int).toNat = i:=rfl;repeat' (first | (simp only [z0,ec]) | (apply And.intro<;>intro hc<;>(first | exact Bool.noConfusion hc | (exfalso;first | exact absurd rfl hc | omega) | (simp only [zg] at hc<;>first | exact absurd rfl hc | (exfalso;first | exact absurd rfl hc | omega) | skip) | skip)) | (refine And.intro ze ?_) | (apply And.intro) | (intro s hs;skip))
   conv=>whnf
   obtain ⟨W,eW⟩ : ∃ W,zCw x.mn x.held 0 = W:=⟨_,rfl⟩;refine zQ (zT LSm_ok) (λs : {p : Nat × Int // p.1 <= x.held.length /\ zCw x.mn (x.held.drop p.1) p.2 = W}=>(⟨[(3,zO (.os 50 0 O.length)),(15,zO (qY ZF L)),(16,zO (.int .i64 (L.length : Int))),(17,zO (.int .i64 (i : Int))),(5,zO (.ptr 51 0 0 false)),(6,zO (.ptr 52 0 0 false)),(27,zO (slN zn x.held)),(28,zO (.int .i64 (x.held.length : Int))),(29,zO (.int .i64 (s.1.1 : Int)))],[(50,some (zBD eSm 60 O)),(51,some ⟨78,1,3,true,λ_=>ZF.cell x⟩),(52,some ⟨60,1,3,true,λ_=>eSm.cell ⟨x.id,x.mn,s.1.2⟩⟩)],53⟩ : Hd)) (λs=>x.held.length - s.1.1) (λ_=>rfl) ?_ ⟨(0,0),Nat.zero_le _,eW⟩ [(51,some 54),(52,some 61)] ⟨rfl,⟨zE (zD rfl rfl),zE (zm (zc L)),zA rfl,zA rfl,zH rfl,zH rfl,zE (qO _).le,zA rfl,zA rfl,trivial⟩,⟨⟨rfl,zAn⟩,⟨rfl,zI λj hj=>(ZF.sh _ j hj).le⟩,⟨rfl,zI (qm ⟨zC rfl,zC rfl,zC rfl⟩)⟩,trivial⟩⟩;rintro ⟨⟨k,b⟩,hk,hb⟩;dsimp only at hk hb ⊢;unfold qY;by_cases hkn : k < x.held.length
   . have hm:=QD hx (zj hkn);have hm1:=(YD hx.h _ (zj hkn)).1;have hmn:=hx.mn;have hmw:=hm.w;have hxn:=hx.n;have hst : zCw x.mn (x.held.drop (k + 1)) (bits .or .u32 b (Yk .u32 1 ((x.held.getD k default).num - x.mn))) = W:=by rw [<- hb,qL hkn];rfl
     have w4 : IntKind.i64.wrap ((k : Int) + 1) = ((k + 1 : Nat) : Int):=(IntWalk.i64_in _ (by omega)).trans (by omega);have w5 : IntKind.i64.wrap ((x.held.getD k default).num - x.mn) = (x.held.getD k default).num - x.mn:=IntWalk.i64_in _ (by omega);have z1 : (k : Int).toNat = k:=rfl;repeat' (first | (simp only [z1,w4,w5]) | (apply And.intro<;>intro hc<;>(first | exact Bool.noConfusion hc | (exfalso;first | exact absurd rfl hc | omega) | (simp only [zg] at hc<;>first | exact absurd rfl hc | (exfalso;first | exact absurd rfl hc | omega) | skip) | skip)) | (refine And.intro ze ?_) | (apply And.intro) | (intro s hs;skip))
     conv=>whnf
     exact ⟨⟨(k + 1,_),hkn,hst⟩,[],by dsimp only;omega,rfl,⟨zE (zD rfl rfl),zE (zm (zc L)),zA rfl,zA rfl,zH rfl,zH rfl,zE (qO _).le,zA rfl,zA w4,trivial⟩,⟨⟨rfl,zAn⟩,⟨rfl,zI λj hj=>(ZF.sh _ j hj).le⟩,⟨rfl,zI (qm ⟨zC rfl,zC rfl,zC rfl⟩)⟩,trivial⟩⟩
   . have e : b = W:=by rw [<- hb,List.drop_of_length_le (by omega)];rfl
     subst e;repeat' (first | (apply And.intro<;>intro hc<;>(first | exact Bool.noConfusion hc | (exfalso;first | exact absurd rfl hc | omega) | (simp only [zg] at hc<;>first | exact absurd rfl hc | (exfalso;first | exact absurd rfl hc | omega) | skip) | skip)) | (refine And.intro ze ?_) | (apply And.intro) | (intro s hs;skip))
     have w4 : IntKind.i64.wrap ((i : Int) + 1) = ((i + 1 : Nat) : Int):=(IntWalk.i64_in _ (by omega)).trans (by omega);conv=>whnf
     refine ⟨⟨i + 1,O ++ [zC5 x],hil,hO2,by rw [List.length_append,hOl];rfl⟩,[(50,some 57)],by dsimp only;omega,rfl,⟨zE (zD rfl (by rw [List.length_append];rfl)),zE (zm (zc L)),zA rfl,zA w4,trivial⟩,⟨⟨rfl,?_⟩,trivial⟩⟩;refine zFA (E:=eSm) (L:=O) (x:=zC5 x) rfl (λi hi j hj=>ZU (Nat.ble_eq_true_of_le hi) (Elem.flat _ _ _).le) ?_;repeat' (first | exact trivial | (refine Zd (Zn _) ?_;rw [Nat.sub_self];first | exact zC rfl | exact zC eW.symm) | apply And.intro)
 . have hi2 : i = L.length:=by omega
   subst hi2;have e : O = R:=by rw [<- hO,List.drop_of_length_le (Nat.le_refl _)];simp
   subst e;repeat' (first | (apply And.intro<;>intro hc<;>(first | exact Bool.noConfusion hc | (exfalso;first | exact absurd rfl hc | omega) | (simp only [zg] at hc<;>first | exact absurd rfl hc | (exfalso;first | exact absurd rfl hc | omega) | skip) | skip)) | (refine And.intro ze ?_) | (apply And.intro) | (intro s hs;skip))
   conv=>whnf
   exact ⟨some 50,zE (zD rfl rfl),zAn⟩
abbrev summE : Zm:=newE (AC.cons (Yl ZF qA) AC.nil) (λa=>LHn a.1) (λa=>Yu a.1) (λs=>some s.length) (λ_=>none) (λs=>zBD eSm 60 s)
theorem summE_ok : EntOk Try.prog 30 summE:=zB5 ⟨_,Try.func30,rfl,by kernel_rfl⟩ (λs l h x hx=>by cases h) λa h=>summ_ok a.1 h
def ZT (d : Nat) (L : List Sed) (i j : Nat) : CV:=bif Nat.beq j 2 then .os (d + i) 0 (L.getD i default).held.length else sedC (L.getD i default) j
def qt (d : Nat) (n : Nat) (L : List Sed) : Ent:=⟨78,n,3,false,ZT d L⟩
def Zw (L : List Sed) (i k : Nat) : List Hel:=bif Nat.blt k i then (L.getD k default).held else []
abbrev zV (l : List Hel) : Ent:=ZL zn 85 l
theorem hldP_n {L : List Sed} {k : Nat} : Zw L L.length k = (L.getD k default).held:=by
 unfold Zw;cases hb : Nat.blt k L.length with
 | true=>rfl
 | false=>
   have : ¬ k < L.length:=λh=>by
    have h1 : Nat.blt k L.length = true:=Nat.ble_eq_true_of_le h;rw [h1] at hb;cases hb
   rw [List.getD_eq_getElem?_getD,List.getElem?_eq_none (by omega)];rfl
def zBs (b : Nat) (L : List Sed) : List (Nat × Option Ent):=[(b + 0,some (zV (L.getD 0 default).held)),(b + 1,some (zV (L.getD 1 default).held)),(b + 2,some (zV (L.getD 2 default).held)),(b + 3,some (zV (L.getD 3 default).held)),(b + 4,some (zV (L.getD 4 default).held)),(b + 5,some (zV (L.getD 5 default).held)),(b + 6,some (zV (L.getD 6 default).held)),(b + 7,some (zV (L.getD 7 default).held))]
theorem qo {c : Wc} {d d' : Nat} {L : List Sed} {i j : Nat} (hj : j < 3) (h : c.src (d' + i) = some (d + i)) : ZX c (ZT d L i j) (ZT d' L i j):=by
 rcases j with _ | _ | _ | j
 . exact zC rfl
 . exact zC rfl
 . exact zD h rfl
 . omega
theorem zFn {nm : Nat} {L : List Sed} {i j : Nat} (hj : j < 3) (hi : i < 8) : Sft 9 nm (ZT (0 + 1) L i j) (ZT (nm + 1) L i j):=by
 rcases j with _ | _ | _ | j
 . exact zBl
 . exact zBl
 . have h : Sft 9 nm (.os (0 + 1 + i) 0 (L.getD i default).held.length) (.os (nm + (0 + 1 + i)) 0 (L.getD i default).held.length):=zAm (by omega);rw [show nm + (0 + 1 + i) = nm + 1 + i by omega] at h;exact h
 . omega
def LMl8 : CsL:=(56,some keepE) :: []
theorem LMl8_ok : qU Try.prog LMl8:=⟨zDO,trivial⟩
structure Cl8 (L : List Sed) : Prop where
 n : L.length <= 8
 k : ∀ x ∈ L,KpI x.held
theorem vl_c8 {L : List Sed} (h : ZC L = true) : Cl8 L:=⟨Zp h,(vl_cl h).k⟩
def Ents8 (d : Nat) (L : List Sed) : List Ent:=qt d L.length L :: [zV (L.getD 0 default).held,zV (L.getD 1 default).held,zV (L.getD 2 default).held,zV (L.getD 3 default).held,zV (L.getD 4 default).held,zV (L.getD 5 default).held,zV (L.getD 6 default).held,zV (L.getD 7 default).held]
theorem clone8_ok (L : List Sed) (hL : Cl8 L) : zAl Try.prog 34 [(Yl ZF qA).enc L] (zO (.os 0 0 L.length)) (Ents8 1 L):=by
 have hn:=hL.n;refine zA9 (wd:=1) (by decide) zM (zb LMl8_ok) zN Try.func34 rfl _ (by show 1 <= _;decide) ?_;have w0 : IntKind.i64.wrap ((L.length : Int) + 1) = ((L.length + 1 : Nat) : Int):=(IntWalk.i64_in _ (by omega)).trans (by omega);repeat' (first | (simp only [w0]) | (apply And.intro<;>intro hc<;>(first | exact Bool.noConfusion hc | (exfalso;first | exact absurd rfl hc | omega) | (simp only [zg] at hc<;>first | exact absurd rfl hc | (exfalso;first | exact absurd rfl hc | omega) | skip) | skip)) | (refine And.intro ze ?_) | (apply And.intro) | (intro s hs;skip) | (refine Exists.intro _ (And.intro ⟨rfl,rfl,rfl⟩ ?_)))
 conv=>whnf
 refine zQ (zT LMl8_ok) (λs : {i : Nat // i <= L.length}=>(⟨[(3,zO (.os 50 0 s.1)),(10,zO (qY ZF L)),(11,zO (.int .i64 (L.length : Int))),(12,zO (.int .i64 (s.1 : Int)))],[(50,some (qt 51 s.1 L)),(51,some (zV (Zw L s.1 0))),(52,some (zV (Zw L s.1 1))),(53,some (zV (Zw L s.1 2))),(54,some (zV (Zw L s.1 3))),(55,some (zV (Zw L s.1 4))),(56,some (zV (Zw L s.1 5))),(57,some (zV (Zw L s.1 6))),(58,some (zV (Zw L s.1 7)))],59⟩ : Hd)) (λs=>L.length - s.1) (λ_=>rfl) ?_ ⟨0,Nat.zero_le _⟩ [(50,some 4),(51,none),(52,none),(53,none),(54,none),(55,none),(56,none),(57,none),(58,none)] ⟨rfl,⟨zE (zD rfl rfl),zE (zm (zc L)),zA rfl,zA rfl,trivial⟩,⟨rfl,⟨rfl,rfl,rfl,rfl,λi hi=>absurd hi (Nat.not_lt_zero i)⟩⟩,⟨rfl,rfl,rfl,Nat.le_of_ble_eq_true rfl⟩,⟨rfl,rfl,rfl,Nat.le_of_ble_eq_true rfl⟩,⟨rfl,rfl,rfl,Nat.le_of_ble_eq_true rfl⟩,⟨rfl,rfl,rfl,Nat.le_of_ble_eq_true rfl⟩,⟨rfl,rfl,rfl,Nat.le_of_ble_eq_true rfl⟩,⟨rfl,rfl,rfl,Nat.le_of_ble_eq_true rfl⟩,⟨rfl,rfl,rfl,Nat.le_of_ble_eq_true rfl⟩,⟨rfl,rfl,rfl,Nat.le_of_ble_eq_true rfl⟩,trivial⟩;rintro ⟨i,hi⟩;dsimp only at hi ⊢;unfold qY;by_cases hil : i < L.length
 . have w3 : IntKind.i64.wrap ((i : Int) + 1) = ((i + 1 : Nat) : Int):=(IntWalk.i64_in _ (by omega)).trans (by omega);have hk:=hL.k _ (QX hil);rcases (show i = 0 \/ i = 1 \/ i = 2 \/ i = 3 \/ i = 4 \/ i = 5 \/ i = 6 \/ i = 7 by omega) with rfl | rfl | rfl | rfl | rfl | rfl | rfl | rfl
   . repeat' (first | (apply And.intro<;>intro hc<;>(first | exact Bool.noConfusion hc | (exfalso;first | exact absurd rfl hc | omega) | (simp only [zg] at hc<;>first | exact absurd rfl hc | (exfalso;first | exact absurd rfl hc | omega) | skip) | skip)) | (refine And.intro ze ?_) | (apply And.intro) | (intro s hs;(have q : s = (L.getD 0 default).held:=hs.trans (by show (Yt zn _ _).filter (Zj none) = _;rw [Qq];exact ZE zR _);clear hs;subst q)) | (refine Exists.intro _ (And.intro ⟨rfl,rfl,rfl⟩ ?_)))
     . exact λ_ _=>⟨rfl,zl _⟩
     . exact Eq.mpr (congrArg KpI (ZE zR _)) hk
     . refine ⟨⟨1,hil⟩,[(50,some 72),(51,some 66)],by dsimp only;omega,rfl,⟨zE (zD rfl rfl),zE (zm (zc L)),zA rfl,zA w3,trivial⟩,⟨⟨rfl,⟨rfl,rfl,rfl,rfl,λp hp j hj=>?_⟩⟩,⟨rfl,zB⟩,⟨rfl,zB⟩,⟨rfl,zB⟩,⟨rfl,zB⟩,⟨rfl,zB⟩,⟨rfl,zB⟩,⟨rfl,zB⟩,⟨rfl,zB⟩,trivial⟩⟩;have hp' : p < 1:=hp;have hj' : j < 3:=hj;show ZX _ (Zi (Nat.blt p 0) (ZT 51 L p j) _) (ZT 51 L p j);by_cases hpi : p < 0
       . refine ZU (Nat.ble_eq_true_of_le hpi) ?_;exact absurd hpi (Nat.not_lt_zero p)
       . obtain rfl : p = 0:=by omega
         refine Zd (Zn _) ?_;rcases j with _ | _ | _ | j
         . exact zC rfl
         . exact zC rfl
         . exact zD rfl rfl
         . omega
   . repeat' (first | (apply And.intro<;>intro hc<;>(first | exact Bool.noConfusion hc | (exfalso;first | exact absurd rfl hc | omega) | (simp only [zg] at hc<;>first | exact absurd rfl hc | (exfalso;first | exact absurd rfl hc | omega) | skip) | skip)) | (refine And.intro ze ?_) | (apply And.intro) | (intro s hs;(have q : s = (L.getD 1 default).held:=hs.trans (by show (Yt zn _ _).filter (Zj none) = _;rw [Qq];exact ZE zR _);clear hs;subst q)) | (refine Exists.intro _ (And.intro ⟨rfl,rfl,rfl⟩ ?_)))
     . exact λ_ _=>⟨rfl,zl _⟩
     . exact Eq.mpr (congrArg KpI (ZE zR _)) hk
     . refine ⟨⟨2,hil⟩,[(50,some 72),(52,some 66)],by dsimp only;omega,rfl,⟨zE (zD rfl rfl),zE (zm (zc L)),zA rfl,zA w3,trivial⟩,⟨⟨rfl,⟨rfl,rfl,rfl,rfl,λp hp j hj=>?_⟩⟩,⟨rfl,zB⟩,⟨rfl,zB⟩,⟨rfl,zB⟩,⟨rfl,zB⟩,⟨rfl,zB⟩,⟨rfl,zB⟩,⟨rfl,zB⟩,⟨rfl,zB⟩,trivial⟩⟩;have hp' : p < 2:=hp;have hj' : j < 3:=hj;show ZX _ (Zi (Nat.blt p 1) (ZT 51 L p j) _) (ZT 51 L p j);by_cases hpi : p < 1
       . refine ZU (Nat.ble_eq_true_of_le hpi) ?_;rcases (show p = 0 by omega) with rfl<;>exact qo hj' rfl
       . obtain rfl : p = 1:=by omega
         refine Zd (Zn _) ?_;rcases j with _ | _ | _ | j
         . exact zC rfl
         . exact zC rfl
         . exact zD rfl rfl
         . omega
   . repeat' (first | (apply And.intro<;>intro hc<;>(first | exact Bool.noConfusion hc | (exfalso;first | exact absurd rfl hc | omega) | (simp only [zg] at hc<;>first | exact absurd rfl hc | (exfalso;first | exact absurd rfl hc | omega) | skip) | skip)) | (refine And.intro ze ?_) | (apply And.intro) | (intro s hs;(have q : s = (L.getD 2 default).held:=hs.trans (by show (Yt zn _ _).filter (Zj none) = _;rw [Qq];exact ZE zR _);clear hs;subst q)) | (refine Exists.intro _ (And.intro ⟨rfl,rfl,rfl⟩ ?_)))
     . exact λ_ _=>⟨rfl,zl _⟩
     . exact Eq.mpr (congrArg KpI (ZE zR _)) hk
     . refine ⟨⟨3,hil⟩,[(50,some 72),(53,some 66)],by dsimp only;omega,rfl,⟨zE (zD rfl rfl),zE (zm (zc L)),zA rfl,zA w3,trivial⟩,⟨⟨rfl,⟨rfl,rfl,rfl,rfl,λp hp j hj=>?_⟩⟩,⟨rfl,zB⟩,⟨rfl,zB⟩,⟨rfl,zB⟩,⟨rfl,zB⟩,⟨rfl,zB⟩,⟨rfl,zB⟩,⟨rfl,zB⟩,⟨rfl,zB⟩,trivial⟩⟩;have hp' : p < 3:=hp;have hj' : j < 3:=hj;show ZX _ (Zi (Nat.blt p 2) (ZT 51 L p j) _) (ZT 51 L p j);by_cases hpi : p < 2
       . refine ZU (Nat.ble_eq_true_of_le hpi) ?_;rcases (show p = 0 \/ p = 1 by omega) with rfl | rfl<;>exact qo hj' rfl
       . obtain rfl : p = 2:=by omega
         refine Zd (Zn _) ?_;rcases j with _ | _ | _ | j
         . exact zC rfl
         . exact zC rfl
         . exact zD rfl rfl
         . omega
   . repeat' (first | (apply And.intro<;>intro hc<;>(first | exact Bool.noConfusion hc | (exfalso;first | exact absurd rfl hc | omega) | (simp only [zg] at hc<;>first | exact absurd rfl hc | (exfalso;first | exact absurd rfl hc | omega) | skip) | skip)) | (refine And.intro ze ?_) | (apply And.intro) | (intro s hs;(have q : s = (L.getD 3 default).held:=hs.trans (by show (Yt zn _ _).filter (Zj none) = _;rw [Qq];exact ZE zR _);clear hs;subst q)) | (refine Exists.intro _ (And.intro ⟨rfl,rfl,rfl⟩ ?_)))
     . exact λ_ _=>⟨rfl,zl _⟩
     . exact Eq.mpr (congrArg KpI (ZE zR _)) hk
     . refine ⟨⟨4,hil⟩,[(50,some 72),(54,some 66)],by dsimp only;omega,rfl,⟨zE (zD rfl rfl),zE (zm (zc L)),zA rfl,zA w3,trivial⟩,⟨⟨rfl,⟨rfl,rfl,rfl,rfl,λp hp j hj=>?_⟩⟩,⟨rfl,zB⟩,⟨rfl,zB⟩,⟨rfl,zB⟩,⟨rfl,zB⟩,⟨rfl,zB⟩,⟨rfl,zB⟩,⟨rfl,zB⟩,⟨rfl,zB⟩,trivial⟩⟩;have hp' : p < 4:=hp;have hj' : j < 3:=hj;show ZX _ (Zi (Nat.blt p 3) (ZT 51 L p j) _) (ZT 51 L p j);by_cases hpi : p < 3
       . refine ZU (Nat.ble_eq_true_of_le hpi) ?_;rcases (show p = 0 \/ p = 1 \/ p = 2 by omega) with rfl | rfl | rfl<;>exact qo hj' rfl
       . obtain rfl : p = 3:=by omega
         refine Zd (Zn _) ?_;rcases j with _ | _ | _ | j
         . exact zC rfl
         . exact zC rfl
         . exact zD rfl rfl
         . omega
   . repeat' (first | (apply And.intro<;>intro hc<;>(first | exact Bool.noConfusion hc | (exfalso;first | exact absurd rfl hc | omega) | (simp only [zg] at hc<;>first | exact absurd rfl hc | (exfalso;first | exact absurd rfl hc | omega) | skip) | skip)) | (refine And.intro ze ?_) | (apply And.intro) | (intro s hs;(have q : s = (L.getD 4 default).held:=hs.trans (by show (Yt zn _ _).filter (Zj none) = _;rw [Qq];exact ZE zR _);clear hs;subst q)) | (refine Exists.intro _ (And.intro ⟨rfl,rfl,rfl⟩ ?_)))
     . exact λ_ _=>⟨rfl,zl _⟩
     . exact Eq.mpr (congrArg KpI (ZE zR _)) hk
     . refine ⟨⟨5,hil⟩,[(50,some 72),(55,some 66)],by dsimp only;omega,rfl,⟨zE (zD rfl rfl),zE (zm (zc L)),zA rfl,zA w3,trivial⟩,⟨⟨rfl,⟨rfl,rfl,rfl,rfl,λp hp j hj=>?_⟩⟩,⟨rfl,zB⟩,⟨rfl,zB⟩,⟨rfl,zB⟩,⟨rfl,zB⟩,⟨rfl,zB⟩,⟨rfl,zB⟩,⟨rfl,zB⟩,⟨rfl,zB⟩,trivial⟩⟩;have hp' : p < 5:=hp;have hj' : j < 3:=hj;show ZX _ (Zi (Nat.blt p 4) (ZT 51 L p j) _) (ZT 51 L p j);by_cases hpi : p < 4
       . refine ZU (Nat.ble_eq_true_of_le hpi) ?_;rcases (show p = 0 \/ p = 1 \/ p = 2 \/ p = 3 by omega) with rfl | rfl | rfl | rfl<;>exact qo hj' rfl
       . obtain rfl : p = 4:=by omega
         refine Zd (Zn _) ?_;rcases j with _ | _ | _ | j
         . exact zC rfl
         . exact zC rfl
         . exact zD rfl rfl
         . omega
   . repeat' (first | (apply And.intro<;>intro hc<;>(first | exact Bool.noConfusion hc | (exfalso;first | exact absurd rfl hc | omega) | (simp only [zg] at hc<;>first | exact absurd rfl hc | (exfalso;first | exact absurd rfl hc | omega) | skip) | skip)) | (refine And.intro ze ?_) | (apply And.intro) | (intro s hs;(have q : s = (L.getD 5 default).held:=hs.trans (by show (Yt zn _ _).filter (Zj none) = _;rw [Qq];exact ZE zR _);clear hs;subst q)) | (refine Exists.intro _ (And.intro ⟨rfl,rfl,rfl⟩ ?_)))
     . exact λ_ _=>⟨rfl,zl _⟩
     . exact Eq.mpr (congrArg KpI (ZE zR _)) hk
     . refine ⟨⟨6,hil⟩,[(50,some 72),(56,some 66)],by dsimp only;omega,rfl,⟨zE (zD rfl rfl),zE (zm (zc L)),zA rfl,zA w3,trivial⟩,⟨⟨rfl,⟨rfl,rfl,rfl,rfl,λp hp j hj=>?_⟩⟩,⟨rfl,zB⟩,⟨rfl,zB⟩,⟨rfl,zB⟩,⟨rfl,zB⟩,⟨rfl,zB⟩,⟨rfl,zB⟩,⟨rfl,zB⟩,⟨rfl,zB⟩,trivial⟩⟩;have hp' : p < 6:=hp;have hj' : j < 3:=hj;show ZX _ (Zi (Nat.blt p 5) (ZT 51 L p j) _) (ZT 51 L p j);by_cases hpi : p < 5
       . refine ZU (Nat.ble_eq_true_of_le hpi) ?_;rcases (show p = 0 \/ p = 1 \/ p = 2 \/ p = 3 \/ p = 4 by omega) with rfl | rfl | rfl | rfl | rfl<;>exact qo hj' rfl
       . obtain rfl : p = 5:=by omega
         refine Zd (Zn _) ?_;rcases j with _ | _ | _ | j
         . exact zC rfl
         . exact zC rfl
         . exact zD rfl rfl
         . omega
   . repeat' (first | (apply And.intro<;>intro hc<;>(first | exact Bool.noConfusion hc | (exfalso;first | exact absurd rfl hc | omega) | (simp only [zg] at hc<;>first | exact absurd rfl hc | (exfalso;first | exact absurd rfl hc | omega) | skip) | skip)) | (refine And.intro ze ?_) | (apply And.intro) | (intro s hs;(have q : s = (L.getD 6 default).held:=hs.trans (by show (Yt zn _ _).filter (Zj none) = _;rw [Qq];exact ZE zR _);clear hs;subst q)) | (refine Exists.intro _ (And.intro ⟨rfl,rfl,rfl⟩ ?_)))
     . exact λ_ _=>⟨rfl,zl _⟩
     . exact Eq.mpr (congrArg KpI (ZE zR _)) hk
     . refine ⟨⟨7,hil⟩,[(50,some 72),(57,some 66)],by dsimp only;omega,rfl,⟨zE (zD rfl rfl),zE (zm (zc L)),zA rfl,zA w3,trivial⟩,⟨⟨rfl,⟨rfl,rfl,rfl,rfl,λp hp j hj=>?_⟩⟩,⟨rfl,zB⟩,⟨rfl,zB⟩,⟨rfl,zB⟩,⟨rfl,zB⟩,⟨rfl,zB⟩,⟨rfl,zB⟩,⟨rfl,zB⟩,⟨rfl,zB⟩,trivial⟩⟩;have hp' : p < 7:=hp;have hj' : j < 3:=hj;show ZX _ (Zi (Nat.blt p 6) (ZT 51 L p j) _) (ZT 51 L p j);by_cases hpi : p < 6
       . refine ZU (Nat.ble_eq_true_of_le hpi) ?_;rcases (show p = 0 \/ p = 1 \/ p = 2 \/ p = 3 \/ p = 4 \/ p = 5 by omega) with rfl | rfl | rfl | rfl | rfl | rfl<;>exact qo hj' rfl
       . obtain rfl : p = 6:=by omega
         refine Zd (Zn _) ?_;rcases j with _ | _ | _ | j
         . exact zC rfl
         . exact zC rfl
         . exact zD rfl rfl
         . omega
   . repeat' (first | (apply And.intro<;>intro hc<;>(first | exact Bool.noConfusion hc | (exfalso;first | exact absurd rfl hc | omega) | (simp only [zg] at hc<;>first | exact absurd rfl hc | (exfalso;first | exact absurd rfl hc | omega) | skip) | skip)) | (refine And.intro ze ?_) | (apply And.intro) | (intro s hs;(have q : s = (L.getD 7 default).held:=hs.trans (by show (Yt zn _ _).filter (Zj none) = _;rw [Qq];exact ZE zR _);clear hs;subst q)) | (refine Exists.intro _ (And.intro ⟨rfl,rfl,rfl⟩ ?_)))
     . exact λ_ _=>⟨rfl,zl _⟩
     . exact Eq.mpr (congrArg KpI (ZE zR _)) hk
     . refine ⟨⟨8,hil⟩,[(50,some 72),(58,some 66)],by dsimp only;omega,rfl,⟨zE (zD rfl rfl),zE (zm (zc L)),zA rfl,zA w3,trivial⟩,⟨⟨rfl,⟨rfl,rfl,rfl,rfl,λp hp j hj=>?_⟩⟩,⟨rfl,zB⟩,⟨rfl,zB⟩,⟨rfl,zB⟩,⟨rfl,zB⟩,⟨rfl,zB⟩,⟨rfl,zB⟩,⟨rfl,zB⟩,⟨rfl,zB⟩,trivial⟩⟩;have hp' : p < 8:=hp;have hj' : j < 3:=hj;show ZX _ (Zi (Nat.blt p 7) (ZT 51 L p j) _) (ZT 51 L p j);by_cases hpi : p < 7
       . refine ZU (Nat.ble_eq_true_of_le hpi) ?_;rcases (show p = 0 \/ p = 1 \/ p = 2 \/ p = 3 \/ p = 4 \/ p = 5 \/ p = 6 by omega) with rfl | rfl | rfl | rfl | rfl | rfl | rfl<;>exact qo hj' rfl
       . obtain rfl : p = 7:=by omega
         refine Zd (Zn _) ?_;rcases j with _ | _ | _ | j
         . exact zC rfl
         . exact zC rfl
         . exact zD rfl rfl
         . omega
 . have hi2 : i = L.length:=by omega
   subst hi2;simp only [hldP_n];repeat' (first | (apply And.intro<;>intro hc<;>(first | exact Bool.noConfusion hc | (exfalso;first | exact absurd rfl hc | omega) | (simp only [zg] at hc<;>first | exact absurd rfl hc | (exfalso;first | exact absurd rfl hc | omega) | skip) | skip)) | (refine And.intro ze ?_) | (apply And.intro) | (intro s hs;skip) | (refine Exists.intro _ (And.intro ⟨rfl,rfl,rfl⟩ ?_)))
   conv=>whnf
   refine ⟨⟨[(0,some 50),(1,some 51),(2,some 52),(3,some 53),(4,some 54),(5,some 55),(6,some 56),(7,some 57),(8,some 58)],rfl,zE (zD rfl rfl),⟨rfl,⟨rfl,rfl,rfl,rfl,λp hp j hj=>?_⟩⟩,⟨rfl,zB⟩,⟨rfl,zB⟩,⟨rfl,zB⟩,⟨rfl,zB⟩,⟨rfl,zB⟩,⟨rfl,zB⟩,⟨rfl,zB⟩,⟨rfl,zB⟩,trivial⟩⟩
   . have hp' : p < L.length:=hp;have hj' : j < 3:=hj;rcases (show p = 0 \/ p = 1 \/ p = 2 \/ p = 3 \/ p = 4 \/ p = 5 \/ p = 6 \/ p = 7 by omega) with rfl | rfl | rfl | rfl | rfl | rfl | rfl | rfl<;>exact qo hj' rfl
abbrev clone8E : Zm:=zCQ (AC.cons (Yl ZF qA) AC.nil) (λa=>Cl8 a.1) (λa=>a.1) 9 (λnm L=>zO (.os nm 0 L.length)) (λnm L=>Ents8 (nm + 1) L)
theorem zGC : EntOk Try.prog 34 clone8E:=zAx ⟨_,Try.func34,rfl,by kernel_rfl⟩ (λ_ _=>rfl) (λnm s=>sftF_c (by have h : Sft 9 nm (.os 0 0 s.length) (.os (nm + 0) 0 s.length):=zAm (by decide);exact h)) (λnm a ha k e e' h h'=>by
 iterate 9 (rcases k with _ | k;· (injection h with h;injection h' with h';subst h h';first | exact ⟨rfl,rfl,rfl,rfl,λi hi j hj=>zA0 (zn.sh _ j hj)⟩ | exact ⟨rfl,rfl,rfl,rfl,λi hi j hj=>zFn hj (Nat.lt_of_lt_of_le hi ha.n)⟩))
 cases h) λa h=>clone8_ok a.1 h
def LMs : CsL:=(31,some zDF) :: (32,some zC3) :: (34,some clone8E) :: (37,some raiseE) :: LTk
theorem QB : qU Try.prog LMs:=⟨zu ⟨_,Try.func31,rfl,by kernel_rfl⟩ λa h=>zBa a.1 h,zu ⟨_,Try.func32,rfl,by kernel_rfl⟩ λa _=>zCW a.1,zGC,zD1,zCn⟩
def S8 (now draw : Int) (M : List Sed) : Hd:=⟨[(1,zO (.int .i64 now)),(2,zO (.int .u32 draw)),(9,zO (.os 1 0 M.length))],(1,some (qt 2 M.length M)) :: zBs 2 M,10⟩
structure SlI (L : List Sed) (now : Int) where
 i : Nat
 M : List Sed
 n : M.length = L.length
 hi : i <= L.length
 h1 : ∀ p,p < i -> M.getD p default = Zo now (L.getD p default)
 h2 : ∀ p,i <= p -> M.getD p default = L.getD p default
def Zz : Code -> Code
 | .loop c=>c
 | .block _ c=>Zz c
 | .seq a b=>match Zz a with
   | .skip=>Zz b
   | c=>c
 | _=>.skip
theorem zF {c : Wc} {t : TypeId} {l l' : List Hel} (h : l = l') : LeN c (ZL zn t l) (ZL zn t l'):=by subst h;exact zB
theorem zP {c : Wc} {d : Nat} {M : List Sed} {n : Nat} (hn : n <= 8) (h : ∀ p,p < 8 -> c.src (d + p) = some (d + p)) : LeN c (qt d n M) (qt d n M):=⟨rfl,rfl,rfl,rfl,λp hp j hj=>qo hj (h p (Nat.lt_of_lt_of_le hp hn))⟩
theorem qF {P : Nat -> Prop} (h0 : P 0) (h1 : P 1) (h2 : P 2) (h3 : P 3) (h4 : P 4) (h5 : P 5) (h6 : P 6) (h7 : P 7) : ∀ p,p < 8 -> P p:=λp hp=>by
 rcases (show p = 0 \/ p = 1 \/ p = 2 \/ p = 3 \/ p = 4 \/ p = 5 \/ p = 6 \/ p = 7 by omega) with rfl | rfl | rfl | rfl | rfl | rfl | rfl | rfl<;>assumption
theorem zAE {L : List Sed} {i : Nat} (h : i < L.length) : L.set i (L.getD i default) = L:=by
 apply List.ext_getElem
 . rw [List.length_set]
 . intro k h1 h2;rw [List.getElem_set];split
   . rename_i e;subst e;rw [List.getD_eq_getElem?_getD,List.getElem?_eq_getElem h];rfl
   . rfl
theorem ZG {c : Wc} {d p i j : Nat} {M : List Sed} {x : Sed} {y : CV} (hj : j < 3) (hp : p ≠ i) (hy : y = ZT d M p j) (hs : c.src (d + p) = some (d + p)) : ZX c y (ZT d (M.set i x) p j):=by
 subst hy;have e : ZT d (M.set i x) p j = ZT d M p j:=by unfold ZT;rw [zJ hp]
 rw [e];exact qo hj hs
theorem ZH {c : Wc} {d i j : Nat} {M : List Sed} {x : Sed} {y : CV} (hi : i < M.length) (h : ZX c y (bif Nat.beq j 2 then .os (d + i) 0 x.held.length else sedC x j)) : ZX c y (ZT d (M.set i x) i j):=by
 have e : ZT d (M.set i x) i j = bif Nat.beq j 2 then .os (d + i) 0 x.held.length else sedC x j:=by unfold ZT;rw [qH hi]
 rw [e];exact h
def S1 (L : List Sed) (now draw : Int) (s : SlI L now) : Hd:=⟨[(1,zO (.int .i64 now)),(2,zO (.int .u32 draw)),(9,zO (.os 1 0 s.M.length)),(31,zO (.int .i64 (L.length : Int))),(32,zO (.int .i64 (s.i : Int)))],(1,some (qt 2 s.M.length s.M)) :: zBs 2 s.M,10⟩
theorem sl_step {L : List Sed} {now : Int} (s : SlI L now) (h : s.i < L.length) : ∀ p,p < s.i + 1 -> (s.M.set s.i (Zo now (s.M.getD s.i default))).getD p default = Zo now (L.getD p default):=λp hp=>by
 by_cases he : p = s.i
 . subst he;rw [qH (by rw [s.n];exact h),s.h2 _ (Nat.le_refl _)]
 . rw [zJ he];exact s.h1 p (by omega)
def SlI.next {L : List Sed} {now : Int} (s : SlI L now) (h : s.i < L.length) (M' : List Sed) (hM : s.M.set s.i (Zo now (s.M.getD s.i default)) = M') : SlI L now:=⟨s.i + 1,M',by rw [<- hM,List.length_set];exact s.n,h,by rw [<- hM];exact sl_step s h,λp hp=>by rw [<- hM,zJ (by omega)];exact s.h2 p (by omega)⟩
theorem sl_end {L : List Sed} {now : Int} (s : SlI L now) (h : ¬ s.i < L.length) : s.M = L.map (Zo now):=by
 apply List.ext_getElem
 . rw [List.length_map];exact s.n
 . intro k h1 h2;have hk : k < L.length:=by rw [<- s.n];exact h1
   have e:=s.h1 k (by omega);rw [List.getD_eq_getElem?_getD,List.getElem?_eq_getElem h1,List.getD_eq_getElem?_getD,List.getElem?_eq_getElem hk] at e;rw [List.getElem_map];exact e
theorem st1_0 (L : List Sed) (now draw : Int) (hv : ZC L = true) (s : SlI L now) (hi : s.i = 0) (hil : s.i < L.length) (K : Kt) :
 Zs T (Zt LMs) 1024 Try.f21.ntmps 0 (Zz (ZK 4 (Try.f21.body.getD Code.ret))) (S1 L now draw s).fr (S1 L now draw s).H (S1 L now draw s).nx (QY (λfr H _=>Qz (S1 L now draw) (λs=>L.length - s.i) 0 (L.length - s.i) fr H) K):=by
 obtain ⟨i,M,hn,hi0,h1,h2⟩:=s;dsimp only at hi hil;subst hi;have h8:=Zp hv;have hiM : 0 < M.length:=by omega
 have hS : SdOk (M.getD 0 default):=by rw [h2 _ (Nat.le_refl _)];exact (qk hv _ (zj hil)).2
 have hk:=hS.k;have hh:=hS.n;have hmn:=hS.mn;have w3 : IntKind.i64.wrap ((0 : Int) + 1) = ((0 + 1 : Nat) : Int):=rfl;unfold S1;dsimp only;repeat' (first | (apply And.intro<;>intro hc<;>(first | exact Bool.noConfusion hc | (exfalso;first | exact absurd rfl hc | omega) | (simp only [zg] at hc<;>first | exact absurd rfl hc | (exfalso;first | exact absurd rfl hc | omega) | skip) | skip)) | (refine And.intro ze ?_) | (apply And.intro) | (intro s hs;skip) | (refine Exists.intro _ (And.intro ⟨rfl,rfl,rfl⟩ ?_)))
 conv=>whnf
 obtain ⟨W,eW⟩ : ∃ W,QK now (M.getD 0 default).held (M.getD 0 default).mn = W:=⟨_,rfl⟩;refine zQ (zT QB) (λs : {p : Nat × Int // p.1 <= (M.getD 0 default).held.length /\ QK now ((M.getD 0 default).held.drop p.1) p.2 = W}=>(⟨[(1,zO (.int .i64 now)),(2,zO (.int .u32 draw)),(9,zO (.os 1 0 M.length)),(31,zO (.int .i64 (L.length : Int))),(32,zO (.int .i64 ((0 : Nat) : Int))),(10,zO (.int .i64 ((0 : Nat) : Int))),(11,zO (.int .i64 s.1.2)),(44,zO (.os 2 0 (M.getD 0 default).held.length)),(45,zO (.int .i64 ((M.getD 0 default).held.length : Int))),(46,zO (.int .i64 (s.1.1 : Int)))],(1,some (qt 2 M.length M)) :: zBs 2 M,10⟩ : Hd)) (λs=>(M.getD 0 default).held.length - s.1.1) (λ_=>rfl) ?_ ⟨(0,(M.getD 0 default).mn),Nat.zero_le _,eW⟩ [] ⟨rfl,⟨zA rfl,zA rfl,zE (zD rfl rfl),zA rfl,zA rfl,zA rfl,zA rfl,zE (zD rfl rfl),zA rfl,zA rfl,trivial⟩,⟨⟨rfl,zP (by omega) (qF rfl rfl rfl rfl rfl rfl rfl rfl)⟩,⟨rfl,zB⟩,⟨rfl,zB⟩,⟨rfl,zB⟩,⟨rfl,zB⟩,⟨rfl,zB⟩,⟨rfl,zB⟩,⟨rfl,zB⟩,⟨rfl,zB⟩,trivial⟩⟩;rintro ⟨⟨k,l⟩,hkl,hW⟩;dsimp only at hkl hW ⊢;by_cases hkn : k < (M.getD 0 default).held.length
 . have w4 : IntKind.i64.wrap ((k : Int) + 1) = ((k + 1 : Nat) : Int):=(IntWalk.i64_in _ (by omega)).trans (by omega);have hst : QK now ((M.getD 0 default).held.drop (k + 1)) (if ((M.getD 0 default).held.getD k default).til <= now then ((M.getD 0 default).held.getD k default).num + 1 else l) = W:=by rw [<- hW,qL hkn];rfl
   have hm:=YD hS.h _ (zj hkn);have w5 : IntKind.i64.wrap (((M.getD 0 default).held.getD k default).num + 1) = ((M.getD 0 default).held.getD k default).num + 1:=IntWalk.i64_in _ (by omega);have z0 : 0 + (k : Int).toNat = k:=Nat.zero_add k;repeat' (first | (simp only [z0,w4,w5]) | (apply And.intro<;>intro hc<;>(first | exact Bool.noConfusion hc | (exfalso;first | exact absurd rfl hc | omega) | (simp only [zg] at hc<;>first | exact absurd rfl hc | (exfalso;first | exact absurd rfl hc | omega) | skip) | skip)) | (refine And.intro ze ?_) | (apply And.intro) | (intro s hs;skip) | (refine Exists.intro _ (And.intro ⟨rfl,rfl,rfl⟩ ?_)))
   . rw [if_pos hc] at hst;conv=>whnf
     exact ⟨⟨(k + 1,_),hkn,hst⟩,[],by dsimp only;omega,rfl,⟨zA rfl,zA rfl,zE (zD rfl rfl),zA rfl,zA rfl,zA rfl,zA w5,zE (zD rfl rfl),zA rfl,zA w4,trivial⟩,⟨⟨rfl,zP (by omega) (qF rfl rfl rfl rfl rfl rfl rfl rfl)⟩,⟨rfl,zB⟩,⟨rfl,zB⟩,⟨rfl,zB⟩,⟨rfl,zB⟩,⟨rfl,zB⟩,⟨rfl,zB⟩,⟨rfl,zB⟩,⟨rfl,zB⟩,trivial⟩⟩
   . rw [if_neg hc] at hst;conv=>whnf
     exact ⟨⟨(k + 1,l),hkn,hst⟩,[],by dsimp only;omega,rfl,⟨zA rfl,zA rfl,zE (zD rfl rfl),zA rfl,zA rfl,zA rfl,zA rfl,zE (zD rfl rfl),zA rfl,zA w4,trivial⟩,⟨⟨rfl,zP (by omega) (qF rfl rfl rfl rfl rfl rfl rfl rfl)⟩,⟨rfl,zB⟩,⟨rfl,zB⟩,⟨rfl,zB⟩,⟨rfl,zB⟩,⟨rfl,zB⟩,⟨rfl,zB⟩,⟨rfl,zB⟩,⟨rfl,zB⟩,trivial⟩⟩
 . obtain rfl : l = W:=by
    rw [List.drop_of_length_le (by omega)] at hW;exact hW
   clear hW;repeat' (first | (apply And.intro<;>intro hc<;>(first | exact Bool.noConfusion hc | (exfalso;first | exact absurd rfl hc | omega) | (simp only [zg] at hc<;>first | exact absurd rfl hc | (exfalso;first | exact absurd rfl hc | omega) | skip) | skip)) | (refine And.intro ze ?_) | (apply And.intro) | (intro s hs;skip) | (refine Exists.intro _ (And.intro ⟨rfl,rfl,rfl⟩ ?_)))
   . exact rfl
   . conv=>whnf
     have eM : M.set 0 (Zo now (M.getD 0 default)) = M:=by
      unfold Zo;rw [eW,show za (M.getD 0 default) l = M.getD 0 default from if_pos hc];exact zAE hiM
     exact ⟨SlI.next ⟨0,M,hn,hi0,h1,h2⟩ hil M eM,[],by dsimp only [SlI.next];omega,rfl,⟨zA rfl,zA rfl,zE (zD rfl rfl),zA rfl,zA rfl,trivial⟩,⟨⟨rfl,zP (by omega) (qF rfl rfl rfl rfl rfl rfl rfl rfl)⟩,⟨rfl,zB⟩,⟨rfl,zB⟩,⟨rfl,zB⟩,⟨rfl,zB⟩,⟨rfl,zB⟩,⟨rfl,zB⟩,⟨rfl,zB⟩,⟨rfl,zB⟩,trivial⟩⟩
   . exact Nat.le_of_eq (Nat.zero_add _)
   . exact ⟨rfl,zl _⟩
   . exact Eq.mpr (congrArg KpI (zL zR _)) hk
   . conv=>whnf
     have q : (M.getD 0 default).held.filter (Zj (some l)) = s:=(hs.trans (congrArg (List.filter (Zj (some l))) (zL zR _))).symm;clear hs;have eX : Zo now (M.getD 0 default) = ⟨(M.getD 0 default).id,l,s⟩:=by
      unfold Zo;rw [eW];exact (if_neg hc).trans (by rw [q])
     refine ⟨SlI.next ⟨0,M,hn,hi0,h1,h2⟩ hil _ (congrArg (M.set 0) eX),[(2,some 5148)],by dsimp only [SlI.next];omega,rfl,⟨zA rfl,zA rfl,zE (zD rfl (List.length_set).symm),zA rfl,zA rfl,trivial⟩,⟨⟨rfl,⟨rfl,(List.length_set).symm,rfl,rfl,λp hp j hj=>?_⟩⟩,⟨rfl,zF (congrArg Sed.held (qH (s:=⟨(M.getD 0 default).id,l,s⟩) hiM).symm)⟩,⟨rfl,zF (congrArg Sed.held (zJ (by decide)).symm)⟩,⟨rfl,zF (congrArg Sed.held (zJ (by decide)).symm)⟩,⟨rfl,zF (congrArg Sed.held (zJ (by decide)).symm)⟩,⟨rfl,zF (congrArg Sed.held (zJ (by decide)).symm)⟩,⟨rfl,zF (congrArg Sed.held (zJ (by decide)).symm)⟩,⟨rfl,zF (congrArg Sed.held (zJ (by decide)).symm)⟩,⟨rfl,zF (congrArg Sed.held (zJ (by decide)).symm)⟩,trivial⟩⟩;have hp : p < M.length:=hp;have hj : j < 3:=hj;rcases (show p = 0 \/ p = 1 \/ p = 2 \/ p = 3 \/ p = 4 \/ p = 5 \/ p = 6 \/ p = 7 by omega) with rfl | rfl | rfl | rfl | rfl | rfl | rfl | rfl;all_goals first
      | exact ZG hj (by decide) ((zq (by decide)).trans (zq (by decide))) rfl
      | skip
     refine ZH hiM ?_;rcases j with _ | _ | _ | j
     . exact zC rfl
     . exact zC rfl
     . exact zD rfl rfl
     . omega
theorem st1_1 (L : List Sed) (now draw : Int) (hv : ZC L = true) (s : SlI L now) (hi : s.i = 1) (hil : s.i < L.length) (K : Kt) :
 Zs T (Zt LMs) 1024 Try.f21.ntmps 0 (Zz (ZK 4 (Try.f21.body.getD Code.ret))) (S1 L now draw s).fr (S1 L now draw s).H (S1 L now draw s).nx (QY (λfr H _=>Qz (S1 L now draw) (λs=>L.length - s.i) 0 (L.length - s.i) fr H) K):=by
 obtain ⟨i,M,hn,hi0,h1,h2⟩:=s;dsimp only at hi hil;subst hi;have h8:=Zp hv;have hiM : 1 < M.length:=by omega
 have hS : SdOk (M.getD 1 default):=by rw [h2 _ (Nat.le_refl _)];exact (qk hv _ (zj hil)).2
 have hk:=hS.k;have hh:=hS.n;have hmn:=hS.mn;have w3 : IntKind.i64.wrap ((1 : Int) + 1) = ((1 + 1 : Nat) : Int):=rfl;unfold S1;dsimp only;repeat' (first | (apply And.intro<;>intro hc<;>(first | exact Bool.noConfusion hc | (exfalso;first | exact absurd rfl hc | omega) | (simp only [zg] at hc<;>first | exact absurd rfl hc | (exfalso;first | exact absurd rfl hc | omega) | skip) | skip)) | (refine And.intro ze ?_) | (apply And.intro) | (intro s hs;skip) | (refine Exists.intro _ (And.intro ⟨rfl,rfl,rfl⟩ ?_)))
 conv=>whnf
 obtain ⟨W,eW⟩ : ∃ W,QK now (M.getD 1 default).held (M.getD 1 default).mn = W:=⟨_,rfl⟩;refine zQ (zT QB) (λs : {p : Nat × Int // p.1 <= (M.getD 1 default).held.length /\ QK now ((M.getD 1 default).held.drop p.1) p.2 = W}=>(⟨[(1,zO (.int .i64 now)),(2,zO (.int .u32 draw)),(9,zO (.os 1 0 M.length)),(31,zO (.int .i64 (L.length : Int))),(32,zO (.int .i64 ((1 : Nat) : Int))),(10,zO (.int .i64 ((1 : Nat) : Int))),(11,zO (.int .i64 s.1.2)),(44,zO (.os 3 0 (M.getD 1 default).held.length)),(45,zO (.int .i64 ((M.getD 1 default).held.length : Int))),(46,zO (.int .i64 (s.1.1 : Int)))],(1,some (qt 2 M.length M)) :: zBs 2 M,10⟩ : Hd)) (λs=>(M.getD 1 default).held.length - s.1.1) (λ_=>rfl) ?_ ⟨(0,(M.getD 1 default).mn),Nat.zero_le _,eW⟩ [] ⟨rfl,⟨zA rfl,zA rfl,zE (zD rfl rfl),zA rfl,zA rfl,zA rfl,zA rfl,zE (zD rfl rfl),zA rfl,zA rfl,trivial⟩,⟨⟨rfl,zP (by omega) (qF rfl rfl rfl rfl rfl rfl rfl rfl)⟩,⟨rfl,zB⟩,⟨rfl,zB⟩,⟨rfl,zB⟩,⟨rfl,zB⟩,⟨rfl,zB⟩,⟨rfl,zB⟩,⟨rfl,zB⟩,⟨rfl,zB⟩,trivial⟩⟩;rintro ⟨⟨k,l⟩,hkl,hW⟩;dsimp only at hkl hW ⊢;by_cases hkn : k < (M.getD 1 default).held.length
 . have w4 : IntKind.i64.wrap ((k : Int) + 1) = ((k + 1 : Nat) : Int):=(IntWalk.i64_in _ (by omega)).trans (by omega);have hst : QK now ((M.getD 1 default).held.drop (k + 1)) (if ((M.getD 1 default).held.getD k default).til <= now then ((M.getD 1 default).held.getD k default).num + 1 else l) = W:=by rw [<- hW,qL hkn];rfl
   have hm:=YD hS.h _ (zj hkn);have w5 : IntKind.i64.wrap (((M.getD 1 default).held.getD k default).num + 1) = ((M.getD 1 default).held.getD k default).num + 1:=IntWalk.i64_in _ (by omega);have z0 : 0 + (k : Int).toNat = k:=Nat.zero_add k;repeat' (first | (simp only [z0,w4,w5]) | (apply And.intro<;>intro hc<;>(first | exact Bool.noConfusion hc | (exfalso;first | exact absurd rfl hc | omega) | (simp only [zg] at hc<;>first | exact absurd rfl hc | (exfalso;first | exact absurd rfl hc | omega) | skip) | skip)) | (refine And.intro ze ?_) | (apply And.intro) | (intro s hs;skip) | (refine Exists.intro _ (And.intro ⟨rfl,rfl,rfl⟩ ?_)))
   . rw [if_pos hc] at hst;conv=>whnf
     exact ⟨⟨(k + 1,_),hkn,hst⟩,[],by dsimp only;omega,rfl,⟨zA rfl,zA rfl,zE (zD rfl rfl),zA rfl,zA rfl,zA rfl,zA w5,zE (zD rfl rfl),zA rfl,zA w4,trivial⟩,⟨⟨rfl,zP (by omega) (qF rfl rfl rfl rfl rfl rfl rfl rfl)⟩,⟨rfl,zB⟩,⟨rfl,zB⟩,⟨rfl,zB⟩,⟨rfl,zB⟩,⟨rfl,zB⟩,⟨rfl,zB⟩,⟨rfl,zB⟩,⟨rfl,zB⟩,trivial⟩⟩
   . rw [if_neg hc] at hst;conv=>whnf
     exact ⟨⟨(k + 1,l),hkn,hst⟩,[],by dsimp only;omega,rfl,⟨zA rfl,zA rfl,zE (zD rfl rfl),zA rfl,zA rfl,zA rfl,zA rfl,zE (zD rfl rfl),zA rfl,zA w4,trivial⟩,⟨⟨rfl,zP (by omega) (qF rfl rfl rfl rfl rfl rfl rfl rfl)⟩,⟨rfl,zB⟩,⟨rfl,zB⟩,⟨rfl,zB⟩,⟨rfl,zB⟩,⟨rfl,zB⟩,⟨rfl,zB⟩,⟨rfl,zB⟩,⟨rfl,zB⟩,trivial⟩⟩
 . obtain rfl : l = W:=by
    rw [List.drop_of_length_le (by omega)] at hW;exact hW
   clear hW;repeat' (first | (apply And.intro<;>intro hc<;>(first | exact Bool.noConfusion hc | (exfalso;first | exact absurd rfl hc | omega) | (simp only [zg] at hc<;>first | exact absurd rfl hc | (exfalso;first | exact absurd rfl hc | omega) | skip) | skip)) | (refine And.intro ze ?_) | (apply And.intro) | (intro s hs;skip) | (refine Exists.intro _ (And.intro ⟨rfl,rfl,rfl⟩ ?_)))
   . exact rfl
   . conv=>whnf
     have eM : M.set 1 (Zo now (M.getD 1 default)) = M:=by
      unfold Zo;rw [eW,show za (M.getD 1 default) l = M.getD 1 default from if_pos hc];exact zAE hiM
     exact ⟨SlI.next ⟨1,M,hn,hi0,h1,h2⟩ hil M eM,[],by dsimp only [SlI.next];omega,rfl,⟨zA rfl,zA rfl,zE (zD rfl rfl),zA rfl,zA rfl,trivial⟩,⟨⟨rfl,zP (by omega) (qF rfl rfl rfl rfl rfl rfl rfl rfl)⟩,⟨rfl,zB⟩,⟨rfl,zB⟩,⟨rfl,zB⟩,⟨rfl,zB⟩,⟨rfl,zB⟩,⟨rfl,zB⟩,⟨rfl,zB⟩,⟨rfl,zB⟩,trivial⟩⟩
   . exact Nat.le_of_eq (Nat.zero_add _)
   . exact ⟨rfl,zl _⟩
   . exact Eq.mpr (congrArg KpI (zL zR _)) hk
   . conv=>whnf
     have q : (M.getD 1 default).held.filter (Zj (some l)) = s:=(hs.trans (congrArg (List.filter (Zj (some l))) (zL zR _))).symm;clear hs;have eX : Zo now (M.getD 1 default) = ⟨(M.getD 1 default).id,l,s⟩:=by
      unfold Zo;rw [eW];exact (if_neg hc).trans (by rw [q])
     refine ⟨SlI.next ⟨1,M,hn,hi0,h1,h2⟩ hil _ (congrArg (M.set 1) eX),[(3,some 5148)],by dsimp only [SlI.next];omega,rfl,⟨zA rfl,zA rfl,zE (zD rfl (List.length_set).symm),zA rfl,zA rfl,trivial⟩,⟨⟨rfl,⟨rfl,(List.length_set).symm,rfl,rfl,λp hp j hj=>?_⟩⟩,⟨rfl,zF (congrArg Sed.held (zJ (by decide)).symm)⟩,⟨rfl,zF (congrArg Sed.held (qH (s:=⟨(M.getD 1 default).id,l,s⟩) hiM).symm)⟩,⟨rfl,zF (congrArg Sed.held (zJ (by decide)).symm)⟩,⟨rfl,zF (congrArg Sed.held (zJ (by decide)).symm)⟩,⟨rfl,zF (congrArg Sed.held (zJ (by decide)).symm)⟩,⟨rfl,zF (congrArg Sed.held (zJ (by decide)).symm)⟩,⟨rfl,zF (congrArg Sed.held (zJ (by decide)).symm)⟩,⟨rfl,zF (congrArg Sed.held (zJ (by decide)).symm)⟩,trivial⟩⟩;have hp : p < M.length:=hp;have hj : j < 3:=hj;rcases (show p = 0 \/ p = 1 \/ p = 2 \/ p = 3 \/ p = 4 \/ p = 5 \/ p = 6 \/ p = 7 by omega) with rfl | rfl | rfl | rfl | rfl | rfl | rfl | rfl;all_goals first
      | exact ZG hj (by decide) ((zq (by decide)).trans (zq (by decide))) rfl
      | skip
     refine ZH hiM ?_;rcases j with _ | _ | _ | j
     . exact zC rfl
     . exact zC rfl
     . exact zD rfl rfl
     . omega
theorem st1_2 (L : List Sed) (now draw : Int) (hv : ZC L = true) (s : SlI L now) (hi : s.i = 2) (hil : s.i < L.length) (K : Kt) :
 Zs T (Zt LMs) 1024 Try.f21.ntmps 0 (Zz (ZK 4 (Try.f21.body.getD Code.ret))) (S1 L now draw s).fr (S1 L now draw s).H (S1 L now draw s).nx (QY (λfr H _=>Qz (S1 L now draw) (λs=>L.length - s.i) 0 (L.length - s.i) fr H) K):=by
 obtain ⟨i,M,hn,hi0,h1,h2⟩:=s;dsimp only at hi hil;subst hi;have h8:=Zp hv;have hiM : 2 < M.length:=by omega
 have hS : SdOk (M.getD 2 default):=by rw [h2 _ (Nat.le_refl _)];exact (qk hv _ (zj hil)).2
 have hk:=hS.k;have hh:=hS.n;have hmn:=hS.mn;have w3 : IntKind.i64.wrap ((2 : Int) + 1) = ((2 + 1 : Nat) : Int):=rfl;unfold S1;dsimp only;repeat' (first | (apply And.intro<;>intro hc<;>(first | exact Bool.noConfusion hc | (exfalso;first | exact absurd rfl hc | omega) | (simp only [zg] at hc<;>first | exact absurd rfl hc | (exfalso;first | exact absurd rfl hc | omega) | skip) | skip)) | (refine And.intro ze ?_) | (apply And.intro) | (intro s hs;skip) | (refine Exists.intro _ (And.intro ⟨rfl,rfl,rfl⟩ ?_)))
 conv=>whnf
 obtain ⟨W,eW⟩ : ∃ W,QK now (M.getD 2 default).held (M.getD 2 default).mn = W:=⟨_,rfl⟩;refine zQ (zT QB) (λs : {p : Nat × Int // p.1 <= (M.getD 2 default).held.length /\ QK now ((M.getD 2 default).held.drop p.1) p.2 = W}=>(⟨[(1,zO (.int .i64 now)),(2,zO (.int .u32 draw)),(9,zO (.os 1 0 M.length)),(31,zO (.int .i64 (L.length : Int))),(32,zO (.int .i64 ((2 : Nat) : Int))),(10,zO (.int .i64 ((2 : Nat) : Int))),(11,zO (.int .i64 s.1.2)),(44,zO (.os 4 0 (M.getD 2 default).held.length)),(45,zO (.int .i64 ((M.getD 2 default).held.length : Int))),(46,zO (.int .i64 (s.1.1 : Int)))],(1,some (qt 2 M.length M)) :: zBs 2 M,10⟩ : Hd)) (λs=>(M.getD 2 default).held.length - s.1.1) (λ_=>rfl) ?_ ⟨(0,(M.getD 2 default).mn),Nat.zero_le _,eW⟩ [] ⟨rfl,⟨zA rfl,zA rfl,zE (zD rfl rfl),zA rfl,zA rfl,zA rfl,zA rfl,zE (zD rfl rfl),zA rfl,zA rfl,trivial⟩,⟨⟨rfl,zP (by omega) (qF rfl rfl rfl rfl rfl rfl rfl rfl)⟩,⟨rfl,zB⟩,⟨rfl,zB⟩,⟨rfl,zB⟩,⟨rfl,zB⟩,⟨rfl,zB⟩,⟨rfl,zB⟩,⟨rfl,zB⟩,⟨rfl,zB⟩,trivial⟩⟩;rintro ⟨⟨k,l⟩,hkl,hW⟩;dsimp only at hkl hW ⊢;by_cases hkn : k < (M.getD 2 default).held.length
 . have w4 : IntKind.i64.wrap ((k : Int) + 1) = ((k + 1 : Nat) : Int):=(IntWalk.i64_in _ (by omega)).trans (by omega);have hst : QK now ((M.getD 2 default).held.drop (k + 1)) (if ((M.getD 2 default).held.getD k default).til <= now then ((M.getD 2 default).held.getD k default).num + 1 else l) = W:=by rw [<- hW,qL hkn];rfl
   have hm:=YD hS.h _ (zj hkn);have w5 : IntKind.i64.wrap (((M.getD 2 default).held.getD k default).num + 1) = ((M.getD 2 default).held.getD k default).num + 1:=IntWalk.i64_in _ (by omega);have z0 : 0 + (k : Int).toNat = k:=Nat.zero_add k;repeat' (first | (simp only [z0,w4,w5]) | (apply And.intro<;>intro hc<;>(first | exact Bool.noConfusion hc | (exfalso;first | exact absurd rfl hc | omega) | (simp only [zg] at hc<;>first | exact absurd rfl hc | (exfalso;first | exact absurd rfl hc | omega) | skip) | skip)) | (refine And.intro ze ?_) | (apply And.intro) | (intro s hs;skip) | (refine Exists.intro _ (And.intro ⟨rfl,rfl,rfl⟩ ?_)))
   . rw [if_pos hc] at hst;conv=>whnf
     exact ⟨⟨(k + 1,_),hkn,hst⟩,[],by dsimp only;omega,rfl,⟨zA rfl,zA rfl,zE (zD rfl rfl),zA rfl,zA rfl,zA rfl,zA w5,zE (zD rfl rfl),zA rfl,zA w4,trivial⟩,⟨⟨rfl,zP (by omega) (qF rfl rfl rfl rfl rfl rfl rfl rfl)⟩,⟨rfl,zB⟩,⟨rfl,zB⟩,⟨rfl,zB⟩,⟨rfl,zB⟩,⟨rfl,zB⟩,⟨rfl,zB⟩,⟨rfl,zB⟩,⟨rfl,zB⟩,trivial⟩⟩
   . rw [if_neg hc] at hst;conv=>whnf
     exact ⟨⟨(k + 1,l),hkn,hst⟩,[],by dsimp only;omega,rfl,⟨zA rfl,zA rfl,zE (zD rfl rfl),zA rfl,zA rfl,zA rfl,zA rfl,zE (zD rfl rfl),zA rfl,zA w4,trivial⟩,⟨⟨rfl,zP (by omega) (qF rfl rfl rfl rfl rfl rfl rfl rfl)⟩,⟨rfl,zB⟩,⟨rfl,zB⟩,⟨rfl,zB⟩,⟨rfl,zB⟩,⟨rfl,zB⟩,⟨rfl,zB⟩,⟨rfl,zB⟩,⟨rfl,zB⟩,trivial⟩⟩
 . obtain rfl : l = W:=by
    rw [List.drop_of_length_le (by omega)] at hW;exact hW
   clear hW;repeat' (first | (apply And.intro<;>intro hc<;>(first | exact Bool.noConfusion hc | (exfalso;first | exact absurd rfl hc | omega) | (simp only [zg] at hc<;>first | exact absurd rfl hc | (exfalso;first | exact absurd rfl hc | omega) | skip) | skip)) | (refine And.intro ze ?_) | (apply And.intro) | (intro s hs;skip) | (refine Exists.intro _ (And.intro ⟨rfl,rfl,rfl⟩ ?_)))
   . exact rfl
   . conv=>whnf
     have eM : M.set 2 (Zo now (M.getD 2 default)) = M:=by
      unfold Zo;rw [eW,show za (M.getD 2 default) l = M.getD 2 default from if_pos hc];exact zAE hiM
     exact ⟨SlI.next ⟨2,M,hn,hi0,h1,h2⟩ hil M eM,[],by dsimp only [SlI.next];omega,rfl,⟨zA rfl,zA rfl,zE (zD rfl rfl),zA rfl,zA rfl,trivial⟩,⟨⟨rfl,zP (by omega) (qF rfl rfl rfl rfl rfl rfl rfl rfl)⟩,⟨rfl,zB⟩,⟨rfl,zB⟩,⟨rfl,zB⟩,⟨rfl,zB⟩,⟨rfl,zB⟩,⟨rfl,zB⟩,⟨rfl,zB⟩,⟨rfl,zB⟩,trivial⟩⟩
   . exact Nat.le_of_eq (Nat.zero_add _)
   . exact ⟨rfl,zl _⟩
   . exact Eq.mpr (congrArg KpI (zL zR _)) hk
   . conv=>whnf
     have q : (M.getD 2 default).held.filter (Zj (some l)) = s:=(hs.trans (congrArg (List.filter (Zj (some l))) (zL zR _))).symm;clear hs;have eX : Zo now (M.getD 2 default) = ⟨(M.getD 2 default).id,l,s⟩:=by
      unfold Zo;rw [eW];exact (if_neg hc).trans (by rw [q])
     refine ⟨SlI.next ⟨2,M,hn,hi0,h1,h2⟩ hil _ (congrArg (M.set 2) eX),[(4,some 5148)],by dsimp only [SlI.next];omega,rfl,⟨zA rfl,zA rfl,zE (zD rfl (List.length_set).symm),zA rfl,zA rfl,trivial⟩,⟨⟨rfl,⟨rfl,(List.length_set).symm,rfl,rfl,λp hp j hj=>?_⟩⟩,⟨rfl,zF (congrArg Sed.held (zJ (by decide)).symm)⟩,⟨rfl,zF (congrArg Sed.held (zJ (by decide)).symm)⟩,⟨rfl,zF (congrArg Sed.held (qH (s:=⟨(M.getD 2 default).id,l,s⟩) hiM).symm)⟩,⟨rfl,zF (congrArg Sed.held (zJ (by decide)).symm)⟩,⟨rfl,zF (congrArg Sed.held (zJ (by decide)).symm)⟩,⟨rfl,zF (congrArg Sed.held (zJ (by decide)).symm)⟩,⟨rfl,zF (congrArg Sed.held (zJ (by decide)).symm)⟩,⟨rfl,zF (congrArg Sed.held (zJ (by decide)).symm)⟩,trivial⟩⟩;have hp : p < M.length:=hp;have hj : j < 3:=hj;rcases (show p = 0 \/ p = 1 \/ p = 2 \/ p = 3 \/ p = 4 \/ p = 5 \/ p = 6 \/ p = 7 by omega) with rfl | rfl | rfl | rfl | rfl | rfl | rfl | rfl;all_goals first
      | exact ZG hj (by decide) ((zq (by decide)).trans (zq (by decide))) rfl
      | skip
     refine ZH hiM ?_;rcases j with _ | _ | _ | j
     . exact zC rfl
     . exact zC rfl
     . exact zD rfl rfl
     . omega
theorem st1_3 (L : List Sed) (now draw : Int) (hv : ZC L = true) (s : SlI L now) (hi : s.i = 3) (hil : s.i < L.length) (K : Kt) :
 Zs T (Zt LMs) 1024 Try.f21.ntmps 0 (Zz (ZK 4 (Try.f21.body.getD Code.ret))) (S1 L now draw s).fr (S1 L now draw s).H (S1 L now draw s).nx (QY (λfr H _=>Qz (S1 L now draw) (λs=>L.length - s.i) 0 (L.length - s.i) fr H) K):=by
 obtain ⟨i,M,hn,hi0,h1,h2⟩:=s;dsimp only at hi hil;subst hi;have h8:=Zp hv;have hiM : 3 < M.length:=by omega
 have hS : SdOk (M.getD 3 default):=by rw [h2 _ (Nat.le_refl _)];exact (qk hv _ (zj hil)).2
 have hk:=hS.k;have hh:=hS.n;have hmn:=hS.mn;have w3 : IntKind.i64.wrap ((3 : Int) + 1) = ((3 + 1 : Nat) : Int):=rfl;unfold S1;dsimp only;repeat' (first | (apply And.intro<;>intro hc<;>(first | exact Bool.noConfusion hc | (exfalso;first | exact absurd rfl hc | omega) | (simp only [zg] at hc<;>first | exact absurd rfl hc | (exfalso;first | exact absurd rfl hc | omega) | skip) | skip)) | (refine And.intro ze ?_) | (apply And.intro) | (intro s hs;skip) | (refine Exists.intro _ (And.intro ⟨rfl,rfl,rfl⟩ ?_)))
 conv=>whnf
 obtain ⟨W,eW⟩ : ∃ W,QK now (M.getD 3 default).held (M.getD 3 default).mn = W:=⟨_,rfl⟩;refine zQ (zT QB) (λs : {p : Nat × Int // p.1 <= (M.getD 3 default).held.length /\ QK now ((M.getD 3 default).held.drop p.1) p.2 = W}=>(⟨[(1,zO (.int .i64 now)),(2,zO (.int .u32 draw)),(9,zO (.os 1 0 M.length)),(31,zO (.int .i64 (L.length : Int))),(32,zO (.int .i64 ((3 : Nat) : Int))),(10,zO (.int .i64 ((3 : Nat) : Int))),(11,zO (.int .i64 s.1.2)),(44,zO (.os 5 0 (M.getD 3 default).held.length)),(45,zO (.int .i64 ((M.getD 3 default).held.length : Int))),(46,zO (.int .i64 (s.1.1 : Int)))],(1,some (qt 2 M.length M)) :: zBs 2 M,10⟩ : Hd)) (λs=>(M.getD 3 default).held.length - s.1.1) (λ_=>rfl) ?_ ⟨(0,(M.getD 3 default).mn),Nat.zero_le _,eW⟩ [] ⟨rfl,⟨zA rfl,zA rfl,zE (zD rfl rfl),zA rfl,zA rfl,zA rfl,zA rfl,zE (zD rfl rfl),zA rfl,zA rfl,trivial⟩,⟨⟨rfl,zP (by omega) (qF rfl rfl rfl rfl rfl rfl rfl rfl)⟩,⟨rfl,zB⟩,⟨rfl,zB⟩,⟨rfl,zB⟩,⟨rfl,zB⟩,⟨rfl,zB⟩,⟨rfl,zB⟩,⟨rfl,zB⟩,⟨rfl,zB⟩,trivial⟩⟩;rintro ⟨⟨k,l⟩,hkl,hW⟩;dsimp only at hkl hW ⊢;by_cases hkn : k < (M.getD 3 default).held.length
 . have w4 : IntKind.i64.wrap ((k : Int) + 1) = ((k + 1 : Nat) : Int):=(IntWalk.i64_in _ (by omega)).trans (by omega);have hst : QK now ((M.getD 3 default).held.drop (k + 1)) (if ((M.getD 3 default).held.getD k default).til <= now then ((M.getD 3 default).held.getD k default).num + 1 else l) = W:=by rw [<- hW,qL hkn];rfl
   have hm:=YD hS.h _ (zj hkn);have w5 : IntKind.i64.wrap (((M.getD 3 default).held.getD k default).num + 1) = ((M.getD 3 default).held.getD k default).num + 1:=IntWalk.i64_in _ (by omega);have z0 : 0 + (k : Int).toNat = k:=Nat.zero_add k;repeat' (first | (simp only [z0,w4,w5]) | (apply And.intro<;>intro hc<;>(first | exact Bool.noConfusion hc | (exfalso;first | exact absurd rfl hc | omega) | (simp only [zg] at hc<;>first | exact absurd rfl hc | (exfalso;first | exact absurd rfl hc | omega) | skip) | skip)) | (refine And.intro ze ?_) | (apply And.intro) | (intro s hs;skip) | (refine Exists.intro _ (And.intro ⟨rfl,rfl,rfl⟩ ?_)))
   . rw [if_pos hc] at hst;conv=>whnf
     exact ⟨⟨(k + 1,_),hkn,hst⟩,[],by dsimp only;omega,rfl,⟨zA rfl,zA rfl,zE (zD rfl rfl),zA rfl,zA rfl,zA rfl,zA w5,zE (zD rfl rfl),zA rfl,zA w4,trivial⟩,⟨⟨rfl,zP (by omega) (qF rfl rfl rfl rfl rfl rfl rfl rfl)⟩,⟨rfl,zB⟩,⟨rfl,zB⟩,⟨rfl,zB⟩,⟨rfl,zB⟩,⟨rfl,zB⟩,⟨rfl,zB⟩,⟨rfl,zB⟩,⟨rfl,zB⟩,trivial⟩⟩
   . rw [if_neg hc] at hst;conv=>whnf
     exact ⟨⟨(k + 1,l),hkn,hst⟩,[],by dsimp only;omega,rfl,⟨zA rfl,zA rfl,zE (zD rfl rfl),zA rfl,zA rfl,zA rfl,zA rfl,zE (zD rfl rfl),zA rfl,zA w4,trivial⟩,⟨⟨rfl,zP (by omega) (qF rfl rfl rfl rfl rfl rfl rfl rfl)⟩,⟨rfl,zB⟩,⟨rfl,zB⟩,⟨rfl,zB⟩,⟨rfl,zB⟩,⟨rfl,zB⟩,⟨rfl,zB⟩,⟨rfl,zB⟩,⟨rfl,zB⟩,trivial⟩⟩
 . obtain rfl : l = W:=by
    rw [List.drop_of_length_le (by omega)] at hW;exact hW
   clear hW;repeat' (first | (apply And.intro<;>intro hc<;>(first | exact Bool.noConfusion hc | (exfalso;first | exact absurd rfl hc | omega) | (simp only [zg] at hc<;>first | exact absurd rfl hc | (exfalso;first | exact absurd rfl hc | omega) | skip) | skip)) | (refine And.intro ze ?_) | (apply And.intro) | (intro s hs;skip) | (refine Exists.intro _ (And.intro ⟨rfl,rfl,rfl⟩ ?_)))
   . exact rfl
   . conv=>whnf
     have eM : M.set 3 (Zo now (M.getD 3 default)) = M:=by
      unfold Zo;rw [eW,show za (M.getD 3 default) l = M.getD 3 default from if_pos hc];exact zAE hiM
     exact ⟨SlI.next ⟨3,M,hn,hi0,h1,h2⟩ hil M eM,[],by dsimp only [SlI.next];omega,rfl,⟨zA rfl,zA rfl,zE (zD rfl rfl),zA rfl,zA rfl,trivial⟩,⟨⟨rfl,zP (by omega) (qF rfl rfl rfl rfl rfl rfl rfl rfl)⟩,⟨rfl,zB⟩,⟨rfl,zB⟩,⟨rfl,zB⟩,⟨rfl,zB⟩,⟨rfl,zB⟩,⟨rfl,zB⟩,⟨rfl,zB⟩,⟨rfl,zB⟩,trivial⟩⟩
   . exact Nat.le_of_eq (Nat.zero_add _)
   . exact ⟨rfl,zl _⟩
   . exact Eq.mpr (congrArg KpI (zL zR _)) hk
   . conv=>whnf
     have q : (M.getD 3 default).held.filter (Zj (some l)) = s:=(hs.trans (congrArg (List.filter (Zj (some l))) (zL zR _))).symm;clear hs;have eX : Zo now (M.getD 3 default) = ⟨(M.getD 3 default).id,l,s⟩:=by
      unfold Zo;rw [eW];exact (if_neg hc).trans (by rw [q])
     refine ⟨SlI.next ⟨3,M,hn,hi0,h1,h2⟩ hil _ (congrArg (M.set 3) eX),[(5,some 5148)],by dsimp only [SlI.next];omega,rfl,⟨zA rfl,zA rfl,zE (zD rfl (List.length_set).symm),zA rfl,zA rfl,trivial⟩,⟨⟨rfl,⟨rfl,(List.length_set).symm,rfl,rfl,λp hp j hj=>?_⟩⟩,⟨rfl,zF (congrArg Sed.held (zJ (by decide)).symm)⟩,⟨rfl,zF (congrArg Sed.held (zJ (by decide)).symm)⟩,⟨rfl,zF (congrArg Sed.held (zJ (by decide)).symm)⟩,⟨rfl,zF (congrArg Sed.held (qH (s:=⟨(M.getD 3 default).id,l,s⟩) hiM).symm)⟩,⟨rfl,zF (congrArg Sed.held (zJ (by decide)).symm)⟩,⟨rfl,zF (congrArg Sed.held (zJ (by decide)).symm)⟩,⟨rfl,zF (congrArg Sed.held (zJ (by decide)).symm)⟩,⟨rfl,zF (congrArg Sed.held (zJ (by decide)).symm)⟩,trivial⟩⟩;have hp : p < M.length:=hp;have hj : j < 3:=hj;rcases (show p = 0 \/ p = 1 \/ p = 2 \/ p = 3 \/ p = 4 \/ p = 5 \/ p = 6 \/ p = 7 by omega) with rfl | rfl | rfl | rfl | rfl | rfl | rfl | rfl;all_goals first
      | exact ZG hj (by decide) ((zq (by decide)).trans (zq (by decide))) rfl
      | skip
     refine ZH hiM ?_;rcases j with _ | _ | _ | j
     . exact zC rfl
     . exact zC rfl
     . exact zD rfl rfl
     . omega
theorem st1_4 (L : List Sed) (now draw : Int) (hv : ZC L = true) (s : SlI L now) (hi : s.i = 4) (hil : s.i < L.length) (K : Kt) :
 Zs T (Zt LMs) 1024 Try.f21.ntmps 0 (Zz (ZK 4 (Try.f21.body.getD Code.ret))) (S1 L now draw s).fr (S1 L now draw s).H (S1 L now draw s).nx (QY (λfr H _=>Qz (S1 L now draw) (λs=>L.length - s.i) 0 (L.length - s.i) fr H) K):=by
 obtain ⟨i,M,hn,hi0,h1,h2⟩:=s;dsimp only at hi hil;subst hi;have h8:=Zp hv;have hiM : 4 < M.length:=by omega
 have hS : SdOk (M.getD 4 default):=by rw [h2 _ (Nat.le_refl _)];exact (qk hv _ (zj hil)).2
 have hk:=hS.k;have hh:=hS.n;have hmn:=hS.mn;have w3 : IntKind.i64.wrap ((4 : Int) + 1) = ((4 + 1 : Nat) : Int):=rfl;unfold S1;dsimp only;repeat' (first | (apply And.intro<;>intro hc<;>(first | exact Bool.noConfusion hc | (exfalso;first | exact absurd rfl hc | omega) | (simp only [zg] at hc<;>first | exact absurd rfl hc | (exfalso;first | exact absurd rfl hc | omega) | skip) | skip)) | (refine And.intro ze ?_) | (apply And.intro) | (intro s hs;skip) | (refine Exists.intro _ (And.intro ⟨rfl,rfl,rfl⟩ ?_)))
 conv=>whnf
 obtain ⟨W,eW⟩ : ∃ W,QK now (M.getD 4 default).held (M.getD 4 default).mn = W:=⟨_,rfl⟩;refine zQ (zT QB) (λs : {p : Nat × Int // p.1 <= (M.getD 4 default).held.length /\ QK now ((M.getD 4 default).held.drop p.1) p.2 = W}=>(⟨[(1,zO (.int .i64 now)),(2,zO (.int .u32 draw)),(9,zO (.os 1 0 M.length)),(31,zO (.int .i64 (L.length : Int))),(32,zO (.int .i64 ((4 : Nat) : Int))),(10,zO (.int .i64 ((4 : Nat) : Int))),(11,zO (.int .i64 s.1.2)),(44,zO (.os 6 0 (M.getD 4 default).held.length)),(45,zO (.int .i64 ((M.getD 4 default).held.length : Int))),(46,zO (.int .i64 (s.1.1 : Int)))],(1,some (qt 2 M.length M)) :: zBs 2 M,10⟩ : Hd)) (λs=>(M.getD 4 default).held.length - s.1.1) (λ_=>rfl) ?_ ⟨(0,(M.getD 4 default).mn),Nat.zero_le _,eW⟩ [] ⟨rfl,⟨zA rfl,zA rfl,zE (zD rfl rfl),zA rfl,zA rfl,zA rfl,zA rfl,zE (zD rfl rfl),zA rfl,zA rfl,trivial⟩,⟨⟨rfl,zP (by omega) (qF rfl rfl rfl rfl rfl rfl rfl rfl)⟩,⟨rfl,zB⟩,⟨rfl,zB⟩,⟨rfl,zB⟩,⟨rfl,zB⟩,⟨rfl,zB⟩,⟨rfl,zB⟩,⟨rfl,zB⟩,⟨rfl,zB⟩,trivial⟩⟩;rintro ⟨⟨k,l⟩,hkl,hW⟩;dsimp only at hkl hW ⊢;by_cases hkn : k < (M.getD 4 default).held.length
 . have w4 : IntKind.i64.wrap ((k : Int) + 1) = ((k + 1 : Nat) : Int):=(IntWalk.i64_in _ (by omega)).trans (by omega);have hst : QK now ((M.getD 4 default).held.drop (k + 1)) (if ((M.getD 4 default).held.getD k default).til <= now then ((M.getD 4 default).held.getD k default).num + 1 else l) = W:=by rw [<- hW,qL hkn];rfl
   have hm:=YD hS.h _ (zj hkn);have w5 : IntKind.i64.wrap (((M.getD 4 default).held.getD k default).num + 1) = ((M.getD 4 default).held.getD k default).num + 1:=IntWalk.i64_in _ (by omega);have z0 : 0 + (k : Int).toNat = k:=Nat.zero_add k;repeat' (first | (simp only [z0,w4,w5]) | (apply And.intro<;>intro hc<;>(first | exact Bool.noConfusion hc | (exfalso;first | exact absurd rfl hc | omega) | (simp only [zg] at hc<;>first | exact absurd rfl hc | (exfalso;first | exact absurd rfl hc | omega) | skip) | skip)) | (refine And.intro ze ?_) | (apply And.intro) | (intro s hs;skip) | (refine Exists.intro _ (And.intro ⟨rfl,rfl,rfl⟩ ?_)))
   . rw [if_pos hc] at hst;conv=>whnf
     exact ⟨⟨(k + 1,_),hkn,hst⟩,[],by dsimp only;omega,rfl,⟨zA rfl,zA rfl,zE (zD rfl rfl),zA rfl,zA rfl,zA rfl,zA w5,zE (zD rfl rfl),zA rfl,zA w4,trivial⟩,⟨⟨rfl,zP (by omega) (qF rfl rfl rfl rfl rfl rfl rfl rfl)⟩,⟨rfl,zB⟩,⟨rfl,zB⟩,⟨rfl,zB⟩,⟨rfl,zB⟩,⟨rfl,zB⟩,⟨rfl,zB⟩,⟨rfl,zB⟩,⟨rfl,zB⟩,trivial⟩⟩
   . rw [if_neg hc] at hst;conv=>whnf
     exact ⟨⟨(k + 1,l),hkn,hst⟩,[],by dsimp only;omega,rfl,⟨zA rfl,zA rfl,zE (zD rfl rfl),zA rfl,zA rfl,zA rfl,zA rfl,zE (zD rfl rfl),zA rfl,zA w4,trivial⟩,⟨⟨rfl,zP (by omega) (qF rfl rfl rfl rfl rfl rfl rfl rfl)⟩,⟨rfl,zB⟩,⟨rfl,zB⟩,⟨rfl,zB⟩,⟨rfl,zB⟩,⟨rfl,zB⟩,⟨rfl,zB⟩,⟨rfl,zB⟩,⟨rfl,zB⟩,trivial⟩⟩
 . obtain rfl : l = W:=by
    rw [List.drop_of_length_le (by omega)] at hW;exact hW
   clear hW;repeat' (first | (apply And.intro<;>intro hc<;>(first | exact Bool.noConfusion hc | (exfalso;first | exact absurd rfl hc | omega) | (simp only [zg] at hc<;>first | exact absurd rfl hc | (exfalso;first | exact absurd rfl hc | omega) | skip) | skip)) | (refine And.intro ze ?_) | (apply And.intro) | (intro s hs;skip) | (refine Exists.intro _ (And.intro ⟨rfl,rfl,rfl⟩ ?_)))
   . exact rfl
   . conv=>whnf
     have eM : M.set 4 (Zo now (M.getD 4 default)) = M:=by
      unfold Zo;rw [eW,show za (M.getD 4 default) l = M.getD 4 default from if_pos hc];exact zAE hiM
     exact ⟨SlI.next ⟨4,M,hn,hi0,h1,h2⟩ hil M eM,[],by dsimp only [SlI.next];omega,rfl,⟨zA rfl,zA rfl,zE (zD rfl rfl),zA rfl,zA rfl,trivial⟩,⟨⟨rfl,zP (by omega) (qF rfl rfl rfl rfl rfl rfl rfl rfl)⟩,⟨rfl,zB⟩,⟨rfl,zB⟩,⟨rfl,zB⟩,⟨rfl,zB⟩,⟨rfl,zB⟩,⟨rfl,zB⟩,⟨rfl,zB⟩,⟨rfl,zB⟩,trivial⟩⟩
   . exact Nat.le_of_eq (Nat.zero_add _)
   . exact ⟨rfl,zl _⟩
   . exact Eq.mpr (congrArg KpI (zL zR _)) hk
   . conv=>whnf
     have q : (M.getD 4 default).held.filter (Zj (some l)) = s:=(hs.trans (congrArg (List.filter (Zj (some l))) (zL zR _))).symm;clear hs;have eX : Zo now (M.getD 4 default) = ⟨(M.getD 4 default).id,l,s⟩:=by
      unfold Zo;rw [eW];exact (if_neg hc).trans (by rw [q])
     refine ⟨SlI.next ⟨4,M,hn,hi0,h1,h2⟩ hil _ (congrArg (M.set 4) eX),[(6,some 5148)],by dsimp only [SlI.next];omega,rfl,⟨zA rfl,zA rfl,zE (zD rfl (List.length_set).symm),zA rfl,zA rfl,trivial⟩,⟨⟨rfl,⟨rfl,(List.length_set).symm,rfl,rfl,λp hp j hj=>?_⟩⟩,⟨rfl,zF (congrArg Sed.held (zJ (by decide)).symm)⟩,⟨rfl,zF (congrArg Sed.held (zJ (by decide)).symm)⟩,⟨rfl,zF (congrArg Sed.held (zJ (by decide)).symm)⟩,⟨rfl,zF (congrArg Sed.held (zJ (by decide)).symm)⟩,⟨rfl,zF (congrArg Sed.held (qH (s:=⟨(M.getD 4 default).id,l,s⟩) hiM).symm)⟩,⟨rfl,zF (congrArg Sed.held (zJ (by decide)).symm)⟩,⟨rfl,zF (congrArg Sed.held (zJ (by decide)).symm)⟩,⟨rfl,zF (congrArg Sed.held (zJ (by decide)).symm)⟩,trivial⟩⟩;have hp : p < M.length:=hp;have hj : j < 3:=hj;rcases (show p = 0 \/ p = 1 \/ p = 2 \/ p = 3 \/ p = 4 \/ p = 5 \/ p = 6 \/ p = 7 by omega) with rfl | rfl | rfl | rfl | rfl | rfl | rfl | rfl;all_goals first
      | exact ZG hj (by decide) ((zq (by decide)).trans (zq (by decide))) rfl
      | skip
     refine ZH hiM ?_;rcases j with _ | _ | _ | j
     . exact zC rfl
     . exact zC rfl
     . exact zD rfl rfl
     . omega
theorem st1_5 (L : List Sed) (now draw : Int) (hv : ZC L = true) (s : SlI L now) (hi : s.i = 5) (hil : s.i < L.length) (K : Kt) :
 Zs T (Zt LMs) 1024 Try.f21.ntmps 0 (Zz (ZK 4 (Try.f21.body.getD Code.ret))) (S1 L now draw s).fr (S1 L now draw s).H (S1 L now draw s).nx (QY (λfr H _=>Qz (S1 L now draw) (λs=>L.length - s.i) 0 (L.length - s.i) fr H) K):=by
 obtain ⟨i,M,hn,hi0,h1,h2⟩:=s;dsimp only at hi hil;subst hi;have h8:=Zp hv;have hiM : 5 < M.length:=by omega
 have hS : SdOk (M.getD 5 default):=by rw [h2 _ (Nat.le_refl _)];exact (qk hv _ (zj hil)).2
 have hk:=hS.k;have hh:=hS.n;have hmn:=hS.mn;have w3 : IntKind.i64.wrap ((5 : Int) + 1) = ((5 + 1 : Nat) : Int):=rfl;unfold S1;dsimp only;repeat' (first | (apply And.intro<;>intro hc<;>(first | exact Bool.noConfusion hc | (exfalso;first | exact absurd rfl hc | omega) | (simp only [zg] at hc<;>first | exact absurd rfl hc | (exfalso;first | exact absurd rfl hc | omega) | skip) | skip)) | (refine And.intro ze ?_) | (apply And.intro) | (intro s hs;skip) | (refine Exists.intro _ (And.intro ⟨rfl,rfl,rfl⟩ ?_)))
 conv=>whnf
 obtain ⟨W,eW⟩ : ∃ W,QK now (M.getD 5 default).held (M.getD 5 default).mn = W:=⟨_,rfl⟩;refine zQ (zT QB) (λs : {p : Nat × Int // p.1 <= (M.getD 5 default).held.length /\ QK now ((M.getD 5 default).held.drop p.1) p.2 = W}=>(⟨[(1,zO (.int .i64 now)),(2,zO (.int .u32 draw)),(9,zO (.os 1 0 M.length)),(31,zO (.int .i64 (L.length : Int))),(32,zO (.int .i64 ((5 : Nat) : Int))),(10,zO (.int .i64 ((5 : Nat) : Int))),(11,zO (.int .i64 s.1.2)),(44,zO (.os 7 0 (M.getD 5 default).held.length)),(45,zO (.int .i64 ((M.getD 5 default).held.length : Int))),(46,zO (.int .i64 (s.1.1 : Int)))],(1,some (qt 2 M.length M)) :: zBs 2 M,10⟩ : Hd)) (λs=>(M.getD 5 default).held.length - s.1.1) (λ_=>rfl) ?_ ⟨(0,(M.getD 5 default).mn),Nat.zero_le _,eW⟩ [] ⟨rfl,⟨zA rfl,zA rfl,zE (zD rfl rfl),zA rfl,zA rfl,zA rfl,zA rfl,zE (zD rfl rfl),zA rfl,zA rfl,trivial⟩,⟨⟨rfl,zP (by omega) (qF rfl rfl rfl rfl rfl rfl rfl rfl)⟩,⟨rfl,zB⟩,⟨rfl,zB⟩,⟨rfl,zB⟩,⟨rfl,zB⟩,⟨rfl,zB⟩,⟨rfl,zB⟩,⟨rfl,zB⟩,⟨rfl,zB⟩,trivial⟩⟩;rintro ⟨⟨k,l⟩,hkl,hW⟩;dsimp only at hkl hW ⊢;by_cases hkn : k < (M.getD 5 default).held.length
 . have w4 : IntKind.i64.wrap ((k : Int) + 1) = ((k + 1 : Nat) : Int):=(IntWalk.i64_in _ (by omega)).trans (by omega);have hst : QK now ((M.getD 5 default).held.drop (k + 1)) (if ((M.getD 5 default).held.getD k default).til <= now then ((M.getD 5 default).held.getD k default).num + 1 else l) = W:=by rw [<- hW,qL hkn];rfl
   have hm:=YD hS.h _ (zj hkn);have w5 : IntKind.i64.wrap (((M.getD 5 default).held.getD k default).num + 1) = ((M.getD 5 default).held.getD k default).num + 1:=IntWalk.i64_in _ (by omega);have z0 : 0 + (k : Int).toNat = k:=Nat.zero_add k;repeat' (first | (simp only [z0,w4,w5]) | (apply And.intro<;>intro hc<;>(first | exact Bool.noConfusion hc | (exfalso;first | exact absurd rfl hc | omega) | (simp only [zg] at hc<;>first | exact absurd rfl hc | (exfalso;first | exact absurd rfl hc | omega) | skip) | skip)) | (refine And.intro ze ?_) | (apply And.intro) | (intro s hs;skip) | (refine Exists.intro _ (And.intro ⟨rfl,rfl,rfl⟩ ?_)))
   . rw [if_pos hc] at hst;conv=>whnf
     exact ⟨⟨(k + 1,_),hkn,hst⟩,[],by dsimp only;omega,rfl,⟨zA rfl,zA rfl,zE (zD rfl rfl),zA rfl,zA rfl,zA rfl,zA w5,zE (zD rfl rfl),zA rfl,zA w4,trivial⟩,⟨⟨rfl,zP (by omega) (qF rfl rfl rfl rfl rfl rfl rfl rfl)⟩,⟨rfl,zB⟩,⟨rfl,zB⟩,⟨rfl,zB⟩,⟨rfl,zB⟩,⟨rfl,zB⟩,⟨rfl,zB⟩,⟨rfl,zB⟩,⟨rfl,zB⟩,trivial⟩⟩
   . rw [if_neg hc] at hst;conv=>whnf
     exact ⟨⟨(k + 1,l),hkn,hst⟩,[],by dsimp only;omega,rfl,⟨zA rfl,zA rfl,zE (zD rfl rfl),zA rfl,zA rfl,zA rfl,zA rfl,zE (zD rfl rfl),zA rfl,zA w4,trivial⟩,⟨⟨rfl,zP (by omega) (qF rfl rfl rfl rfl rfl rfl rfl rfl)⟩,⟨rfl,zB⟩,⟨rfl,zB⟩,⟨rfl,zB⟩,⟨rfl,zB⟩,⟨rfl,zB⟩,⟨rfl,zB⟩,⟨rfl,zB⟩,⟨rfl,zB⟩,trivial⟩⟩
 . obtain rfl : l = W:=by
    rw [List.drop_of_length_le (by omega)] at hW;exact hW
   clear hW;repeat' (first | (apply And.intro<;>intro hc<;>(first | exact Bool.noConfusion hc | (exfalso;first | exact absurd rfl hc | omega) | (simp only [zg] at hc<;>first | exact absurd rfl hc | (exfalso;first | exact absurd rfl hc | omega) | skip) | skip)) | (refine And.intro ze ?_) | (apply And.intro) | (intro s hs;skip) | (refine Exists.intro _ (And.intro ⟨rfl,rfl,rfl⟩ ?_)))
   . exact rfl
   . conv=>whnf
     have eM : M.set 5 (Zo now (M.getD 5 default)) = M:=by
      unfold Zo;rw [eW,show za (M.getD 5 default) l = M.getD 5 default from if_pos hc];exact zAE hiM
     exact ⟨SlI.next ⟨5,M,hn,hi0,h1,h2⟩ hil M eM,[],by dsimp only [SlI.next];omega,rfl,⟨zA rfl,zA rfl,zE (zD rfl rfl),zA rfl,zA rfl,trivial⟩,⟨⟨rfl,zP (by omega) (qF rfl rfl rfl rfl rfl rfl rfl rfl)⟩,⟨rfl,zB⟩,⟨rfl,zB⟩,⟨rfl,zB⟩,⟨rfl,zB⟩,⟨rfl,zB⟩,⟨rfl,zB⟩,⟨rfl,zB⟩,⟨rfl,zB⟩,trivial⟩⟩
   . exact Nat.le_of_eq (Nat.zero_add _)
   . exact ⟨rfl,zl _⟩
   . exact Eq.mpr (congrArg KpI (zL zR _)) hk
   . conv=>whnf
     have q : (M.getD 5 default).held.filter (Zj (some l)) = s:=(hs.trans (congrArg (List.filter (Zj (some l))) (zL zR _))).symm;clear hs;have eX : Zo now (M.getD 5 default) = ⟨(M.getD 5 default).id,l,s⟩:=by
      unfold Zo;rw [eW];exact (if_neg hc).trans (by rw [q])
     refine ⟨SlI.next ⟨5,M,hn,hi0,h1,h2⟩ hil _ (congrArg (M.set 5) eX),[(7,some 5148)],by dsimp only [SlI.next];omega,rfl,⟨zA rfl,zA rfl,zE (zD rfl (List.length_set).symm),zA rfl,zA rfl,trivial⟩,⟨⟨rfl,⟨rfl,(List.length_set).symm,rfl,rfl,λp hp j hj=>?_⟩⟩,⟨rfl,zF (congrArg Sed.held (zJ (by decide)).symm)⟩,⟨rfl,zF (congrArg Sed.held (zJ (by decide)).symm)⟩,⟨rfl,zF (congrArg Sed.held (zJ (by decide)).symm)⟩,⟨rfl,zF (congrArg Sed.held (zJ (by decide)).symm)⟩,⟨rfl,zF (congrArg Sed.held (zJ (by decide)).symm)⟩,⟨rfl,zF (congrArg Sed.held (qH (s:=⟨(M.getD 5 default).id,l,s⟩) hiM).symm)⟩,⟨rfl,zF (congrArg Sed.held (zJ (by decide)).symm)⟩,⟨rfl,zF (congrArg Sed.held (zJ (by decide)).symm)⟩,trivial⟩⟩;have hp : p < M.length:=hp;have hj : j < 3:=hj;rcases (show p = 0 \/ p = 1 \/ p = 2 \/ p = 3 \/ p = 4 \/ p = 5 \/ p = 6 \/ p = 7 by omega) with rfl | rfl | rfl | rfl | rfl | rfl | rfl | rfl;all_goals first
      | exact ZG hj (by decide) ((zq (by decide)).trans (zq (by decide))) rfl
      | skip
     refine ZH hiM ?_;rcases j with _ | _ | _ | j
     . exact zC rfl
     . exact zC rfl
     . exact zD rfl rfl
     . omega
theorem st1_6 (L : List Sed) (now draw : Int) (hv : ZC L = true) (s : SlI L now) (hi : s.i = 6) (hil : s.i < L.length) (K : Kt) :
 Zs T (Zt LMs) 1024 Try.f21.ntmps 0 (Zz (ZK 4 (Try.f21.body.getD Code.ret))) (S1 L now draw s).fr (S1 L now draw s).H (S1 L now draw s).nx (QY (λfr H _=>Qz (S1 L now draw) (λs=>L.length - s.i) 0 (L.length - s.i) fr H) K):=by
 obtain ⟨i,M,hn,hi0,h1,h2⟩:=s;dsimp only at hi hil;subst hi;have h8:=Zp hv;have hiM : 6 < M.length:=by omega
 have hS : SdOk (M.getD 6 default):=by rw [h2 _ (Nat.le_refl _)];exact (qk hv _ (zj hil)).2
 have hk:=hS.k;have hh:=hS.n;have hmn:=hS.mn;have w3 : IntKind.i64.wrap ((6 : Int) + 1) = ((6 + 1 : Nat) : Int):=rfl;unfold S1;dsimp only;repeat' (first | (apply And.intro<;>intro hc<;>(first | exact Bool.noConfusion hc | (exfalso;first | exact absurd rfl hc | omega) | (simp only [zg] at hc<;>first | exact absurd rfl hc | (exfalso;first | exact absurd rfl hc | omega) | skip) | skip)) | (refine And.intro ze ?_) | (apply And.intro) | (intro s hs;skip) | (refine Exists.intro _ (And.intro ⟨rfl,rfl,rfl⟩ ?_)))
 conv=>whnf
 obtain ⟨W,eW⟩ : ∃ W,QK now (M.getD 6 default).held (M.getD 6 default).mn = W:=⟨_,rfl⟩;refine zQ (zT QB) (λs : {p : Nat × Int // p.1 <= (M.getD 6 default).held.length /\ QK now ((M.getD 6 default).held.drop p.1) p.2 = W}=>(⟨[(1,zO (.int .i64 now)),(2,zO (.int .u32 draw)),(9,zO (.os 1 0 M.length)),(31,zO (.int .i64 (L.length : Int))),(32,zO (.int .i64 ((6 : Nat) : Int))),(10,zO (.int .i64 ((6 : Nat) : Int))),(11,zO (.int .i64 s.1.2)),(44,zO (.os 8 0 (M.getD 6 default).held.length)),(45,zO (.int .i64 ((M.getD 6 default).held.length : Int))),(46,zO (.int .i64 (s.1.1 : Int)))],(1,some (qt 2 M.length M)) :: zBs 2 M,10⟩ : Hd)) (λs=>(M.getD 6 default).held.length - s.1.1) (λ_=>rfl) ?_ ⟨(0,(M.getD 6 default).mn),Nat.zero_le _,eW⟩ [] ⟨rfl,⟨zA rfl,zA rfl,zE (zD rfl rfl),zA rfl,zA rfl,zA rfl,zA rfl,zE (zD rfl rfl),zA rfl,zA rfl,trivial⟩,⟨⟨rfl,zP (by omega) (qF rfl rfl rfl rfl rfl rfl rfl rfl)⟩,⟨rfl,zB⟩,⟨rfl,zB⟩,⟨rfl,zB⟩,⟨rfl,zB⟩,⟨rfl,zB⟩,⟨rfl,zB⟩,⟨rfl,zB⟩,⟨rfl,zB⟩,trivial⟩⟩;rintro ⟨⟨k,l⟩,hkl,hW⟩;dsimp only at hkl hW ⊢;by_cases hkn : k < (M.getD 6 default).held.length
 . have w4 : IntKind.i64.wrap ((k : Int) + 1) = ((k + 1 : Nat) : Int):=(IntWalk.i64_in _ (by omega)).trans (by omega);have hst : QK now ((M.getD 6 default).held.drop (k + 1)) (if ((M.getD 6 default).held.getD k default).til <= now then ((M.getD 6 default).held.getD k default).num + 1 else l) = W:=by rw [<- hW,qL hkn];rfl
   have hm:=YD hS.h _ (zj hkn);have w5 : IntKind.i64.wrap (((M.getD 6 default).held.getD k default).num + 1) = ((M.getD 6 default).held.getD k default).num + 1:=IntWalk.i64_in _ (by omega);have z0 : 0 + (k : Int).toNat = k:=Nat.zero_add k;repeat' (first | (simp only [z0,w4,w5]) | (apply And.intro<;>intro hc<;>(first | exact Bool.noConfusion hc | (exfalso;first | exact absurd rfl hc | omega) | (simp only [zg] at hc<;>first | exact absurd rfl hc | (exfalso;first | exact absurd rfl hc | omega) | skip) | skip)) | (refine And.intro ze ?_) | (apply And.intro) | (intro s hs;skip) | (refine Exists.intro _ (And.intro ⟨rfl,rfl,rfl⟩ ?_)))
   . rw [if_pos hc] at hst;conv=>whnf
     exact ⟨⟨(k + 1,_),hkn,hst⟩,[],by dsimp only;omega,rfl,⟨zA rfl,zA rfl,zE (zD rfl rfl),zA rfl,zA rfl,zA rfl,zA w5,zE (zD rfl rfl),zA rfl,zA w4,trivial⟩,⟨⟨rfl,zP (by omega) (qF rfl rfl rfl rfl rfl rfl rfl rfl)⟩,⟨rfl,zB⟩,⟨rfl,zB⟩,⟨rfl,zB⟩,⟨rfl,zB⟩,⟨rfl,zB⟩,⟨rfl,zB⟩,⟨rfl,zB⟩,⟨rfl,zB⟩,trivial⟩⟩
   . rw [if_neg hc] at hst;conv=>whnf
     exact ⟨⟨(k + 1,l),hkn,hst⟩,[],by dsimp only;omega,rfl,⟨zA rfl,zA rfl,zE (zD rfl rfl),zA rfl,zA rfl,zA rfl,zA rfl,zE (zD rfl rfl),zA rfl,zA w4,trivial⟩,⟨⟨rfl,zP (by omega) (qF rfl rfl rfl rfl rfl rfl rfl rfl)⟩,⟨rfl,zB⟩,⟨rfl,zB⟩,⟨rfl,zB⟩,⟨rfl,zB⟩,⟨rfl,zB⟩,⟨rfl,zB⟩,⟨rfl,zB⟩,⟨rfl,zB⟩,trivial⟩⟩
 . obtain rfl : l = W:=by
    rw [List.drop_of_length_le (by omega)] at hW;exact hW
   clear hW;repeat' (first | (apply And.intro<;>intro hc<;>(first | exact Bool.noConfusion hc | (exfalso;first | exact absurd rfl hc | omega) | (simp only [zg] at hc<;>first | exact absurd rfl hc | (exfalso;first | exact absurd rfl hc | omega) | skip) | skip)) | (refine And.intro ze ?_) | (apply And.intro) | (intro s hs;skip) | (refine Exists.intro _ (And.intro ⟨rfl,rfl,rfl⟩ ?_)))
   . exact rfl
   . conv=>whnf
     have eM : M.set 6 (Zo now (M.getD 6 default)) = M:=by
      unfold Zo;rw [eW,show za (M.getD 6 default) l = M.getD 6 default from if_pos hc];exact zAE hiM
     exact ⟨SlI.next ⟨6,M,hn,hi0,h1,h2⟩ hil M eM,[],by dsimp only [SlI.next];omega,rfl,⟨zA rfl,zA rfl,zE (zD rfl rfl),zA rfl,zA rfl,trivial⟩,⟨⟨rfl,zP (by omega) (qF rfl rfl rfl rfl rfl rfl rfl rfl)⟩,⟨rfl,zB⟩,⟨rfl,zB⟩,⟨rfl,zB⟩,⟨rfl,zB⟩,⟨rfl,zB⟩,⟨rfl,zB⟩,⟨rfl,zB⟩,⟨rfl,zB⟩,trivial⟩⟩
   . exact Nat.le_of_eq (Nat.zero_add _)
   . exact ⟨rfl,zl _⟩
   . exact Eq.mpr (congrArg KpI (zL zR _)) hk
   . conv=>whnf
     have q : (M.getD 6 default).held.filter (Zj (some l)) = s:=(hs.trans (congrArg (List.filter (Zj (some l))) (zL zR _))).symm;clear hs;have eX : Zo now (M.getD 6 default) = ⟨(M.getD 6 default).id,l,s⟩:=by
      unfold Zo;rw [eW];exact (if_neg hc).trans (by rw [q])
     refine ⟨SlI.next ⟨6,M,hn,hi0,h1,h2⟩ hil _ (congrArg (M.set 6) eX),[(8,some 5148)],by dsimp only [SlI.next];omega,rfl,⟨zA rfl,zA rfl,zE (zD rfl (List.length_set).symm),zA rfl,zA rfl,trivial⟩,⟨⟨rfl,⟨rfl,(List.length_set).symm,rfl,rfl,λp hp j hj=>?_⟩⟩,⟨rfl,zF (congrArg Sed.held (zJ (by decide)).symm)⟩,⟨rfl,zF (congrArg Sed.held (zJ (by decide)).symm)⟩,⟨rfl,zF (congrArg Sed.held (zJ (by decide)).symm)⟩,⟨rfl,zF (congrArg Sed.held (zJ (by decide)).symm)⟩,⟨rfl,zF (congrArg Sed.held (zJ (by decide)).symm)⟩,⟨rfl,zF (congrArg Sed.held (zJ (by decide)).symm)⟩,⟨rfl,zF (congrArg Sed.held (qH (s:=⟨(M.getD 6 default).id,l,s⟩) hiM).symm)⟩,⟨rfl,zF (congrArg Sed.held (zJ (by decide)).symm)⟩,trivial⟩⟩;have hp : p < M.length:=hp;have hj : j < 3:=hj;rcases (show p = 0 \/ p = 1 \/ p = 2 \/ p = 3 \/ p = 4 \/ p = 5 \/ p = 6 \/ p = 7 by omega) with rfl | rfl | rfl | rfl | rfl | rfl | rfl | rfl;all_goals first
      | exact ZG hj (by decide) ((zq (by decide)).trans (zq (by decide))) rfl
      | skip
     refine ZH hiM ?_;rcases j with _ | _ | _ | j
     . exact zC rfl
     . exact zC rfl
     . exact zD rfl rfl
     . omega
theorem st1_7 (L : List Sed) (now draw : Int) (hv : ZC L = true) (s : SlI L now) (hi : s.i = 7) (hil : s.i < L.length) (K : Kt) :
 Zs T (Zt LMs) 1024 Try.f21.ntmps 0 (Zz (ZK 4 (Try.f21.body.getD Code.ret))) (S1 L now draw s).fr (S1 L now draw s).H (S1 L now draw s).nx (QY (λfr H _=>Qz (S1 L now draw) (λs=>L.length - s.i) 0 (L.length - s.i) fr H) K):=by
 obtain ⟨i,M,hn,hi0,h1,h2⟩:=s;dsimp only at hi hil;subst hi;have h8:=Zp hv;have hiM : 7 < M.length:=by omega
 have hS : SdOk (M.getD 7 default):=by rw [h2 _ (Nat.le_refl _)];exact (qk hv _ (zj hil)).2
 have hk:=hS.k;have hh:=hS.n;have hmn:=hS.mn;have w3 : IntKind.i64.wrap ((7 : Int) + 1) = ((7 + 1 : Nat) : Int):=rfl;unfold S1;dsimp only;repeat' (first | (apply And.intro<;>intro hc<;>(first | exact Bool.noConfusion hc | (exfalso;first | exact absurd rfl hc | omega) | (simp only [zg] at hc<;>first | exact absurd rfl hc | (exfalso;first | exact absurd rfl hc | omega) | skip) | skip)) | (refine And.intro ze ?_) | (apply And.intro) | (intro s hs;skip) | (refine Exists.intro _ (And.intro ⟨rfl,rfl,rfl⟩ ?_)))
 conv=>whnf
 obtain ⟨W,eW⟩ : ∃ W,QK now (M.getD 7 default).held (M.getD 7 default).mn = W:=⟨_,rfl⟩;refine zQ (zT QB) (λs : {p : Nat × Int // p.1 <= (M.getD 7 default).held.length /\ QK now ((M.getD 7 default).held.drop p.1) p.2 = W}=>(⟨[(1,zO (.int .i64 now)),(2,zO (.int .u32 draw)),(9,zO (.os 1 0 M.length)),(31,zO (.int .i64 (L.length : Int))),(32,zO (.int .i64 ((7 : Nat) : Int))),(10,zO (.int .i64 ((7 : Nat) : Int))),(11,zO (.int .i64 s.1.2)),(44,zO (.os 9 0 (M.getD 7 default).held.length)),(45,zO (.int .i64 ((M.getD 7 default).held.length : Int))),(46,zO (.int .i64 (s.1.1 : Int)))],(1,some (qt 2 M.length M)) :: zBs 2 M,10⟩ : Hd)) (λs=>(M.getD 7 default).held.length - s.1.1) (λ_=>rfl) ?_ ⟨(0,(M.getD 7 default).mn),Nat.zero_le _,eW⟩ [] ⟨rfl,⟨zA rfl,zA rfl,zE (zD rfl rfl),zA rfl,zA rfl,zA rfl,zA rfl,zE (zD rfl rfl),zA rfl,zA rfl,trivial⟩,⟨⟨rfl,zP (by omega) (qF rfl rfl rfl rfl rfl rfl rfl rfl)⟩,⟨rfl,zB⟩,⟨rfl,zB⟩,⟨rfl,zB⟩,⟨rfl,zB⟩,⟨rfl,zB⟩,⟨rfl,zB⟩,⟨rfl,zB⟩,⟨rfl,zB⟩,trivial⟩⟩;rintro ⟨⟨k,l⟩,hkl,hW⟩;dsimp only at hkl hW ⊢;by_cases hkn : k < (M.getD 7 default).held.length
 . have w4 : IntKind.i64.wrap ((k : Int) + 1) = ((k + 1 : Nat) : Int):=(IntWalk.i64_in _ (by omega)).trans (by omega);have hst : QK now ((M.getD 7 default).held.drop (k + 1)) (if ((M.getD 7 default).held.getD k default).til <= now then ((M.getD 7 default).held.getD k default).num + 1 else l) = W:=by rw [<- hW,qL hkn];rfl
   have hm:=YD hS.h _ (zj hkn);have w5 : IntKind.i64.wrap (((M.getD 7 default).held.getD k default).num + 1) = ((M.getD 7 default).held.getD k default).num + 1:=IntWalk.i64_in _ (by omega);have z0 : 0 + (k : Int).toNat = k:=Nat.zero_add k;repeat' (first | (simp only [z0,w4,w5]) | (apply And.intro<;>intro hc<;>(first | exact Bool.noConfusion hc | (exfalso;first | exact absurd rfl hc | omega) | (simp only [zg] at hc<;>first | exact absurd rfl hc | (exfalso;first | exact absurd rfl hc | omega) | skip) | skip)) | (refine And.intro ze ?_) | (apply And.intro) | (intro s hs;skip) | (refine Exists.intro _ (And.intro ⟨rfl,rfl,rfl⟩ ?_)))
   . rw [if_pos hc] at hst;conv=>whnf
     exact ⟨⟨(k + 1,_),hkn,hst⟩,[],by dsimp only;omega,rfl,⟨zA rfl,zA rfl,zE (zD rfl rfl),zA rfl,zA rfl,zA rfl,zA w5,zE (zD rfl rfl),zA rfl,zA w4,trivial⟩,⟨⟨rfl,zP (by omega) (qF rfl rfl rfl rfl rfl rfl rfl rfl)⟩,⟨rfl,zB⟩,⟨rfl,zB⟩,⟨rfl,zB⟩,⟨rfl,zB⟩,⟨rfl,zB⟩,⟨rfl,zB⟩,⟨rfl,zB⟩,⟨rfl,zB⟩,trivial⟩⟩
   . rw [if_neg hc] at hst;conv=>whnf
     exact ⟨⟨(k + 1,l),hkn,hst⟩,[],by dsimp only;omega,rfl,⟨zA rfl,zA rfl,zE (zD rfl rfl),zA rfl,zA rfl,zA rfl,zA rfl,zE (zD rfl rfl),zA rfl,zA w4,trivial⟩,⟨⟨rfl,zP (by omega) (qF rfl rfl rfl rfl rfl rfl rfl rfl)⟩,⟨rfl,zB⟩,⟨rfl,zB⟩,⟨rfl,zB⟩,⟨rfl,zB⟩,⟨rfl,zB⟩,⟨rfl,zB⟩,⟨rfl,zB⟩,⟨rfl,zB⟩,trivial⟩⟩
 . obtain rfl : l = W:=by
    rw [List.drop_of_length_le (by omega)] at hW;exact hW
   clear hW;repeat' (first | (apply And.intro<;>intro hc<;>(first | exact Bool.noConfusion hc | (exfalso;first | exact absurd rfl hc | omega) | (simp only [zg] at hc<;>first | exact absurd rfl hc | (exfalso;first | exact absurd rfl hc | omega) | skip) | skip)) | (refine And.intro ze ?_) | (apply And.intro) | (intro s hs;skip) | (refine Exists.intro _ (And.intro ⟨rfl,rfl,rfl⟩ ?_)))
   . exact rfl
   . conv=>whnf
     have eM : M.set 7 (Zo now (M.getD 7 default)) = M:=by
      unfold Zo;rw [eW,show za (M.getD 7 default) l = M.getD 7 default from if_pos hc];exact zAE hiM
     exact ⟨SlI.next ⟨7,M,hn,hi0,h1,h2⟩ hil M eM,[],by dsimp only [SlI.next];omega,rfl,⟨zA rfl,zA rfl,zE (zD rfl rfl),zA rfl,zA rfl,trivial⟩,⟨⟨rfl,zP (by omega) (qF rfl rfl rfl rfl rfl rfl rfl rfl)⟩,⟨rfl,zB⟩,⟨rfl,zB⟩,⟨rfl,zB⟩,⟨rfl,zB⟩,⟨rfl,zB⟩,⟨rfl,zB⟩,⟨rfl,zB⟩,⟨rfl,zB⟩,trivial⟩⟩
   . exact Nat.le_of_eq (Nat.zero_add _)
   . exact ⟨rfl,zl _⟩
   . exact Eq.mpr (congrArg KpI (zL zR _)) hk
   . conv=>whnf
     have q : (M.getD 7 default).held.filter (Zj (some l)) = s:=(hs.trans (congrArg (List.filter (Zj (some l))) (zL zR _))).symm;clear hs;have eX : Zo now (M.getD 7 default) = ⟨(M.getD 7 default).id,l,s⟩:=by
      unfold Zo;rw [eW];exact (if_neg hc).trans (by rw [q])
     refine ⟨SlI.next ⟨7,M,hn,hi0,h1,h2⟩ hil _ (congrArg (M.set 7) eX),[(9,some 5148)],by dsimp only [SlI.next];omega,rfl,⟨zA rfl,zA rfl,zE (zD rfl (List.length_set).symm),zA rfl,zA rfl,trivial⟩,⟨⟨rfl,⟨rfl,(List.length_set).symm,rfl,rfl,λp hp j hj=>?_⟩⟩,⟨rfl,zF (congrArg Sed.held (zJ (by decide)).symm)⟩,⟨rfl,zF (congrArg Sed.held (zJ (by decide)).symm)⟩,⟨rfl,zF (congrArg Sed.held (zJ (by decide)).symm)⟩,⟨rfl,zF (congrArg Sed.held (zJ (by decide)).symm)⟩,⟨rfl,zF (congrArg Sed.held (zJ (by decide)).symm)⟩,⟨rfl,zF (congrArg Sed.held (zJ (by decide)).symm)⟩,⟨rfl,zF (congrArg Sed.held (zJ (by decide)).symm)⟩,⟨rfl,zF (congrArg Sed.held (qH (s:=⟨(M.getD 7 default).id,l,s⟩) hiM).symm)⟩,trivial⟩⟩;have hp : p < M.length:=hp;have hj : j < 3:=hj;rcases (show p = 0 \/ p = 1 \/ p = 2 \/ p = 3 \/ p = 4 \/ p = 5 \/ p = 6 \/ p = 7 by omega) with rfl | rfl | rfl | rfl | rfl | rfl | rfl | rfl;all_goals first
      | exact ZG hj (by decide) ((zq (by decide)).trans (zq (by decide))) rfl
      | skip
     refine ZH hiM ?_;rcases j with _ | _ | _ | j
     . exact zC rfl
     . exact zC rfl
     . exact zD rfl rfl
     . omega
theorem st1_all (L : List Sed) (now draw : Int) (hv : ZC L = true) (s : SlI L now) (hil : s.i < L.length) (K : Kt) :
 Zs T (Zt LMs) 1024 Try.f21.ntmps 0 (Zz (ZK 4 (Try.f21.body.getD Code.ret))) (S1 L now draw s).fr (S1 L now draw s).H (S1 L now draw s).nx (QY (λfr H _=>Qz (S1 L now draw) (λs=>L.length - s.i) 0 (L.length - s.i) fr H) K):=by
 have h8:=Zp hv;rcases (show s.i = 0 \/ s.i = 1 \/ s.i = 2 \/ s.i = 3 \/ s.i = 4 \/ s.i = 5 \/ s.i = 6 \/ s.i = 7 by omega) with h | h | h | h | h | h | h | h
 . exact st1_0 L now draw hv s h hil K
 . exact st1_1 L now draw hv s h hil K
 . exact st1_2 L now draw hv s h hil K
 . exact st1_3 L now draw hv s h hil K
 . exact st1_4 L now draw hv s h hil K
 . exact st1_5 L now draw hv s h hil K
 . exact st1_6 L now draw hv s h hil K
 . exact st1_7 L now draw hv s h hil K
end Go.Proofs.Ytfaibcgakcmhcaa.AX
namespace Go.Proofs.Ytfaibcgakcmhcaa.AX
theorem zFo {α : Type} {L : List α} {i : Nat} {x : α} (h : i < L.length) : (L.set i x).take (i + 1) = L.take i ++ [x]:=by
 induction L generalizing i with
 | nil=>exact absurd h (Nat.not_lt_zero _)
 | cons a t ih=>
   cases i with
   | zero=>rfl
   | succ i=>show a :: ((t.set i x).take (i + 1)) = a :: (t.take i ++ [x]);rw [ih (by simpa using h)]
theorem zDv {α : Type} {L : List α} {d : α} {i : Nat} (h : i < L.length) : L.drop i = L.getD i d :: L.drop (i + 1):=by
 rw [List.drop_eq_getElem_cons h,List.getD_eq_getElem?_getD,List.getElem?_eq_getElem h];rfl
def oneH (id now draw : Int) (h : Hel) (b : Nat) : Hel × List Cas:=
 if h.tm.start <= now then ({ h with tm:=(qK h.tm now (IntKind.u32.wrap (draw + (b : Int)))).1 },if (qK h.tm now (IntKind.u32.wrap (draw + (b : Int)))).2.1 = true then [⟨id,h.num,h.data⟩] else []) else (h,[])
theorem zCs {id now draw : Int} {h : Hel} {t : List Hel} {b : Nat} : qe id now draw (h :: t) b = ((oneH id now draw h b).1 :: (qe id now draw t (b + 1)).1,(oneH id now draw h b).2 ++ (qe id now draw t (b + 1)).2):=by
 unfold oneH;show (if h.tm.start <= now then _ else _) = _;split
 . split
   . rfl
   . rfl
 . rfl
theorem zFp {id now draw : Int} {h : Hel} {b : Nat} : (oneH id now draw h b).2.length <= 1:=by
 unfold oneH;split
 . split
   . exact Nat.le_refl _
   . exact Nat.zero_le _
 . exact Nat.zero_le _
theorem runH_len2 {id now draw : Int} : ∀ {L : List Hel} {b : Nat},(qe id now draw L b).2.length <= L.length:=by
 intro L;induction L with
 | nil=>intro _;exact Nat.le_refl _
 | cons h t ih=>
   intro b;rw [zCs];have h1:=zFp (id:=id) (now:=now) (draw:=draw) (h:=h) (b:=b);have h2:=ih (b:=b + 1);show ((oneH id now draw h b).2 ++ (qe id now draw t (b + 1)).2).length <= t.length + 1;rw [List.length_append];omega
structure StI (M0 : List Sed) (now draw : Int) where
 i : Nat
 M : List Sed
 Z : List Cas
 b : Nat
 n : M.length = M0.length
 hi : i <= M0.length
 hb : b <= 32 * i
 hz : Z.length <= b
 h2 : ∀ p,i <= p -> M.getD p default = M0.getD p default
 r1 : M.take i ++ (Yn now draw (M0.drop i) b).1 = (Yn now draw M0 0).1
 r2 : Z ++ (Yn now draw (M0.drop i) b).2 = (Yn now draw M0 0).2
def StI.next {M0 : List Sed} {now draw : Int} (s : StI M0 now draw) (h : s.i < M0.length) (h32 : (M0.getD s.i default).held.length <= 32) : StI M0 now draw where
 i:=s.i + 1
 M:=s.M.set s.i { M0.getD s.i default with held:=(qe (M0.getD s.i default).id now draw (M0.getD s.i default).held s.b).1 }
 Z:=s.Z ++ (qe (M0.getD s.i default).id now draw (M0.getD s.i default).held s.b).2
 b:=s.b + (M0.getD s.i default).held.length
 n:=by rw [List.length_set];exact s.n
 hi:=h
 hb:=by have:=s.hb;omega
 hz:=by
  have h1:=s.hz;have h2:=runH_len2 (id:=(M0.getD s.i default).id) (now:=now) (draw:=draw) (L:=(M0.getD s.i default).held) (b:=s.b);rw [List.length_append];omega
 h2 p hp:=by rw [List.getD_eq_getElem?_getD,List.getElem?_set,if_neg (by omega),<- List.getD_eq_getElem?_getD];exact s.h2 p (by omega)
 r1:=by
  have e:=s.r1;rw [zDv (d:=default) h] at e;rw [zFo (by rw [s.n];exact h),List.append_assoc];exact e
 r2:=by
  have e:=s.r2;rw [zDv (d:=default) h] at e;rw [List.append_assoc];exact e
structure InI (H0 : List Hel) (id now draw : Int) (b : Nat) (Z0 : List Cas) where
 k : Nat
 H : List Hel
 Z : List Cas
 n : H.length = H0.length
 hk : k <= H0.length
 hz : Z.length <= Z0.length + k
 h2 : ∀ p,k <= p -> H.getD p default = H0.getD p default
 r1 : H.take k ++ (qe id now draw (H0.drop k) (b + k)).1 = (qe id now draw H0 b).1
 r2 : Z ++ (qe id now draw (H0.drop k) (b + k)).2 = Z0 ++ (qe id now draw H0 b).2
def InI.next {H0 : List Hel} {id now draw : Int} {b : Nat} {Z0 : List Cas} (s : InI H0 id now draw b Z0) (h : s.k < H0.length) (H' : List Hel) (Z' : List Cas) (e1 : s.H.set s.k (oneH id now draw (H0.getD s.k default) (b + s.k)).1 = H') (e2 : s.Z ++ (oneH id now draw (H0.getD s.k default) (b + s.k)).2 = Z') : InI H0 id now draw b Z0 where
 k:=s.k + 1
 H:=H'
 Z:=Z'
 n:=by rw [<- e1,List.length_set];exact s.n
 hk:=h
 hz:=by
  have h1:=s.hz;have h2:=zFp (id:=id) (now:=now) (draw:=draw) (h:=H0.getD s.k default) (b:=b + s.k);rw [<- e2,List.length_append];omega
 h2 p hp:=by rw [<- e1,List.getD_eq_getElem?_getD,List.getElem?_set,if_neg (by omega),<- List.getD_eq_getElem?_getD];exact s.h2 p (by omega)
 r1:=by
  have e:=s.r1;rw [zDv (d:=default) h,zCs] at e;rw [<- e1,zFo (by rw [s.n];exact h),List.append_assoc];exact e
 r2:=by
  have e:=s.r2;rw [zDv (d:=default) h,zCs] at e;rw [<- e2,List.append_assoc];exact e
def InI.start (H0 : List Hel) (id now draw : Int) (b : Nat) (Z0 : List Cas) : InI H0 id now draw b Z0:=⟨0,H0,Z0,rfl,Nat.zero_le _,Nat.le_refl _,λ_ _=>rfl,rfl,rfl⟩
theorem InI.last {H0 : List Hel} {id now draw : Int} {b : Nat} {Z0 : List Cas} (s : InI H0 id now draw b Z0) (h : ¬ s.k < H0.length) : s.H = (qe id now draw H0 b).1 /\ s.Z = Z0 ++ (qe id now draw H0 b).2:=by
 have hk:=s.hk;have e1:=s.r1;have e2:=s.r2;rw [List.drop_of_length_le (by omega)] at e1 e2;rw [List.take_of_length_le (by rw [s.n];omega)] at e1;rw [<- e1,<- e2];exact ⟨(List.append_nil _).symm,(List.append_nil _).symm⟩
theorem qT {id now draw : Int} {h : Hel} {b : Nat} (hs : ¬ h.tm.start <= now) : oneH id now draw h b = (h,[]):=if_neg hs
theorem ZB {id now draw : Int} {h : Hel} {b : Nat} {T : Trk × Bool × Int} (hs : h.tm.start <= now) (eT : qK h.tm now (IntKind.u32.wrap (draw + (b : Int))) = T) : oneH id now draw h b = ({ h with tm:=T.1 },if T.2.1 = true then [⟨id,h.num,h.data⟩] else []):=by
 subst eT;exact if_pos hs
theorem qi {L : List Hel} {i : Nat} (h : i < L.length) : L.set i (L.getD i default) = L:=by
 apply List.ext_getElem
 . rw [List.length_set]
 . intro k h1 h2;rw [List.getElem_set];split
   . rename_i e;subst e;rw [List.getD_eq_getElem?_getD,List.getElem?_eq_getElem h];rfl
   . rfl
end Go.Proofs.Ytfaibcgakcmhcaa.AX
namespace Go.Proofs.Ytfaibcgakcmhcaa.AX
open Go.RowKit
def S2 (M0 : List Sed) (now draw : Int) (s : StI M0 now draw) : Hd:=⟨[(1,zO (.int .i64 now)),(2,zO (.int .u32 draw)),(9,zO (.os 1 0 s.M.length)),(14,zO (.os 10 0 s.Z.length)),(15,zO (.int .u32 (s.b : Int))),(65,zO (.int .i64 (M0.length : Int))),(66,zO (.int .i64 (s.i : Int)))],(1,some (qt 2 s.M.length s.M)) :: (zBs 2 s.M ++ [(10,some (ZL Zr 32 s.Z))]),11⟩
theorem QI (x : Int) : ZM (IntKind.u32.wrap x):=by unfold ZM;rw [IntKind.wrap_u32'];omega
theorem ZY {c : Wc} {t : TypeId} {l : List Hel} {n : Nat} {f : Nat -> Nat -> CV} (h : n = l.length /\ ∀ q,q < l.length -> ∀ j,j < 11 -> ZX c (f q j) (zo zn l q j)) : LeN c ⟨t,n,11,false,f⟩ (ZL zn t l):=⟨rfl,h.1,rfl,rfl,λq hq j hj=>h.2 q (h.1 ▸ hq) j hj⟩
theorem ZJ {c : Wc} {l : List Hel} {k : Nat} {t : Trk} {G : Nat -> CV} (hk : k < l.length) (hG : ∀ j,j < 8 -> ZX c (G j) (eTk.cell t j)) : l.length = (l.set k { l.getD k default with tm:=t }).length /\ ∀ q,q < (l.set k { l.getD k default with tm:=t }).length -> ∀ j,j < 11 -> ZX c (zBr false (zo zn l) k (ovw false zn.sz (zo zn l k) (0 + 2) 8 G) q j) (zo zn (l.set k { l.getD k default with tm:=t }) q j):=by
 refine ⟨(List.length_set).symm,λq hq j hj=>?_⟩;by_cases hqk : q = k
 . subst hqk;have e : zo zn (l.set q { l.getD q default with tm:=t }) q j = zn.cell { l.getD q default with tm:=t } j:=congrArg (λz=>zn.cell z j) (by rw [List.getD_eq_getElem?_getD,List.getElem?_set,if_pos rfl,if_pos hk];rfl);rw [e];refine ZU (QW _) ?_;rcases j with _ | j
   . exact zC rfl
   rcases j with _ | j
   . exact (zn.sh _ 1 (by decide)).le
   iterate 8 (rcases j with _ | j;· exact hG _ (by decide))
   rcases j with _ | j
   . exact zC rfl
   exact absurd hj (by omega)
 . have e : zo zn (l.set k { l.getD k default with tm:=t }) q j = zo zn l q j:=congrArg (λz=>zn.cell z j) (by simp only [List.getD_eq_getElem?_getD];rw [List.getElem?_set,if_neg (Ne.symm hqk)]);rw [e,zq hqk];exact (zn.sh _ j hj).le
theorem YR {P : Nat -> Prop} (h : P 0 /\ P 1 /\ P 2 /\ P 3 /\ P 4 /\ P 5 /\ P 6 /\ P 7) : ∀ j,j < 8 -> P j:=by
 obtain ⟨h0,h1,h2,h3,h4,h5,h6,h7⟩:=h;exact qF h0 h1 h2 h3 h4 h5 h6 h7
theorem qP {c : Wc} {t : TypeId} {Z : List Cas} {x : Cas} {g z : Nat -> CV} (h : ∀ j,j < 3 -> ZX c (g j) (Zr.cell x j)) : LeN c ⟨t,Z.length + 1,3,false,λk j=>Zi (Nat.blt k Z.length) (zo Zr Z k j) (Zi (Nat.beq (0 + (k - Z.length)) 0) (g j) (z j))⟩ (ZL Zr t (Z ++ [x])):=by
 refine ⟨rfl,by show _ = (Z ++ [x]).length;rw [List.length_append];rfl,rfl,rfl,λk hk j hj=>?_⟩;have hk : k < Z.length + 1:=hk;by_cases hkz : k < Z.length
 . refine ZU (Nat.ble_eq_true_of_le hkz) ?_;have e : zo Zr (Z ++ [x]) k j = zo Zr Z k j:=congrArg (λz=>Zr.cell z j) (by rw [List.getD_eq_getElem?_getD,List.getElem?_append_left hkz,<- List.getD_eq_getElem?_getD]);show ZX c _ (zo Zr (Z ++ [x]) k j);rw [e];exact (Zr.sh _ j hj).le
 . obtain rfl : k = Z.length:=by omega
   refine Zd (Zn _) (ZU (by rw [Nat.sub_self];rfl) ?_);have e : zo Zr (Z ++ [x]) Z.length j = Zr.cell x j:=congrArg (λz=>Zr.cell z j) (by simp [List.getD_eq_getElem?_getD]);show ZX c _ (zo Zr (Z ++ [x]) Z.length j);rw [e];exact h j hj
theorem QU {c : Wc} {t : TypeId} {l l' : List Cas} (h : l = l') : LeN c (ZL Zr t l) (ZL Zr t l'):=by subst h;exact zB
theorem st2_0 (M0 : List Sed) (now draw : Int) (hm : ∀ s ∈ M0,SdOk s) (h8 : M0.length <= 8) (hd : ZM draw) (ht : 0 <= now /\ now <= 1099511627776) (s : StI M0 now draw) (hi : s.i = 0) (hil : s.i < M0.length) (K : Kt) :
 Zs T (Zt LMs) 1024 Try.f21.ntmps 0 (Zz (ZK 5 (Try.f21.body.getD Code.ret))) (S2 M0 now draw s).fr (S2 M0 now draw s).H (S2 M0 now draw s).nx (QY (λfr H _=>Qz (S2 M0 now draw) (λs=>M0.length - s.i) 0 (M0.length - s.i) fr H) K):=by
 have hS : SdOk (M0.getD s.i default):=hm _ (zj hil);obtain ⟨s',es'⟩ : ∃ s',s.next hil hS.n = s':=⟨_,rfl⟩;have f1 : s'.M = s.M.set s.i { M0.getD s.i default with held:=(qe (M0.getD s.i default).id now draw (M0.getD s.i default).held s.b).1 }:=by rw [<- es'];rfl
 have f2 : s'.Z = s.Z ++ (qe (M0.getD s.i default).id now draw (M0.getD s.i default).held s.b).2:=by rw [<- es'];rfl
 have f3 : s'.b = s.b + (M0.getD s.i default).held.length:=by rw [<- es'];rfl
 have f4 : s'.i = s.i + 1:=by rw [<- es'];rfl
 clear es';obtain ⟨i,M,Z,b,hn,hi0,hb,hz,h2,r1,r2⟩:=s;dsimp only at hi hil hS f1 f2 f3 f4;subst hi;have hiM : 0 < M.length:=by omega
 have e0:=h2 0 (Nat.le_refl _);rw [<- e0] at hS f1 f2 f3;have hk:=hS.n;unfold S2;dsimp only;clear h2 r1 r2 e0;repeat' (first | (apply And.intro<;>intro hc<;>(first | exact Bool.noConfusion hc | (exfalso;first | exact absurd rfl hc | omega) | (simp only [zg] at hc<;>first | exact absurd rfl hc | (exfalso;first | exact absurd rfl hc | omega) | skip) | skip)) | (refine And.intro ze ?_) | (apply And.intro) | (intro s hs;skip) | (refine Exists.intro _ (And.intro ⟨rfl,rfl,rfl⟩ ?_)))
 conv=>whnf
 refine zQ (zT QB) (λs : InI (M.getD 0 default).held (M.getD 0 default).id now draw b Z=>(⟨[(1,zO (.int .i64 now)),(2,zO (.int .u32 draw)),(9,zO (.os 1 0 M.length)),(14,zO (.os 10 0 s.Z.length)),(15,zO (.int .u32 ((b + s.k : Nat) : Int))),(65,zO (.int .i64 (M0.length : Int))),(66,zO (.int .i64 ((0 : Nat) : Int))),(16,zO (.int .i64 ((0 : Nat) : Int))),(74,zO (.int .i64 ((M.getD 0 default).held.length : Int))),(75,zO (.int .i64 (s.k : Int)))],[(1,some (qt 2 M.length M)),(2,some (zV s.H)),(3,some (zV (M.getD 1 default).held)),(4,some (zV (M.getD 2 default).held)),(5,some (zV (M.getD 3 default).held)),(6,some (zV (M.getD 4 default).held)),(7,some (zV (M.getD 5 default).held)),(8,some (zV (M.getD 6 default).held)),(9,some (zV (M.getD 7 default).held)),(10,some (ZL Zr 32 s.Z))],11⟩ : Hd)) (λs=>(M.getD 0 default).held.length - s.k) (λ_=>rfl) ?_ (InI.start _ _ _ _ _ _) [] ⟨rfl,⟨zA rfl,zA rfl,zE (zD rfl rfl),zE (zD rfl rfl),zA rfl,zA rfl,zA rfl,zA rfl,zA rfl,zA rfl,trivial⟩,⟨⟨rfl,zP (by omega) (qF rfl rfl rfl rfl rfl rfl rfl rfl)⟩,⟨rfl,zB⟩,⟨rfl,zB⟩,⟨rfl,zB⟩,⟨rfl,zB⟩,⟨rfl,zB⟩,⟨rfl,zB⟩,⟨rfl,zB⟩,⟨rfl,zB⟩,⟨rfl,zB⟩,trivial⟩⟩;intro s;by_cases hkn : s.k < (M.getD 0 default).held.length
 . have w4 : IntKind.i64.wrap ((s.k : Int) + 1) = ((s.k + 1 : Nat) : Int):=(IntWalk.i64_in _ (by omega)).trans (by omega);have w5 : IntKind.u32.wrap (((b + s.k : Nat) : Int) + 1) = ((b + (s.k + 1) : Nat) : Int):=(IntWalk.u32_in _ (by omega)).trans (by omega);have z0 : 0 + (s.k : Int).toNat = s.k:=Nat.zero_add s.k;have eh:=s.h2 s.k (Nat.le_refl _);have hl:=s.n;have hzz:=s.hz;have bk : Nat.beq s.k s.k = true:=Nat.beq_refl _;have hx:=QD hS (zj hkn);rw [<- eh] at hx;have hxd:=hx.d;obtain ⟨T,eT⟩ : ∃ T,qK (s.H.getD s.k default).tm now (IntKind.u32.wrap (draw + ((b + s.k : Nat) : Int))) = T:=⟨_,rfl⟩;repeat' (first | (simp only [z0,w4,w5,bk,Bool.cond_true]) | (apply And.intro<;>intro hc<;>(first | exact Bool.noConfusion hc | (exfalso;first | exact absurd rfl hc | omega) | (simp only [zg] at hc<;>first | exact absurd rfl hc | (exfalso;first | exact absurd rfl hc | omega) | skip) | skip)) | (refine And.intro ze ?_) | (apply And.intro) | (intro s hs;(have q : T = s:=eT.symm.trans hs.symm;clear hs;subst q)) | (refine Exists.intro _ (And.intro ⟨rfl,rfl,rfl⟩ ?_)))
   . exact hc
   . exact (QI _).1
   . exact (QI _).2
   . conv=>whnf
     refine ⟨s.next hkn (s.H.set s.k { s.H.getD s.k default with tm:=T.1 }) (s.Z ++ [⟨(M.getD 0 default).id,(s.H.getD s.k default).num,(s.H.getD s.k default).data⟩]) (by rw [<- eh,ZB ‹_› eT]) (by rw [<- eh,ZB ‹_› eT,if_pos hc]),[(10,some 59403)],by dsimp only [InI.next];omega,rfl,⟨zA rfl,zA rfl,zE (zD rfl rfl),zE (zD rfl (by show _ = (s.Z ++ [_]).length;rw [List.length_append];rfl)),zA w5,zA rfl,zA rfl,zA rfl,zA rfl,zA w4,trivial⟩,⟨⟨rfl,zP (by omega) (qF rfl rfl rfl rfl rfl rfl rfl rfl)⟩,⟨rfl,ZY ?_⟩,⟨rfl,zB⟩,⟨rfl,zB⟩,⟨rfl,zB⟩,⟨rfl,zB⟩,⟨rfl,zB⟩,⟨rfl,zB⟩,⟨rfl,zB⟩,⟨rfl,?_⟩,trivial⟩⟩
     . exact ZJ (by rw [hl];exact hkn) (YR ⟨zC rfl,zC rfl,zC rfl,zC rfl,zC rfl,zC rfl,zC rfl,zS rfl⟩)
     . refine qP λj hj=>?_;rcases j with _ | _ | _ | j
       . exact zC rfl
       . exact zC rfl
       . refine zy rfl rfl rfl rfl (Nat.le_of_eq (Nat.zero_add _)) λq hq j hj=>?_;show ZX _ (qC eB (s.H.getD s.k default).data (0 + q) j) (qC eB (s.H.getD s.k default).data q j);exact zC (congrArg (λz=>(s.H.getD s.k default).data.getD z default) (Nat.zero_add q))
       . omega
   . conv=>whnf
     refine ⟨s.next hkn (s.H.set s.k { s.H.getD s.k default with tm:=T.1 }) s.Z (by rw [<- eh,ZB ‹_› eT]) (by rw [<- eh,ZB ‹_› eT,if_neg (by rw [hc];simp)];exact List.append_nil _),[],by dsimp only [InI.next];omega,rfl,⟨zA rfl,zA rfl,zE (zD rfl rfl),zE (zD rfl rfl),zA w5,zA rfl,zA rfl,zA rfl,zA rfl,zA w4,trivial⟩,⟨⟨rfl,zP (by omega) (qF rfl rfl rfl rfl rfl rfl rfl rfl)⟩,⟨rfl,ZY ?_⟩,⟨rfl,zB⟩,⟨rfl,zB⟩,⟨rfl,zB⟩,⟨rfl,zB⟩,⟨rfl,zB⟩,⟨rfl,zB⟩,⟨rfl,zB⟩,⟨rfl,zB⟩,trivial⟩⟩;exact ZJ (by rw [hl];exact hkn) (YR ⟨zC rfl,zC rfl,zC rfl,zC rfl,zC rfl,zC rfl,zC rfl,zS rfl⟩)
   . conv=>whnf
     exact ⟨s.next hkn s.H s.Z (by rw [<- eh,qT hc];exact qi (by rw [hl];exact hkn)) (by rw [<- eh,qT hc];exact List.append_nil _),[],by dsimp only [InI.next];omega,rfl,⟨zA rfl,zA rfl,zE (zD rfl rfl),zE (zD rfl rfl),zA w5,zA rfl,zA rfl,zA rfl,zA rfl,zA w4,trivial⟩,⟨⟨rfl,zP (by omega) (qF rfl rfl rfl rfl rfl rfl rfl rfl)⟩,⟨rfl,zB⟩,⟨rfl,zB⟩,⟨rfl,zB⟩,⟨rfl,zB⟩,⟨rfl,zB⟩,⟨rfl,zB⟩,⟨rfl,zB⟩,⟨rfl,zB⟩,⟨rfl,zB⟩,trivial⟩⟩
 . obtain ⟨l1,l2⟩:=s.last hkn;have hkk:=s.hk;have w6 : IntKind.i64.wrap ((0 : Int) + 1) = ((0 + 1 : Nat) : Int):=rfl;repeat' (first | (apply And.intro<;>intro hc<;>(first | exact Bool.noConfusion hc | (exfalso;first | exact absurd rfl hc | omega) | (simp only [zg] at hc<;>first | exact absurd rfl hc | (exfalso;first | exact absurd rfl hc | omega) | skip) | skip)) | (refine And.intro ze ?_) | (apply And.intro) | (intro s hs;skip) | (refine Exists.intro _ (And.intro ⟨rfl,rfl,rfl⟩ ?_)))
   conv=>whnf
   refine ⟨s',[],by show M0.length - s'.i < _;rw [f4];omega,rfl,⟨zA rfl,zA rfl,zE (zD rfl (by rw [f1,List.length_set])),zE (zD rfl (by rw [f2,l2])),zA (by rw [f3];omega),zA rfl,zA (by rw [f4];rfl),trivial⟩,⟨⟨rfl,⟨rfl,by show _ = s'.M.length;rw [f1,List.length_set];rfl,rfl,rfl,λp hp j hj=>?_⟩⟩,⟨rfl,zF (by rw [f1,qH hiM];exact l1)⟩,⟨rfl,zF (by rw [f1];exact congrArg Sed.held (zJ (by decide)).symm)⟩,⟨rfl,zF (by rw [f1];exact congrArg Sed.held (zJ (by decide)).symm)⟩,⟨rfl,zF (by rw [f1];exact congrArg Sed.held (zJ (by decide)).symm)⟩,⟨rfl,zF (by rw [f1];exact congrArg Sed.held (zJ (by decide)).symm)⟩,⟨rfl,zF (by rw [f1];exact congrArg Sed.held (zJ (by decide)).symm)⟩,⟨rfl,zF (by rw [f1];exact congrArg Sed.held (zJ (by decide)).symm)⟩,⟨rfl,zF (by rw [f1];exact congrArg Sed.held (zJ (by decide)).symm)⟩,⟨rfl,QU (by rw [f2,l2])⟩,trivial⟩⟩;have hp : p < M.length:=hp;have hj : j < 3:=hj;show ZX _ (ZT 2 M p j) (ZT 2 s'.M p j);rw [f1];rcases (show p = 0 \/ p = 1 \/ p = 2 \/ p = 3 \/ p = 4 \/ p = 5 \/ p = 6 \/ p = 7 by omega) with rfl | rfl | rfl | rfl | rfl | rfl | rfl | rfl;all_goals first
    | exact ZG hj (by decide) rfl rfl
    | skip
   refine ZH hiM ?_;rcases j with _ | _ | _ | j
   . exact zC rfl
   . exact zC rfl
   . exact zD rfl qu.symm
   . omega
theorem st2_1 (M0 : List Sed) (now draw : Int) (hm : ∀ s ∈ M0,SdOk s) (h8 : M0.length <= 8) (hd : ZM draw) (ht : 0 <= now /\ now <= 1099511627776) (s : StI M0 now draw) (hi : s.i = 1) (hil : s.i < M0.length) (K : Kt) :
 Zs T (Zt LMs) 1024 Try.f21.ntmps 0 (Zz (ZK 5 (Try.f21.body.getD Code.ret))) (S2 M0 now draw s).fr (S2 M0 now draw s).H (S2 M0 now draw s).nx (QY (λfr H _=>Qz (S2 M0 now draw) (λs=>M0.length - s.i) 0 (M0.length - s.i) fr H) K):=by
 have hS : SdOk (M0.getD s.i default):=hm _ (zj hil);obtain ⟨s',es'⟩ : ∃ s',s.next hil hS.n = s':=⟨_,rfl⟩;have f1 : s'.M = s.M.set s.i { M0.getD s.i default with held:=(qe (M0.getD s.i default).id now draw (M0.getD s.i default).held s.b).1 }:=by rw [<- es'];rfl
 have f2 : s'.Z = s.Z ++ (qe (M0.getD s.i default).id now draw (M0.getD s.i default).held s.b).2:=by rw [<- es'];rfl
 have f3 : s'.b = s.b + (M0.getD s.i default).held.length:=by rw [<- es'];rfl
 have f4 : s'.i = s.i + 1:=by rw [<- es'];rfl
 clear es';obtain ⟨i,M,Z,b,hn,hi0,hb,hz,h2,r1,r2⟩:=s;dsimp only at hi hil hS f1 f2 f3 f4;subst hi;have hiM : 1 < M.length:=by omega
 have e0:=h2 1 (Nat.le_refl _);rw [<- e0] at hS f1 f2 f3;have hk:=hS.n;unfold S2;dsimp only;clear h2 r1 r2 e0;repeat' (first | (apply And.intro<;>intro hc<;>(first | exact Bool.noConfusion hc | (exfalso;first | exact absurd rfl hc | omega) | (simp only [zg] at hc<;>first | exact absurd rfl hc | (exfalso;first | exact absurd rfl hc | omega) | skip) | skip)) | (refine And.intro ze ?_) | (apply And.intro) | (intro s hs;skip) | (refine Exists.intro _ (And.intro ⟨rfl,rfl,rfl⟩ ?_)))
 conv=>whnf
 refine zQ (zT QB) (λs : InI (M.getD 1 default).held (M.getD 1 default).id now draw b Z=>(⟨[(1,zO (.int .i64 now)),(2,zO (.int .u32 draw)),(9,zO (.os 1 0 M.length)),(14,zO (.os 10 0 s.Z.length)),(15,zO (.int .u32 ((b + s.k : Nat) : Int))),(65,zO (.int .i64 (M0.length : Int))),(66,zO (.int .i64 ((1 : Nat) : Int))),(16,zO (.int .i64 ((1 : Nat) : Int))),(74,zO (.int .i64 ((M.getD 1 default).held.length : Int))),(75,zO (.int .i64 (s.k : Int)))],[(1,some (qt 2 M.length M)),(2,some (zV (M.getD 0 default).held)),(3,some (zV s.H)),(4,some (zV (M.getD 2 default).held)),(5,some (zV (M.getD 3 default).held)),(6,some (zV (M.getD 4 default).held)),(7,some (zV (M.getD 5 default).held)),(8,some (zV (M.getD 6 default).held)),(9,some (zV (M.getD 7 default).held)),(10,some (ZL Zr 32 s.Z))],11⟩ : Hd)) (λs=>(M.getD 1 default).held.length - s.k) (λ_=>rfl) ?_ (InI.start _ _ _ _ _ _) [] ⟨rfl,⟨zA rfl,zA rfl,zE (zD rfl rfl),zE (zD rfl rfl),zA rfl,zA rfl,zA rfl,zA rfl,zA rfl,zA rfl,trivial⟩,⟨⟨rfl,zP (by omega) (qF rfl rfl rfl rfl rfl rfl rfl rfl)⟩,⟨rfl,zB⟩,⟨rfl,zB⟩,⟨rfl,zB⟩,⟨rfl,zB⟩,⟨rfl,zB⟩,⟨rfl,zB⟩,⟨rfl,zB⟩,⟨rfl,zB⟩,⟨rfl,zB⟩,trivial⟩⟩;intro s;by_cases hkn : s.k < (M.getD 1 default).held.length
 . have w4 : IntKind.i64.wrap ((s.k : Int) + 1) = ((s.k + 1 : Nat) : Int):=(IntWalk.i64_in _ (by omega)).trans (by omega);have w5 : IntKind.u32.wrap (((b + s.k : Nat) : Int) + 1) = ((b + (s.k + 1) : Nat) : Int):=(IntWalk.u32_in _ (by omega)).trans (by omega);have z0 : 0 + (s.k : Int).toNat = s.k:=Nat.zero_add s.k;have eh:=s.h2 s.k (Nat.le_refl _);have hl:=s.n;have hzz:=s.hz;have bk : Nat.beq s.k s.k = true:=Nat.beq_refl _;have hx:=QD hS (zj hkn);rw [<- eh] at hx;have hxd:=hx.d;obtain ⟨T,eT⟩ : ∃ T,qK (s.H.getD s.k default).tm now (IntKind.u32.wrap (draw + ((b + s.k : Nat) : Int))) = T:=⟨_,rfl⟩;repeat' (first | (simp only [z0,w4,w5,bk,Bool.cond_true]) | (apply And.intro<;>intro hc<;>(first | exact Bool.noConfusion hc | (exfalso;first | exact absurd rfl hc | omega) | (simp only [zg] at hc<;>first | exact absurd rfl hc | (exfalso;first | exact absurd rfl hc | omega) | skip) | skip)) | (refine And.intro ze ?_) | (apply And.intro) | (intro s hs;(have q : T = s:=eT.symm.trans hs.symm;clear hs;subst q)) | (refine Exists.intro _ (And.intro ⟨rfl,rfl,rfl⟩ ?_)))
   . exact hc
   . exact (QI _).1
   . exact (QI _).2
   . conv=>whnf
     refine ⟨s.next hkn (s.H.set s.k { s.H.getD s.k default with tm:=T.1 }) (s.Z ++ [⟨(M.getD 1 default).id,(s.H.getD s.k default).num,(s.H.getD s.k default).data⟩]) (by rw [<- eh,ZB ‹_› eT]) (by rw [<- eh,ZB ‹_› eT,if_pos hc]),[(10,some 59403)],by dsimp only [InI.next];omega,rfl,⟨zA rfl,zA rfl,zE (zD rfl rfl),zE (zD rfl (by show _ = (s.Z ++ [_]).length;rw [List.length_append];rfl)),zA w5,zA rfl,zA rfl,zA rfl,zA rfl,zA w4,trivial⟩,⟨⟨rfl,zP (by omega) (qF rfl rfl rfl rfl rfl rfl rfl rfl)⟩,⟨rfl,zB⟩,⟨rfl,ZY ?_⟩,⟨rfl,zB⟩,⟨rfl,zB⟩,⟨rfl,zB⟩,⟨rfl,zB⟩,⟨rfl,zB⟩,⟨rfl,zB⟩,⟨rfl,?_⟩,trivial⟩⟩
     . exact ZJ (by rw [hl];exact hkn) (YR ⟨zC rfl,zC rfl,zC rfl,zC rfl,zC rfl,zC rfl,zC rfl,zS rfl⟩)
     . refine qP λj hj=>?_;rcases j with _ | _ | _ | j
       . exact zC rfl
       . exact zC rfl
       . refine zy rfl rfl rfl rfl (Nat.le_of_eq (Nat.zero_add _)) λq hq j hj=>?_;show ZX _ (qC eB (s.H.getD s.k default).data (0 + q) j) (qC eB (s.H.getD s.k default).data q j);exact zC (congrArg (λz=>(s.H.getD s.k default).data.getD z default) (Nat.zero_add q))
       . omega
   . conv=>whnf
     refine ⟨s.next hkn (s.H.set s.k { s.H.getD s.k default with tm:=T.1 }) s.Z (by rw [<- eh,ZB ‹_› eT]) (by rw [<- eh,ZB ‹_› eT,if_neg (by rw [hc];simp)];exact List.append_nil _),[],by dsimp only [InI.next];omega,rfl,⟨zA rfl,zA rfl,zE (zD rfl rfl),zE (zD rfl rfl),zA w5,zA rfl,zA rfl,zA rfl,zA rfl,zA w4,trivial⟩,⟨⟨rfl,zP (by omega) (qF rfl rfl rfl rfl rfl rfl rfl rfl)⟩,⟨rfl,zB⟩,⟨rfl,ZY ?_⟩,⟨rfl,zB⟩,⟨rfl,zB⟩,⟨rfl,zB⟩,⟨rfl,zB⟩,⟨rfl,zB⟩,⟨rfl,zB⟩,⟨rfl,zB⟩,trivial⟩⟩;exact ZJ (by rw [hl];exact hkn) (YR ⟨zC rfl,zC rfl,zC rfl,zC rfl,zC rfl,zC rfl,zC rfl,zS rfl⟩)
   . conv=>whnf
     exact ⟨s.next hkn s.H s.Z (by rw [<- eh,qT hc];exact qi (by rw [hl];exact hkn)) (by rw [<- eh,qT hc];exact List.append_nil _),[],by dsimp only [InI.next];omega,rfl,⟨zA rfl,zA rfl,zE (zD rfl rfl),zE (zD rfl rfl),zA w5,zA rfl,zA rfl,zA rfl,zA rfl,zA w4,trivial⟩,⟨⟨rfl,zP (by omega) (qF rfl rfl rfl rfl rfl rfl rfl rfl)⟩,⟨rfl,zB⟩,⟨rfl,zB⟩,⟨rfl,zB⟩,⟨rfl,zB⟩,⟨rfl,zB⟩,⟨rfl,zB⟩,⟨rfl,zB⟩,⟨rfl,zB⟩,⟨rfl,zB⟩,trivial⟩⟩
 . obtain ⟨l1,l2⟩:=s.last hkn;have hkk:=s.hk;have w6 : IntKind.i64.wrap ((1 : Int) + 1) = ((1 + 1 : Nat) : Int):=rfl;repeat' (first | (apply And.intro<;>intro hc<;>(first | exact Bool.noConfusion hc | (exfalso;first | exact absurd rfl hc | omega) | (simp only [zg] at hc<;>first | exact absurd rfl hc | (exfalso;first | exact absurd rfl hc | omega) | skip) | skip)) | (refine And.intro ze ?_) | (apply And.intro) | (intro s hs;skip) | (refine Exists.intro _ (And.intro ⟨rfl,rfl,rfl⟩ ?_)))
   conv=>whnf
   refine ⟨s',[],by show M0.length - s'.i < _;rw [f4];omega,rfl,⟨zA rfl,zA rfl,zE (zD rfl (by rw [f1,List.length_set])),zE (zD rfl (by rw [f2,l2])),zA (by rw [f3];omega),zA rfl,zA (by rw [f4];rfl),trivial⟩,⟨⟨rfl,⟨rfl,by show _ = s'.M.length;rw [f1,List.length_set];rfl,rfl,rfl,λp hp j hj=>?_⟩⟩,⟨rfl,zF (by rw [f1];exact congrArg Sed.held (zJ (by decide)).symm)⟩,⟨rfl,zF (by rw [f1,qH hiM];exact l1)⟩,⟨rfl,zF (by rw [f1];exact congrArg Sed.held (zJ (by decide)).symm)⟩,⟨rfl,zF (by rw [f1];exact congrArg Sed.held (zJ (by decide)).symm)⟩,⟨rfl,zF (by rw [f1];exact congrArg Sed.held (zJ (by decide)).symm)⟩,⟨rfl,zF (by rw [f1];exact congrArg Sed.held (zJ (by decide)).symm)⟩,⟨rfl,zF (by rw [f1];exact congrArg Sed.held (zJ (by decide)).symm)⟩,⟨rfl,zF (by rw [f1];exact congrArg Sed.held (zJ (by decide)).symm)⟩,⟨rfl,QU (by rw [f2,l2])⟩,trivial⟩⟩;have hp : p < M.length:=hp;have hj : j < 3:=hj;show ZX _ (ZT 2 M p j) (ZT 2 s'.M p j);rw [f1];rcases (show p = 0 \/ p = 1 \/ p = 2 \/ p = 3 \/ p = 4 \/ p = 5 \/ p = 6 \/ p = 7 by omega) with rfl | rfl | rfl | rfl | rfl | rfl | rfl | rfl;all_goals first
    | exact ZG hj (by decide) rfl rfl
    | skip
   refine ZH hiM ?_;rcases j with _ | _ | _ | j
   . exact zC rfl
   . exact zC rfl
   . exact zD rfl qu.symm
   . omega
theorem st2_2 (M0 : List Sed) (now draw : Int) (hm : ∀ s ∈ M0,SdOk s) (h8 : M0.length <= 8) (hd : ZM draw) (ht : 0 <= now /\ now <= 1099511627776) (s : StI M0 now draw) (hi : s.i = 2) (hil : s.i < M0.length) (K : Kt) :
 Zs T (Zt LMs) 1024 Try.f21.ntmps 0 (Zz (ZK 5 (Try.f21.body.getD Code.ret))) (S2 M0 now draw s).fr (S2 M0 now draw s).H (S2 M0 now draw s).nx (QY (λfr H _=>Qz (S2 M0 now draw) (λs=>M0.length - s.i) 0 (M0.length - s.i) fr H) K):=by
 have hS : SdOk (M0.getD s.i default):=hm _ (zj hil);obtain ⟨s',es'⟩ : ∃ s',s.next hil hS.n = s':=⟨_,rfl⟩;have f1 : s'.M = s.M.set s.i { M0.getD s.i default with held:=(qe (M0.getD s.i default).id now draw (M0.getD s.i default).held s.b).1 }:=by rw [<- es'];rfl
 have f2 : s'.Z = s.Z ++ (qe (M0.getD s.i default).id now draw (M0.getD s.i default).held s.b).2:=by rw [<- es'];rfl
 have f3 : s'.b = s.b + (M0.getD s.i default).held.length:=by rw [<- es'];rfl
 have f4 : s'.i = s.i + 1:=by rw [<- es'];rfl
 clear es';obtain ⟨i,M,Z,b,hn,hi0,hb,hz,h2,r1,r2⟩:=s;dsimp only at hi hil hS f1 f2 f3 f4;subst hi;have hiM : 2 < M.length:=by omega
 have e0:=h2 2 (Nat.le_refl _);rw [<- e0] at hS f1 f2 f3;have hk:=hS.n;unfold S2;dsimp only;clear h2 r1 r2 e0;repeat' (first | (apply And.intro<;>intro hc<;>(first | exact Bool.noConfusion hc | (exfalso;first | exact absurd rfl hc | omega) | (simp only [zg] at hc<;>first | exact absurd rfl hc | (exfalso;first | exact absurd rfl hc | omega) | skip) | skip)) | (refine And.intro ze ?_) | (apply And.intro) | (intro s hs;skip) | (refine Exists.intro _ (And.intro ⟨rfl,rfl,rfl⟩ ?_)))
 conv=>whnf
 refine zQ (zT QB) (λs : InI (M.getD 2 default).held (M.getD 2 default).id now draw b Z=>(⟨[(1,zO (.int .i64 now)),(2,zO (.int .u32 draw)),(9,zO (.os 1 0 M.length)),(14,zO (.os 10 0 s.Z.length)),(15,zO (.int .u32 ((b + s.k : Nat) : Int))),(65,zO (.int .i64 (M0.length : Int))),(66,zO (.int .i64 ((2 : Nat) : Int))),(16,zO (.int .i64 ((2 : Nat) : Int))),(74,zO (.int .i64 ((M.getD 2 default).held.length : Int))),(75,zO (.int .i64 (s.k : Int)))],[(1,some (qt 2 M.length M)),(2,some (zV (M.getD 0 default).held)),(3,some (zV (M.getD 1 default).held)),(4,some (zV s.H)),(5,some (zV (M.getD 3 default).held)),(6,some (zV (M.getD 4 default).held)),(7,some (zV (M.getD 5 default).held)),(8,some (zV (M.getD 6 default).held)),(9,some (zV (M.getD 7 default).held)),(10,some (ZL Zr 32 s.Z))],11⟩ : Hd)) (λs=>(M.getD 2 default).held.length - s.k) (λ_=>rfl) ?_ (InI.start _ _ _ _ _ _) [] ⟨rfl,⟨zA rfl,zA rfl,zE (zD rfl rfl),zE (zD rfl rfl),zA rfl,zA rfl,zA rfl,zA rfl,zA rfl,zA rfl,trivial⟩,⟨⟨rfl,zP (by omega) (qF rfl rfl rfl rfl rfl rfl rfl rfl)⟩,⟨rfl,zB⟩,⟨rfl,zB⟩,⟨rfl,zB⟩,⟨rfl,zB⟩,⟨rfl,zB⟩,⟨rfl,zB⟩,⟨rfl,zB⟩,⟨rfl,zB⟩,⟨rfl,zB⟩,trivial⟩⟩;intro s;by_cases hkn : s.k < (M.getD 2 default).held.length
 . have w4 : IntKind.i64.wrap ((s.k : Int) + 1) = ((s.k + 1 : Nat) : Int):=(IntWalk.i64_in _ (by omega)).trans (by omega);have w5 : IntKind.u32.wrap (((b + s.k : Nat) : Int) + 1) = ((b + (s.k + 1) : Nat) : Int):=(IntWalk.u32_in _ (by omega)).trans (by omega);have z0 : 0 + (s.k : Int).toNat = s.k:=Nat.zero_add s.k;have eh:=s.h2 s.k (Nat.le_refl _);have hl:=s.n;have hzz:=s.hz;have bk : Nat.beq s.k s.k = true:=Nat.beq_refl _;have hx:=QD hS (zj hkn);rw [<- eh] at hx;have hxd:=hx.d;obtain ⟨T,eT⟩ : ∃ T,qK (s.H.getD s.k default).tm now (IntKind.u32.wrap (draw + ((b + s.k : Nat) : Int))) = T:=⟨_,rfl⟩;repeat' (first | (simp only [z0,w4,w5,bk,Bool.cond_true]) | (apply And.intro<;>intro hc<;>(first | exact Bool.noConfusion hc | (exfalso;first | exact absurd rfl hc | omega) | (simp only [zg] at hc<;>first | exact absurd rfl hc | (exfalso;first | exact absurd rfl hc | omega) | skip) | skip)) | (refine And.intro ze ?_) | (apply And.intro) | (intro s hs;(have q : T = s:=eT.symm.trans hs.symm;clear hs;subst q)) | (refine Exists.intro _ (And.intro ⟨rfl,rfl,rfl⟩ ?_)))
   . exact hc
   . exact (QI _).1
   . exact (QI _).2
   . conv=>whnf
     refine ⟨s.next hkn (s.H.set s.k { s.H.getD s.k default with tm:=T.1 }) (s.Z ++ [⟨(M.getD 2 default).id,(s.H.getD s.k default).num,(s.H.getD s.k default).data⟩]) (by rw [<- eh,ZB ‹_› eT]) (by rw [<- eh,ZB ‹_› eT,if_pos hc]),[(10,some 59403)],by dsimp only [InI.next];omega,rfl,⟨zA rfl,zA rfl,zE (zD rfl rfl),zE (zD rfl (by show _ = (s.Z ++ [_]).length;rw [List.length_append];rfl)),zA w5,zA rfl,zA rfl,zA rfl,zA rfl,zA w4,trivial⟩,⟨⟨rfl,zP (by omega) (qF rfl rfl rfl rfl rfl rfl rfl rfl)⟩,⟨rfl,zB⟩,⟨rfl,zB⟩,⟨rfl,ZY ?_⟩,⟨rfl,zB⟩,⟨rfl,zB⟩,⟨rfl,zB⟩,⟨rfl,zB⟩,⟨rfl,zB⟩,⟨rfl,?_⟩,trivial⟩⟩
     . exact ZJ (by rw [hl];exact hkn) (YR ⟨zC rfl,zC rfl,zC rfl,zC rfl,zC rfl,zC rfl,zC rfl,zS rfl⟩)
     . refine qP λj hj=>?_;rcases j with _ | _ | _ | j
       . exact zC rfl
       . exact zC rfl
       . refine zy rfl rfl rfl rfl (Nat.le_of_eq (Nat.zero_add _)) λq hq j hj=>?_;show ZX _ (qC eB (s.H.getD s.k default).data (0 + q) j) (qC eB (s.H.getD s.k default).data q j);exact zC (congrArg (λz=>(s.H.getD s.k default).data.getD z default) (Nat.zero_add q))
       . omega
   . conv=>whnf
     refine ⟨s.next hkn (s.H.set s.k { s.H.getD s.k default with tm:=T.1 }) s.Z (by rw [<- eh,ZB ‹_› eT]) (by rw [<- eh,ZB ‹_› eT,if_neg (by rw [hc];simp)];exact List.append_nil _),[],by dsimp only [InI.next];omega,rfl,⟨zA rfl,zA rfl,zE (zD rfl rfl),zE (zD rfl rfl),zA w5,zA rfl,zA rfl,zA rfl,zA rfl,zA w4,trivial⟩,⟨⟨rfl,zP (by omega) (qF rfl rfl rfl rfl rfl rfl rfl rfl)⟩,⟨rfl,zB⟩,⟨rfl,zB⟩,⟨rfl,ZY ?_⟩,⟨rfl,zB⟩,⟨rfl,zB⟩,⟨rfl,zB⟩,⟨rfl,zB⟩,⟨rfl,zB⟩,⟨rfl,zB⟩,trivial⟩⟩;exact ZJ (by rw [hl];exact hkn) (YR ⟨zC rfl,zC rfl,zC rfl,zC rfl,zC rfl,zC rfl,zC rfl,zS rfl⟩)
   . conv=>whnf
     exact ⟨s.next hkn s.H s.Z (by rw [<- eh,qT hc];exact qi (by rw [hl];exact hkn)) (by rw [<- eh,qT hc];exact List.append_nil _),[],by dsimp only [InI.next];omega,rfl,⟨zA rfl,zA rfl,zE (zD rfl rfl),zE (zD rfl rfl),zA w5,zA rfl,zA rfl,zA rfl,zA rfl,zA w4,trivial⟩,⟨⟨rfl,zP (by omega) (qF rfl rfl rfl rfl rfl rfl rfl rfl)⟩,⟨rfl,zB⟩,⟨rfl,zB⟩,⟨rfl,zB⟩,⟨rfl,zB⟩,⟨rfl,zB⟩,⟨rfl,zB⟩,⟨rfl,zB⟩,⟨rfl,zB⟩,⟨rfl,zB⟩,trivial⟩⟩
 . obtain ⟨l1,l2⟩:=s.last hkn;have hkk:=s.hk;have w6 : IntKind.i64.wrap ((2 : Int) + 1) = ((2 + 1 : Nat) : Int):=rfl;repeat' (first | (apply And.intro<;>intro hc<;>(first | exact Bool.noConfusion hc | (exfalso;first | exact absurd rfl hc | omega) | (simp only [zg] at hc<;>first | exact absurd rfl hc | (exfalso;first | exact absurd rfl hc | omega) | skip) | skip)) | (refine And.intro ze ?_) | (apply And.intro) | (intro s hs;skip) | (refine Exists.intro _ (And.intro ⟨rfl,rfl,rfl⟩ ?_)))
   conv=>whnf
   refine ⟨s',[],by show M0.length - s'.i < _;rw [f4];omega,rfl,⟨zA rfl,zA rfl,zE (zD rfl (by rw [f1,List.length_set])),zE (zD rfl (by rw [f2,l2])),zA (by rw [f3];omega),zA rfl,zA (by rw [f4];rfl),trivial⟩,⟨⟨rfl,⟨rfl,by show _ = s'.M.length;rw [f1,List.length_set];rfl,rfl,rfl,λp hp j hj=>?_⟩⟩,⟨rfl,zF (by rw [f1];exact congrArg Sed.held (zJ (by decide)).symm)⟩,⟨rfl,zF (by rw [f1];exact congrArg Sed.held (zJ (by decide)).symm)⟩,⟨rfl,zF (by rw [f1,qH hiM];exact l1)⟩,⟨rfl,zF (by rw [f1];exact congrArg Sed.held (zJ (by decide)).symm)⟩,⟨rfl,zF (by rw [f1];exact congrArg Sed.held (zJ (by decide)).symm)⟩,⟨rfl,zF (by rw [f1];exact congrArg Sed.held (zJ (by decide)).symm)⟩,⟨rfl,zF (by rw [f1];exact congrArg Sed.held (zJ (by decide)).symm)⟩,⟨rfl,zF (by rw [f1];exact congrArg Sed.held (zJ (by decide)).symm)⟩,⟨rfl,QU (by rw [f2,l2])⟩,trivial⟩⟩;have hp : p < M.length:=hp;have hj : j < 3:=hj;show ZX _ (ZT 2 M p j) (ZT 2 s'.M p j);rw [f1];rcases (show p = 0 \/ p = 1 \/ p = 2 \/ p = 3 \/ p = 4 \/ p = 5 \/ p = 6 \/ p = 7 by omega) with rfl | rfl | rfl | rfl | rfl | rfl | rfl | rfl;all_goals first
    | exact ZG hj (by decide) rfl rfl
    | skip
   refine ZH hiM ?_;rcases j with _ | _ | _ | j
   . exact zC rfl
   . exact zC rfl
   . exact zD rfl qu.symm
   . omega
theorem st2_3 (M0 : List Sed) (now draw : Int) (hm : ∀ s ∈ M0,SdOk s) (h8 : M0.length <= 8) (hd : ZM draw) (ht : 0 <= now /\ now <= 1099511627776) (s : StI M0 now draw) (hi : s.i = 3) (hil : s.i < M0.length) (K : Kt) :
 Zs T (Zt LMs) 1024 Try.f21.ntmps 0 (Zz (ZK 5 (Try.f21.body.getD Code.ret))) (S2 M0 now draw s).fr (S2 M0 now draw s).H (S2 M0 now draw s).nx (QY (λfr H _=>Qz (S2 M0 now draw) (λs=>M0.length - s.i) 0 (M0.length - s.i) fr H) K):=by
 have hS : SdOk (M0.getD s.i default):=hm _ (zj hil);obtain ⟨s',es'⟩ : ∃ s',s.next hil hS.n = s':=⟨_,rfl⟩;have f1 : s'.M = s.M.set s.i { M0.getD s.i default with held:=(qe (M0.getD s.i default).id now draw (M0.getD s.i default).held s.b).1 }:=by rw [<- es'];rfl
 have f2 : s'.Z = s.Z ++ (qe (M0.getD s.i default).id now draw (M0.getD s.i default).held s.b).2:=by rw [<- es'];rfl
 have f3 : s'.b = s.b + (M0.getD s.i default).held.length:=by rw [<- es'];rfl
 have f4 : s'.i = s.i + 1:=by rw [<- es'];rfl
 clear es';obtain ⟨i,M,Z,b,hn,hi0,hb,hz,h2,r1,r2⟩:=s;dsimp only at hi hil hS f1 f2 f3 f4;subst hi;have hiM : 3 < M.length:=by omega
 have e0:=h2 3 (Nat.le_refl _);rw [<- e0] at hS f1 f2 f3;have hk:=hS.n;unfold S2;dsimp only;clear h2 r1 r2 e0;repeat' (first | (apply And.intro<;>intro hc<;>(first | exact Bool.noConfusion hc | (exfalso;first | exact absurd rfl hc | omega) | (simp only [zg] at hc<;>first | exact absurd rfl hc | (exfalso;first | exact absurd rfl hc | omega) | skip) | skip)) | (refine And.intro ze ?_) | (apply And.intro) | (intro s hs;skip) | (refine Exists.intro _ (And.intro ⟨rfl,rfl,rfl⟩ ?_)))
 conv=>whnf
 refine zQ (zT QB) (λs : InI (M.getD 3 default).held (M.getD 3 default).id now draw b Z=>(⟨[(1,zO (.int .i64 now)),(2,zO (.int .u32 draw)),(9,zO (.os 1 0 M.length)),(14,zO (.os 10 0 s.Z.length)),(15,zO (.int .u32 ((b + s.k : Nat) : Int))),(65,zO (.int .i64 (M0.length : Int))),(66,zO (.int .i64 ((3 : Nat) : Int))),(16,zO (.int .i64 ((3 : Nat) : Int))),(74,zO (.int .i64 ((M.getD 3 default).held.length : Int))),(75,zO (.int .i64 (s.k : Int)))],[(1,some (qt 2 M.length M)),(2,some (zV (M.getD 0 default).held)),(3,some (zV (M.getD 1 default).held)),(4,some (zV (M.getD 2 default).held)),(5,some (zV s.H)),(6,some (zV (M.getD 4 default).held)),(7,some (zV (M.getD 5 default).held)),(8,some (zV (M.getD 6 default).held)),(9,some (zV (M.getD 7 default).held)),(10,some (ZL Zr 32 s.Z))],11⟩ : Hd)) (λs=>(M.getD 3 default).held.length - s.k) (λ_=>rfl) ?_ (InI.start _ _ _ _ _ _) [] ⟨rfl,⟨zA rfl,zA rfl,zE (zD rfl rfl),zE (zD rfl rfl),zA rfl,zA rfl,zA rfl,zA rfl,zA rfl,zA rfl,trivial⟩,⟨⟨rfl,zP (by omega) (qF rfl rfl rfl rfl rfl rfl rfl rfl)⟩,⟨rfl,zB⟩,⟨rfl,zB⟩,⟨rfl,zB⟩,⟨rfl,zB⟩,⟨rfl,zB⟩,⟨rfl,zB⟩,⟨rfl,zB⟩,⟨rfl,zB⟩,⟨rfl,zB⟩,trivial⟩⟩;intro s;by_cases hkn : s.k < (M.getD 3 default).held.length
 . have w4 : IntKind.i64.wrap ((s.k : Int) + 1) = ((s.k + 1 : Nat) : Int):=(IntWalk.i64_in _ (by omega)).trans (by omega);have w5 : IntKind.u32.wrap (((b + s.k : Nat) : Int) + 1) = ((b + (s.k + 1) : Nat) : Int):=(IntWalk.u32_in _ (by omega)).trans (by omega);have z0 : 0 + (s.k : Int).toNat = s.k:=Nat.zero_add s.k;have eh:=s.h2 s.k (Nat.le_refl _);have hl:=s.n;have hzz:=s.hz;have bk : Nat.beq s.k s.k = true:=Nat.beq_refl _;have hx:=QD hS (zj hkn);rw [<- eh] at hx;have hxd:=hx.d;obtain ⟨T,eT⟩ : ∃ T,qK (s.H.getD s.k default).tm now (IntKind.u32.wrap (draw + ((b + s.k : Nat) : Int))) = T:=⟨_,rfl⟩;repeat' (first | (simp only [z0,w4,w5,bk,Bool.cond_true]) | (apply And.intro<;>intro hc<;>(first | exact Bool.noConfusion hc | (exfalso;first | exact absurd rfl hc | omega) | (simp only [zg] at hc<;>first | exact absurd rfl hc | (exfalso;first | exact absurd rfl hc | omega) | skip) | skip)) | (refine And.intro ze ?_) | (apply And.intro) | (intro s hs;(have q : T = s:=eT.symm.trans hs.symm;clear hs;subst q)) | (refine Exists.intro _ (And.intro ⟨rfl,rfl,rfl⟩ ?_)))
   . exact hc
   . exact (QI _).1
   . exact (QI _).2
   . conv=>whnf
     refine ⟨s.next hkn (s.H.set s.k { s.H.getD s.k default with tm:=T.1 }) (s.Z ++ [⟨(M.getD 3 default).id,(s.H.getD s.k default).num,(s.H.getD s.k default).data⟩]) (by rw [<- eh,ZB ‹_› eT]) (by rw [<- eh,ZB ‹_› eT,if_pos hc]),[(10,some 59403)],by dsimp only [InI.next];omega,rfl,⟨zA rfl,zA rfl,zE (zD rfl rfl),zE (zD rfl (by show _ = (s.Z ++ [_]).length;rw [List.length_append];rfl)),zA w5,zA rfl,zA rfl,zA rfl,zA rfl,zA w4,trivial⟩,⟨⟨rfl,zP (by omega) (qF rfl rfl rfl rfl rfl rfl rfl rfl)⟩,⟨rfl,zB⟩,⟨rfl,zB⟩,⟨rfl,zB⟩,⟨rfl,ZY ?_⟩,⟨rfl,zB⟩,⟨rfl,zB⟩,⟨rfl,zB⟩,⟨rfl,zB⟩,⟨rfl,?_⟩,trivial⟩⟩
     . exact ZJ (by rw [hl];exact hkn) (YR ⟨zC rfl,zC rfl,zC rfl,zC rfl,zC rfl,zC rfl,zC rfl,zS rfl⟩)
     . refine qP λj hj=>?_;rcases j with _ | _ | _ | j
       . exact zC rfl
       . exact zC rfl
       . refine zy rfl rfl rfl rfl (Nat.le_of_eq (Nat.zero_add _)) λq hq j hj=>?_;show ZX _ (qC eB (s.H.getD s.k default).data (0 + q) j) (qC eB (s.H.getD s.k default).data q j);exact zC (congrArg (λz=>(s.H.getD s.k default).data.getD z default) (Nat.zero_add q))
       . omega
   . conv=>whnf
     refine ⟨s.next hkn (s.H.set s.k { s.H.getD s.k default with tm:=T.1 }) s.Z (by rw [<- eh,ZB ‹_› eT]) (by rw [<- eh,ZB ‹_› eT,if_neg (by rw [hc];simp)];exact List.append_nil _),[],by dsimp only [InI.next];omega,rfl,⟨zA rfl,zA rfl,zE (zD rfl rfl),zE (zD rfl rfl),zA w5,zA rfl,zA rfl,zA rfl,zA rfl,zA w4,trivial⟩,⟨⟨rfl,zP (by omega) (qF rfl rfl rfl rfl rfl rfl rfl rfl)⟩,⟨rfl,zB⟩,⟨rfl,zB⟩,⟨rfl,zB⟩,⟨rfl,ZY ?_⟩,⟨rfl,zB⟩,⟨rfl,zB⟩,⟨rfl,zB⟩,⟨rfl,zB⟩,⟨rfl,zB⟩,trivial⟩⟩;exact ZJ (by rw [hl];exact hkn) (YR ⟨zC rfl,zC rfl,zC rfl,zC rfl,zC rfl,zC rfl,zC rfl,zS rfl⟩)
   . conv=>whnf
     exact ⟨s.next hkn s.H s.Z (by rw [<- eh,qT hc];exact qi (by rw [hl];exact hkn)) (by rw [<- eh,qT hc];exact List.append_nil _),[],by dsimp only [InI.next];omega,rfl,⟨zA rfl,zA rfl,zE (zD rfl rfl),zE (zD rfl rfl),zA w5,zA rfl,zA rfl,zA rfl,zA rfl,zA w4,trivial⟩,⟨⟨rfl,zP (by omega) (qF rfl rfl rfl rfl rfl rfl rfl rfl)⟩,⟨rfl,zB⟩,⟨rfl,zB⟩,⟨rfl,zB⟩,⟨rfl,zB⟩,⟨rfl,zB⟩,⟨rfl,zB⟩,⟨rfl,zB⟩,⟨rfl,zB⟩,⟨rfl,zB⟩,trivial⟩⟩
 . obtain ⟨l1,l2⟩:=s.last hkn;have hkk:=s.hk;have w6 : IntKind.i64.wrap ((3 : Int) + 1) = ((3 + 1 : Nat) : Int):=rfl;repeat' (first | (apply And.intro<;>intro hc<;>(first | exact Bool.noConfusion hc | (exfalso;first | exact absurd rfl hc | omega) | (simp only [zg] at hc<;>first | exact absurd rfl hc | (exfalso;first | exact absurd rfl hc | omega) | skip) | skip)) | (refine And.intro ze ?_) | (apply And.intro) | (intro s hs;skip) | (refine Exists.intro _ (And.intro ⟨rfl,rfl,rfl⟩ ?_)))
   conv=>whnf
   refine ⟨s',[],by show M0.length - s'.i < _;rw [f4];omega,rfl,⟨zA rfl,zA rfl,zE (zD rfl (by rw [f1,List.length_set])),zE (zD rfl (by rw [f2,l2])),zA (by rw [f3];omega),zA rfl,zA (by rw [f4];rfl),trivial⟩,⟨⟨rfl,⟨rfl,by show _ = s'.M.length;rw [f1,List.length_set];rfl,rfl,rfl,λp hp j hj=>?_⟩⟩,⟨rfl,zF (by rw [f1];exact congrArg Sed.held (zJ (by decide)).symm)⟩,⟨rfl,zF (by rw [f1];exact congrArg Sed.held (zJ (by decide)).symm)⟩,⟨rfl,zF (by rw [f1];exact congrArg Sed.held (zJ (by decide)).symm)⟩,⟨rfl,zF (by rw [f1,qH hiM];exact l1)⟩,⟨rfl,zF (by rw [f1];exact congrArg Sed.held (zJ (by decide)).symm)⟩,⟨rfl,zF (by rw [f1];exact congrArg Sed.held (zJ (by decide)).symm)⟩,⟨rfl,zF (by rw [f1];exact congrArg Sed.held (zJ (by decide)).symm)⟩,⟨rfl,zF (by rw [f1];exact congrArg Sed.held (zJ (by decide)).symm)⟩,⟨rfl,QU (by rw [f2,l2])⟩,trivial⟩⟩;have hp : p < M.length:=hp;have hj : j < 3:=hj;show ZX _ (ZT 2 M p j) (ZT 2 s'.M p j);rw [f1];rcases (show p = 0 \/ p = 1 \/ p = 2 \/ p = 3 \/ p = 4 \/ p = 5 \/ p = 6 \/ p = 7 by omega) with rfl | rfl | rfl | rfl | rfl | rfl | rfl | rfl;all_goals first
    | exact ZG hj (by decide) rfl rfl
    | skip
   refine ZH hiM ?_;rcases j with _ | _ | _ | j
   . exact zC rfl
   . exact zC rfl
   . exact zD rfl qu.symm
   . omega
theorem st2_4 (M0 : List Sed) (now draw : Int) (hm : ∀ s ∈ M0,SdOk s) (h8 : M0.length <= 8) (hd : ZM draw) (ht : 0 <= now /\ now <= 1099511627776) (s : StI M0 now draw) (hi : s.i = 4) (hil : s.i < M0.length) (K : Kt) :
 Zs T (Zt LMs) 1024 Try.f21.ntmps 0 (Zz (ZK 5 (Try.f21.body.getD Code.ret))) (S2 M0 now draw s).fr (S2 M0 now draw s).H (S2 M0 now draw s).nx (QY (λfr H _=>Qz (S2 M0 now draw) (λs=>M0.length - s.i) 0 (M0.length - s.i) fr H) K):=by
 have hS : SdOk (M0.getD s.i default):=hm _ (zj hil);obtain ⟨s',es'⟩ : ∃ s',s.next hil hS.n = s':=⟨_,rfl⟩;have f1 : s'.M = s.M.set s.i { M0.getD s.i default with held:=(qe (M0.getD s.i default).id now draw (M0.getD s.i default).held s.b).1 }:=by rw [<- es'];rfl
 have f2 : s'.Z = s.Z ++ (qe (M0.getD s.i default).id now draw (M0.getD s.i default).held s.b).2:=by rw [<- es'];rfl
 have f3 : s'.b = s.b + (M0.getD s.i default).held.length:=by rw [<- es'];rfl
 have f4 : s'.i = s.i + 1:=by rw [<- es'];rfl
 clear es';obtain ⟨i,M,Z,b,hn,hi0,hb,hz,h2,r1,r2⟩:=s;dsimp only at hi hil hS f1 f2 f3 f4;subst hi;have hiM : 4 < M.length:=by omega
 have e0:=h2 4 (Nat.le_refl _);rw [<- e0] at hS f1 f2 f3;have hk:=hS.n;unfold S2;dsimp only;clear h2 r1 r2 e0;repeat' (first | (apply And.intro<;>intro hc<;>(first | exact Bool.noConfusion hc | (exfalso;first | exact absurd rfl hc | omega) | (simp only [zg] at hc<;>first | exact absurd rfl hc | (exfalso;first | exact absurd rfl hc | omega) | skip) | skip)) | (refine And.intro ze ?_) | (apply And.intro) | (intro s hs;skip) | (refine Exists.intro _ (And.intro ⟨rfl,rfl,rfl⟩ ?_)))
 conv=>whnf
 refine zQ (zT QB) (λs : InI (M.getD 4 default).held (M.getD 4 default).id now draw b Z=>(⟨[(1,zO (.int .i64 now)),(2,zO (.int .u32 draw)),(9,zO (.os 1 0 M.length)),(14,zO (.os 10 0 s.Z.length)),(15,zO (.int .u32 ((b + s.k : Nat) : Int))),(65,zO (.int .i64 (M0.length : Int))),(66,zO (.int .i64 ((4 : Nat) : Int))),(16,zO (.int .i64 ((4 : Nat) : Int))),(74,zO (.int .i64 ((M.getD 4 default).held.length : Int))),(75,zO (.int .i64 (s.k : Int)))],[(1,some (qt 2 M.length M)),(2,some (zV (M.getD 0 default).held)),(3,some (zV (M.getD 1 default).held)),(4,some (zV (M.getD 2 default).held)),(5,some (zV (M.getD 3 default).held)),(6,some (zV s.H)),(7,some (zV (M.getD 5 default).held)),(8,some (zV (M.getD 6 default).held)),(9,some (zV (M.getD 7 default).held)),(10,some (ZL Zr 32 s.Z))],11⟩ : Hd)) (λs=>(M.getD 4 default).held.length - s.k) (λ_=>rfl) ?_ (InI.start _ _ _ _ _ _) [] ⟨rfl,⟨zA rfl,zA rfl,zE (zD rfl rfl),zE (zD rfl rfl),zA rfl,zA rfl,zA rfl,zA rfl,zA rfl,zA rfl,trivial⟩,⟨⟨rfl,zP (by omega) (qF rfl rfl rfl rfl rfl rfl rfl rfl)⟩,⟨rfl,zB⟩,⟨rfl,zB⟩,⟨rfl,zB⟩,⟨rfl,zB⟩,⟨rfl,zB⟩,⟨rfl,zB⟩,⟨rfl,zB⟩,⟨rfl,zB⟩,⟨rfl,zB⟩,trivial⟩⟩;intro s;by_cases hkn : s.k < (M.getD 4 default).held.length
 . have w4 : IntKind.i64.wrap ((s.k : Int) + 1) = ((s.k + 1 : Nat) : Int):=(IntWalk.i64_in _ (by omega)).trans (by omega);have w5 : IntKind.u32.wrap (((b + s.k : Nat) : Int) + 1) = ((b + (s.k + 1) : Nat) : Int):=(IntWalk.u32_in _ (by omega)).trans (by omega);have z0 : 0 + (s.k : Int).toNat = s.k:=Nat.zero_add s.k;have eh:=s.h2 s.k (Nat.le_refl _);have hl:=s.n;have hzz:=s.hz;have bk : Nat.beq s.k s.k = true:=Nat.beq_refl _;have hx:=QD hS (zj hkn);rw [<- eh] at hx;have hxd:=hx.d;obtain ⟨T,eT⟩ : ∃ T,qK (s.H.getD s.k default).tm now (IntKind.u32.wrap (draw + ((b + s.k : Nat) : Int))) = T:=⟨_,rfl⟩;repeat' (first | (simp only [z0,w4,w5,bk,Bool.cond_true]) | (apply And.intro<;>intro hc<;>(first | exact Bool.noConfusion hc | (exfalso;first | exact absurd rfl hc | omega) | (simp only [zg] at hc<;>first | exact absurd rfl hc | (exfalso;first | exact absurd rfl hc | omega) | skip) | skip)) | (refine And.intro ze ?_) | (apply And.intro) | (intro s hs;(have q : T = s:=eT.symm.trans hs.symm;clear hs;subst q)) | (refine Exists.intro _ (And.intro ⟨rfl,rfl,rfl⟩ ?_)))
   . exact hc
   . exact (QI _).1
   . exact (QI _).2
   . conv=>whnf
     refine ⟨s.next hkn (s.H.set s.k { s.H.getD s.k default with tm:=T.1 }) (s.Z ++ [⟨(M.getD 4 default).id,(s.H.getD s.k default).num,(s.H.getD s.k default).data⟩]) (by rw [<- eh,ZB ‹_› eT]) (by rw [<- eh,ZB ‹_› eT,if_pos hc]),[(10,some 59403)],by dsimp only [InI.next];omega,rfl,⟨zA rfl,zA rfl,zE (zD rfl rfl),zE (zD rfl (by show _ = (s.Z ++ [_]).length;rw [List.length_append];rfl)),zA w5,zA rfl,zA rfl,zA rfl,zA rfl,zA w4,trivial⟩,⟨⟨rfl,zP (by omega) (qF rfl rfl rfl rfl rfl rfl rfl rfl)⟩,⟨rfl,zB⟩,⟨rfl,zB⟩,⟨rfl,zB⟩,⟨rfl,zB⟩,⟨rfl,ZY ?_⟩,⟨rfl,zB⟩,⟨rfl,zB⟩,⟨rfl,zB⟩,⟨rfl,?_⟩,trivial⟩⟩
     . exact ZJ (by rw [hl];exact hkn) (YR ⟨zC rfl,zC rfl,zC rfl,zC rfl,zC rfl,zC rfl,zC rfl,zS rfl⟩)
     . refine qP λj hj=>?_;rcases j with _ | _ | _ | j
       . exact zC rfl
       . exact zC rfl
       . refine zy rfl rfl rfl rfl (Nat.le_of_eq (Nat.zero_add _)) λq hq j hj=>?_;show ZX _ (qC eB (s.H.getD s.k default).data (0 + q) j) (qC eB (s.H.getD s.k default).data q j);exact zC (congrArg (λz=>(s.H.getD s.k default).data.getD z default) (Nat.zero_add q))
       . omega
   . conv=>whnf
     refine ⟨s.next hkn (s.H.set s.k { s.H.getD s.k default with tm:=T.1 }) s.Z (by rw [<- eh,ZB ‹_› eT]) (by rw [<- eh,ZB ‹_› eT,if_neg (by rw [hc];simp)];exact List.append_nil _),[],by dsimp only [InI.next];omega,rfl,⟨zA rfl,zA rfl,zE (zD rfl rfl),zE (zD rfl rfl),zA w5,zA rfl,zA rfl,zA rfl,zA rfl,zA w4,trivial⟩,⟨⟨rfl,zP (by omega) (qF rfl rfl rfl rfl rfl rfl rfl rfl)⟩,⟨rfl,zB⟩,⟨rfl,zB⟩,⟨rfl,zB⟩,⟨rfl,zB⟩,⟨rfl,ZY ?_⟩,⟨rfl,zB⟩,⟨rfl,zB⟩,⟨rfl,zB⟩,⟨rfl,zB⟩,trivial⟩⟩;exact ZJ (by rw [hl];exact hkn) (YR ⟨zC rfl,zC rfl,zC rfl,zC rfl,zC rfl,zC rfl,zC rfl,zS rfl⟩)
   . conv=>whnf
     exact ⟨s.next hkn s.H s.Z (by rw [<- eh,qT hc];exact qi (by rw [hl];exact hkn)) (by rw [<- eh,qT hc];exact List.append_nil _),[],by dsimp only [InI.next];omega,rfl,⟨zA rfl,zA rfl,zE (zD rfl rfl),zE (zD rfl rfl),zA w5,zA rfl,zA rfl,zA rfl,zA rfl,zA w4,trivial⟩,⟨⟨rfl,zP (by omega) (qF rfl rfl rfl rfl rfl rfl rfl rfl)⟩,⟨rfl,zB⟩,⟨rfl,zB⟩,⟨rfl,zB⟩,⟨rfl,zB⟩,⟨rfl,zB⟩,⟨rfl,zB⟩,⟨rfl,zB⟩,⟨rfl,zB⟩,⟨rfl,zB⟩,trivial⟩⟩
 . obtain ⟨l1,l2⟩:=s.last hkn;have hkk:=s.hk;have w6 : IntKind.i64.wrap ((4 : Int) + 1) = ((4 + 1 : Nat) : Int):=rfl;repeat' (first | (apply And.intro<;>intro hc<;>(first | exact Bool.noConfusion hc | (exfalso;first | exact absurd rfl hc | omega) | (simp only [zg] at hc<;>first | exact absurd rfl hc | (exfalso;first | exact absurd rfl hc | omega) | skip) | skip)) | (refine And.intro ze ?_) | (apply And.intro) | (intro s hs;skip) | (refine Exists.intro _ (And.intro ⟨rfl,rfl,rfl⟩ ?_)))
   conv=>whnf
   refine ⟨s',[],by show M0.length - s'.i < _;rw [f4];omega,rfl,⟨zA rfl,zA rfl,zE (zD rfl (by rw [f1,List.length_set])),zE (zD rfl (by rw [f2,l2])),zA (by rw [f3];omega),zA rfl,zA (by rw [f4];rfl),trivial⟩,⟨⟨rfl,⟨rfl,by show _ = s'.M.length;rw [f1,List.length_set];rfl,rfl,rfl,λp hp j hj=>?_⟩⟩,⟨rfl,zF (by rw [f1];exact congrArg Sed.held (zJ (by decide)).symm)⟩,⟨rfl,zF (by rw [f1];exact congrArg Sed.held (zJ (by decide)).symm)⟩,⟨rfl,zF (by rw [f1];exact congrArg Sed.held (zJ (by decide)).symm)⟩,⟨rfl,zF (by rw [f1];exact congrArg Sed.held (zJ (by decide)).symm)⟩,⟨rfl,zF (by rw [f1,qH hiM];exact l1)⟩,⟨rfl,zF (by rw [f1];exact congrArg Sed.held (zJ (by decide)).symm)⟩,⟨rfl,zF (by rw [f1];exact congrArg Sed.held (zJ (by decide)).symm)⟩,⟨rfl,zF (by rw [f1];exact congrArg Sed.held (zJ (by decide)).symm)⟩,⟨rfl,QU (by rw [f2,l2])⟩,trivial⟩⟩;have hp : p < M.length:=hp;have hj : j < 3:=hj;show ZX _ (ZT 2 M p j) (ZT 2 s'.M p j);rw [f1];rcases (show p = 0 \/ p = 1 \/ p = 2 \/ p = 3 \/ p = 4 \/ p = 5 \/ p = 6 \/ p = 7 by omega) with rfl | rfl | rfl | rfl | rfl | rfl | rfl | rfl;all_goals first
    | exact ZG hj (by decide) rfl rfl
    | skip
   refine ZH hiM ?_;rcases j with _ | _ | _ | j
   . exact zC rfl
   . exact zC rfl
   . exact zD rfl qu.symm
   . omega
theorem st2_5 (M0 : List Sed) (now draw : Int) (hm : ∀ s ∈ M0,SdOk s) (h8 : M0.length <= 8) (hd : ZM draw) (ht : 0 <= now /\ now <= 1099511627776) (s : StI M0 now draw) (hi : s.i = 5) (hil : s.i < M0.length) (K : Kt) :
 Zs T (Zt LMs) 1024 Try.f21.ntmps 0 (Zz (ZK 5 (Try.f21.body.getD Code.ret))) (S2 M0 now draw s).fr (S2 M0 now draw s).H (S2 M0 now draw s).nx (QY (λfr H _=>Qz (S2 M0 now draw) (λs=>M0.length - s.i) 0 (M0.length - s.i) fr H) K):=by
 have hS : SdOk (M0.getD s.i default):=hm _ (zj hil);obtain ⟨s',es'⟩ : ∃ s',s.next hil hS.n = s':=⟨_,rfl⟩;have f1 : s'.M = s.M.set s.i { M0.getD s.i default with held:=(qe (M0.getD s.i default).id now draw (M0.getD s.i default).held s.b).1 }:=by rw [<- es'];rfl
 have f2 : s'.Z = s.Z ++ (qe (M0.getD s.i default).id now draw (M0.getD s.i default).held s.b).2:=by rw [<- es'];rfl
 have f3 : s'.b = s.b + (M0.getD s.i default).held.length:=by rw [<- es'];rfl
 have f4 : s'.i = s.i + 1:=by rw [<- es'];rfl
 clear es';obtain ⟨i,M,Z,b,hn,hi0,hb,hz,h2,r1,r2⟩:=s;dsimp only at hi hil hS f1 f2 f3 f4;subst hi;have hiM : 5 < M.length:=by omega
 have e0:=h2 5 (Nat.le_refl _);rw [<- e0] at hS f1 f2 f3;have hk:=hS.n;unfold S2;dsimp only;clear h2 r1 r2 e0;repeat' (first | (apply And.intro<;>intro hc<;>(first | exact Bool.noConfusion hc | (exfalso;first | exact absurd rfl hc | omega) | (simp only [zg] at hc<;>first | exact absurd rfl hc | (exfalso;first | exact absurd rfl hc | omega) | skip) | skip)) | (refine And.intro ze ?_) | (apply And.intro) | (intro s hs;skip) | (refine Exists.intro _ (And.intro ⟨rfl,rfl,rfl⟩ ?_)))
 conv=>whnf
 refine zQ (zT QB) (λs : InI (M.getD 5 default).held (M.getD 5 default).id now draw b Z=>(⟨[(1,zO (.int .i64 now)),(2,zO (.int .u32 draw)),(9,zO (.os 1 0 M.length)),(14,zO (.os 10 0 s.Z.length)),(15,zO (.int .u32 ((b + s.k : Nat) : Int))),(65,zO (.int .i64 (M0.length : Int))),(66,zO (.int .i64 ((5 : Nat) : Int))),(16,zO (.int .i64 ((5 : Nat) : Int))),(74,zO (.int .i64 ((M.getD 5 default).held.length : Int))),(75,zO (.int .i64 (s.k : Int)))],[(1,some (qt 2 M.length M)),(2,some (zV (M.getD 0 default).held)),(3,some (zV (M.getD 1 default).held)),(4,some (zV (M.getD 2 default).held)),(5,some (zV (M.getD 3 default).held)),(6,some (zV (M.getD 4 default).held)),(7,some (zV s.H)),(8,some (zV (M.getD 6 default).held)),(9,some (zV (M.getD 7 default).held)),(10,some (ZL Zr 32 s.Z))],11⟩ : Hd)) (λs=>(M.getD 5 default).held.length - s.k) (λ_=>rfl) ?_ (InI.start _ _ _ _ _ _) [] ⟨rfl,⟨zA rfl,zA rfl,zE (zD rfl rfl),zE (zD rfl rfl),zA rfl,zA rfl,zA rfl,zA rfl,zA rfl,zA rfl,trivial⟩,⟨⟨rfl,zP (by omega) (qF rfl rfl rfl rfl rfl rfl rfl rfl)⟩,⟨rfl,zB⟩,⟨rfl,zB⟩,⟨rfl,zB⟩,⟨rfl,zB⟩,⟨rfl,zB⟩,⟨rfl,zB⟩,⟨rfl,zB⟩,⟨rfl,zB⟩,⟨rfl,zB⟩,trivial⟩⟩;intro s;by_cases hkn : s.k < (M.getD 5 default).held.length
 . have w4 : IntKind.i64.wrap ((s.k : Int) + 1) = ((s.k + 1 : Nat) : Int):=(IntWalk.i64_in _ (by omega)).trans (by omega);have w5 : IntKind.u32.wrap (((b + s.k : Nat) : Int) + 1) = ((b + (s.k + 1) : Nat) : Int):=(IntWalk.u32_in _ (by omega)).trans (by omega);have z0 : 0 + (s.k : Int).toNat = s.k:=Nat.zero_add s.k;have eh:=s.h2 s.k (Nat.le_refl _);have hl:=s.n;have hzz:=s.hz;have bk : Nat.beq s.k s.k = true:=Nat.beq_refl _;have hx:=QD hS (zj hkn);rw [<- eh] at hx;have hxd:=hx.d;obtain ⟨T,eT⟩ : ∃ T,qK (s.H.getD s.k default).tm now (IntKind.u32.wrap (draw + ((b + s.k : Nat) : Int))) = T:=⟨_,rfl⟩;repeat' (first | (simp only [z0,w4,w5,bk,Bool.cond_true]) | (apply And.intro<;>intro hc<;>(first | exact Bool.noConfusion hc | (exfalso;first | exact absurd rfl hc | omega) | (simp only [zg] at hc<;>first | exact absurd rfl hc | (exfalso;first | exact absurd rfl hc | omega) | skip) | skip)) | (refine And.intro ze ?_) | (apply And.intro) | (intro s hs;(have q : T = s:=eT.symm.trans hs.symm;clear hs;subst q)) | (refine Exists.intro _ (And.intro ⟨rfl,rfl,rfl⟩ ?_)))
   . exact hc
   . exact (QI _).1
   . exact (QI _).2
   . conv=>whnf
     refine ⟨s.next hkn (s.H.set s.k { s.H.getD s.k default with tm:=T.1 }) (s.Z ++ [⟨(M.getD 5 default).id,(s.H.getD s.k default).num,(s.H.getD s.k default).data⟩]) (by rw [<- eh,ZB ‹_› eT]) (by rw [<- eh,ZB ‹_› eT,if_pos hc]),[(10,some 59403)],by dsimp only [InI.next];omega,rfl,⟨zA rfl,zA rfl,zE (zD rfl rfl),zE (zD rfl (by show _ = (s.Z ++ [_]).length;rw [List.length_append];rfl)),zA w5,zA rfl,zA rfl,zA rfl,zA rfl,zA w4,trivial⟩,⟨⟨rfl,zP (by omega) (qF rfl rfl rfl rfl rfl rfl rfl rfl)⟩,⟨rfl,zB⟩,⟨rfl,zB⟩,⟨rfl,zB⟩,⟨rfl,zB⟩,⟨rfl,zB⟩,⟨rfl,ZY ?_⟩,⟨rfl,zB⟩,⟨rfl,zB⟩,⟨rfl,?_⟩,trivial⟩⟩
     . exact ZJ (by rw [hl];exact hkn) (YR ⟨zC rfl,zC rfl,zC rfl,zC rfl,zC rfl,zC rfl,zC rfl,zS rfl⟩)
     . refine qP λj hj=>?_;rcases j with _ | _ | _ | j
       . exact zC rfl
       . exact zC rfl
       . refine zy rfl rfl rfl rfl (Nat.le_of_eq (Nat.zero_add _)) λq hq j hj=>?_;show ZX _ (qC eB (s.H.getD s.k default).data (0 + q) j) (qC eB (s.H.getD s.k default).data q j);exact zC (congrArg (λz=>(s.H.getD s.k default).data.getD z default) (Nat.zero_add q))
       . omega
   . conv=>whnf
     refine ⟨s.next hkn (s.H.set s.k { s.H.getD s.k default with tm:=T.1 }) s.Z (by rw [<- eh,ZB ‹_› eT]) (by rw [<- eh,ZB ‹_› eT,if_neg (by rw [hc];simp)];exact List.append_nil _),[],by dsimp only [InI.next];omega,rfl,⟨zA rfl,zA rfl,zE (zD rfl rfl),zE (zD rfl rfl),zA w5,zA rfl,zA rfl,zA rfl,zA rfl,zA w4,trivial⟩,⟨⟨rfl,zP (by omega) (qF rfl rfl rfl rfl rfl rfl rfl rfl)⟩,⟨rfl,zB⟩,⟨rfl,zB⟩,⟨rfl,zB⟩,⟨rfl,zB⟩,⟨rfl,zB⟩,⟨rfl,ZY ?_⟩,⟨rfl,zB⟩,⟨rfl,zB⟩,⟨rfl,zB⟩,trivial⟩⟩;exact ZJ (by rw [hl];exact hkn) (YR ⟨zC rfl,zC rfl,zC rfl,zC rfl,zC rfl,zC rfl,zC rfl,zS rfl⟩)
   . conv=>whnf
     exact ⟨s.next hkn s.H s.Z (by rw [<- eh,qT hc];exact qi (by rw [hl];exact hkn)) (by rw [<- eh,qT hc];exact List.append_nil _),[],by dsimp only [InI.next];omega,rfl,⟨zA rfl,zA rfl,zE (zD rfl rfl),zE (zD rfl rfl),zA w5,zA rfl,zA rfl,zA rfl,zA rfl,zA w4,trivial⟩,⟨⟨rfl,zP (by omega) (qF rfl rfl rfl rfl rfl rfl rfl rfl)⟩,⟨rfl,zB⟩,⟨rfl,zB⟩,⟨rfl,zB⟩,⟨rfl,zB⟩,⟨rfl,zB⟩,⟨rfl,zB⟩,⟨rfl,zB⟩,⟨rfl,zB⟩,⟨rfl,zB⟩,trivial⟩⟩
 . obtain ⟨l1,l2⟩:=s.last hkn;have hkk:=s.hk;have w6 : IntKind.i64.wrap ((5 : Int) + 1) = ((5 + 1 : Nat) : Int):=rfl;repeat' (first | (apply And.intro<;>intro hc<;>(first | exact Bool.noConfusion hc | (exfalso;first | exact absurd rfl hc | omega) | (simp only [zg] at hc<;>first | exact absurd rfl hc | (exfalso;first | exact absurd rfl hc | omega) | skip) | skip)) | (refine And.intro ze ?_) | (apply And.intro) | (intro s hs;skip) | (refine Exists.intro _ (And.intro ⟨rfl,rfl,rfl⟩ ?_)))
   conv=>whnf
   refine ⟨s',[],by show M0.length - s'.i < _;rw [f4];omega,rfl,⟨zA rfl,zA rfl,zE (zD rfl (by rw [f1,List.length_set])),zE (zD rfl (by rw [f2,l2])),zA (by rw [f3];omega),zA rfl,zA (by rw [f4];rfl),trivial⟩,⟨⟨rfl,⟨rfl,by show _ = s'.M.length;rw [f1,List.length_set];rfl,rfl,rfl,λp hp j hj=>?_⟩⟩,⟨rfl,zF (by rw [f1];exact congrArg Sed.held (zJ (by decide)).symm)⟩,⟨rfl,zF (by rw [f1];exact congrArg Sed.held (zJ (by decide)).symm)⟩,⟨rfl,zF (by rw [f1];exact congrArg Sed.held (zJ (by decide)).symm)⟩,⟨rfl,zF (by rw [f1];exact congrArg Sed.held (zJ (by decide)).symm)⟩,⟨rfl,zF (by rw [f1];exact congrArg Sed.held (zJ (by decide)).symm)⟩,⟨rfl,zF (by rw [f1,qH hiM];exact l1)⟩,⟨rfl,zF (by rw [f1];exact congrArg Sed.held (zJ (by decide)).symm)⟩,⟨rfl,zF (by rw [f1];exact congrArg Sed.held (zJ (by decide)).symm)⟩,⟨rfl,QU (by rw [f2,l2])⟩,trivial⟩⟩;have hp : p < M.length:=hp;have hj : j < 3:=hj;show ZX _ (ZT 2 M p j) (ZT 2 s'.M p j);rw [f1];rcases (show p = 0 \/ p = 1 \/ p = 2 \/ p = 3 \/ p = 4 \/ p = 5 \/ p = 6 \/ p = 7 by omega) with rfl | rfl | rfl | rfl | rfl | rfl | rfl | rfl;all_goals first
    | exact ZG hj (by decide) rfl rfl
    | skip
   refine ZH hiM ?_;rcases j with _ | _ | _ | j
   . exact zC rfl
   . exact zC rfl
   . exact zD rfl qu.symm
   . omega
theorem st2_6 (M0 : List Sed) (now draw : Int) (hm : ∀ s ∈ M0,SdOk s) (h8 : M0.length <= 8) (hd : ZM draw) (ht : 0 <= now /\ now <= 1099511627776) (s : StI M0 now draw) (hi : s.i = 6) (hil : s.i < M0.length) (K : Kt) :
 Zs T (Zt LMs) 1024 Try.f21.ntmps 0 (Zz (ZK 5 (Try.f21.body.getD Code.ret))) (S2 M0 now draw s).fr (S2 M0 now draw s).H (S2 M0 now draw s).nx (QY (λfr H _=>Qz (S2 M0 now draw) (λs=>M0.length - s.i) 0 (M0.length - s.i) fr H) K):=by
 have hS : SdOk (M0.getD s.i default):=hm _ (zj hil);obtain ⟨s',es'⟩ : ∃ s',s.next hil hS.n = s':=⟨_,rfl⟩;have f1 : s'.M = s.M.set s.i { M0.getD s.i default with held:=(qe (M0.getD s.i default).id now draw (M0.getD s.i default).held s.b).1 }:=by rw [<- es'];rfl
 have f2 : s'.Z = s.Z ++ (qe (M0.getD s.i default).id now draw (M0.getD s.i default).held s.b).2:=by rw [<- es'];rfl
 have f3 : s'.b = s.b + (M0.getD s.i default).held.length:=by rw [<- es'];rfl
 have f4 : s'.i = s.i + 1:=by rw [<- es'];rfl
 clear es';obtain ⟨i,M,Z,b,hn,hi0,hb,hz,h2,r1,r2⟩:=s;dsimp only at hi hil hS f1 f2 f3 f4;subst hi;have hiM : 6 < M.length:=by omega
 have e0:=h2 6 (Nat.le_refl _);rw [<- e0] at hS f1 f2 f3;have hk:=hS.n;unfold S2;dsimp only;clear h2 r1 r2 e0;repeat' (first | (apply And.intro<;>intro hc<;>(first | exact Bool.noConfusion hc | (exfalso;first | exact absurd rfl hc | omega) | (simp only [zg] at hc<;>first | exact absurd rfl hc | (exfalso;first | exact absurd rfl hc | omega) | skip) | skip)) | (refine And.intro ze ?_) | (apply And.intro) | (intro s hs;skip) | (refine Exists.intro _ (And.intro ⟨rfl,rfl,rfl⟩ ?_)))
 conv=>whnf
 refine zQ (zT QB) (λs : InI (M.getD 6 default).held (M.getD 6 default).id now draw b Z=>(⟨[(1,zO (.int .i64 now)),(2,zO (.int .u32 draw)),(9,zO (.os 1 0 M.length)),(14,zO (.os 10 0 s.Z.length)),(15,zO (.int .u32 ((b + s.k : Nat) : Int))),(65,zO (.int .i64 (M0.length : Int))),(66,zO (.int .i64 ((6 : Nat) : Int))),(16,zO (.int .i64 ((6 : Nat) : Int))),(74,zO (.int .i64 ((M.getD 6 default).held.length : Int))),(75,zO (.int .i64 (s.k : Int)))],[(1,some (qt 2 M.length M)),(2,some (zV (M.getD 0 default).held)),(3,some (zV (M.getD 1 default).held)),(4,some (zV (M.getD 2 default).held)),(5,some (zV (M.getD 3 default).held)),(6,some (zV (M.getD 4 default).held)),(7,some (zV (M.getD 5 default).held)),(8,some (zV s.H)),(9,some (zV (M.getD 7 default).held)),(10,some (ZL Zr 32 s.Z))],11⟩ : Hd)) (λs=>(M.getD 6 default).held.length - s.k) (λ_=>rfl) ?_ (InI.start _ _ _ _ _ _) [] ⟨rfl,⟨zA rfl,zA rfl,zE (zD rfl rfl),zE (zD rfl rfl),zA rfl,zA rfl,zA rfl,zA rfl,zA rfl,zA rfl,trivial⟩,⟨⟨rfl,zP (by omega) (qF rfl rfl rfl rfl rfl rfl rfl rfl)⟩,⟨rfl,zB⟩,⟨rfl,zB⟩,⟨rfl,zB⟩,⟨rfl,zB⟩,⟨rfl,zB⟩,⟨rfl,zB⟩,⟨rfl,zB⟩,⟨rfl,zB⟩,⟨rfl,zB⟩,trivial⟩⟩;intro s;by_cases hkn : s.k < (M.getD 6 default).held.length
 . have w4 : IntKind.i64.wrap ((s.k : Int) + 1) = ((s.k + 1 : Nat) : Int):=(IntWalk.i64_in _ (by omega)).trans (by omega);have w5 : IntKind.u32.wrap (((b + s.k : Nat) : Int) + 1) = ((b + (s.k + 1) : Nat) : Int):=(IntWalk.u32_in _ (by omega)).trans (by omega);have z0 : 0 + (s.k : Int).toNat = s.k:=Nat.zero_add s.k;have eh:=s.h2 s.k (Nat.le_refl _);have hl:=s.n;have hzz:=s.hz;have bk : Nat.beq s.k s.k = true:=Nat.beq_refl _;have hx:=QD hS (zj hkn);rw [<- eh] at hx;have hxd:=hx.d;obtain ⟨T,eT⟩ : ∃ T,qK (s.H.getD s.k default).tm now (IntKind.u32.wrap (draw + ((b + s.k : Nat) : Int))) = T:=⟨_,rfl⟩;repeat' (first | (simp only [z0,w4,w5,bk,Bool.cond_true]) | (apply And.intro<;>intro hc<;>(first | exact Bool.noConfusion hc | (exfalso;first | exact absurd rfl hc | omega) | (simp only [zg] at hc<;>first | exact absurd rfl hc | (exfalso;first | exact absurd rfl hc | omega) | skip) | skip)) | (refine And.intro ze ?_) | (apply And.intro) | (intro s hs;(have q : T = s:=eT.symm.trans hs.symm;clear hs;subst q)) | (refine Exists.intro _ (And.intro ⟨rfl,rfl,rfl⟩ ?_)))
   . exact hc
   . exact (QI _).1
   . exact (QI _).2
   . conv=>whnf
     refine ⟨s.next hkn (s.H.set s.k { s.H.getD s.k default with tm:=T.1 }) (s.Z ++ [⟨(M.getD 6 default).id,(s.H.getD s.k default).num,(s.H.getD s.k default).data⟩]) (by rw [<- eh,ZB ‹_› eT]) (by rw [<- eh,ZB ‹_› eT,if_pos hc]),[(10,some 59403)],by dsimp only [InI.next];omega,rfl,⟨zA rfl,zA rfl,zE (zD rfl rfl),zE (zD rfl (by show _ = (s.Z ++ [_]).length;rw [List.length_append];rfl)),zA w5,zA rfl,zA rfl,zA rfl,zA rfl,zA w4,trivial⟩,⟨⟨rfl,zP (by omega) (qF rfl rfl rfl rfl rfl rfl rfl rfl)⟩,⟨rfl,zB⟩,⟨rfl,zB⟩,⟨rfl,zB⟩,⟨rfl,zB⟩,⟨rfl,zB⟩,⟨rfl,zB⟩,⟨rfl,ZY ?_⟩,⟨rfl,zB⟩,⟨rfl,?_⟩,trivial⟩⟩
     . exact ZJ (by rw [hl];exact hkn) (YR ⟨zC rfl,zC rfl,zC rfl,zC rfl,zC rfl,zC rfl,zC rfl,zS rfl⟩)
     . refine qP λj hj=>?_;rcases j with _ | _ | _ | j
       . exact zC rfl
       . exact zC rfl
       . refine zy rfl rfl rfl rfl (Nat.le_of_eq (Nat.zero_add _)) λq hq j hj=>?_;show ZX _ (qC eB (s.H.getD s.k default).data (0 + q) j) (qC eB (s.H.getD s.k default).data q j);exact zC (congrArg (λz=>(s.H.getD s.k default).data.getD z default) (Nat.zero_add q))
       . omega
   . conv=>whnf
     refine ⟨s.next hkn (s.H.set s.k { s.H.getD s.k default with tm:=T.1 }) s.Z (by rw [<- eh,ZB ‹_› eT]) (by rw [<- eh,ZB ‹_› eT,if_neg (by rw [hc];simp)];exact List.append_nil _),[],by dsimp only [InI.next];omega,rfl,⟨zA rfl,zA rfl,zE (zD rfl rfl),zE (zD rfl rfl),zA w5,zA rfl,zA rfl,zA rfl,zA rfl,zA w4,trivial⟩,⟨⟨rfl,zP (by omega) (qF rfl rfl rfl rfl rfl rfl rfl rfl)⟩,⟨rfl,zB⟩,⟨rfl,zB⟩,⟨rfl,zB⟩,⟨rfl,zB⟩,⟨rfl,zB⟩,⟨rfl,zB⟩,⟨rfl,ZY ?_⟩,⟨rfl,zB⟩,⟨rfl,zB⟩,trivial⟩⟩;exact ZJ (by rw [hl];exact hkn) (YR ⟨zC rfl,zC rfl,zC rfl,zC rfl,zC rfl,zC rfl,zC rfl,zS rfl⟩)
   . conv=>whnf
     exact ⟨s.next hkn s.H s.Z (by rw [<- eh,qT hc];exact qi (by rw [hl];exact hkn)) (by rw [<- eh,qT hc];exact List.append_nil _),[],by dsimp only [InI.next];omega,rfl,⟨zA rfl,zA rfl,zE (zD rfl rfl),zE (zD rfl rfl),zA w5,zA rfl,zA rfl,zA rfl,zA rfl,zA w4,trivial⟩,⟨⟨rfl,zP (by omega) (qF rfl rfl rfl rfl rfl rfl rfl rfl)⟩,⟨rfl,zB⟩,⟨rfl,zB⟩,⟨rfl,zB⟩,⟨rfl,zB⟩,⟨rfl,zB⟩,⟨rfl,zB⟩,⟨rfl,zB⟩,⟨rfl,zB⟩,⟨rfl,zB⟩,trivial⟩⟩
 . obtain ⟨l1,l2⟩:=s.last hkn;have hkk:=s.hk;have w6 : IntKind.i64.wrap ((6 : Int) + 1) = ((6 + 1 : Nat) : Int):=rfl;repeat' (first | (apply And.intro<;>intro hc<;>(first | exact Bool.noConfusion hc | (exfalso;first | exact absurd rfl hc | omega) | (simp only [zg] at hc<;>first | exact absurd rfl hc | (exfalso;first | exact absurd rfl hc | omega) | skip) | skip)) | (refine And.intro ze ?_) | (apply And.intro) | (intro s hs;skip) | (refine Exists.intro _ (And.intro ⟨rfl,rfl,rfl⟩ ?_)))
   conv=>whnf
   refine ⟨s',[],by show M0.length - s'.i < _;rw [f4];omega,rfl,⟨zA rfl,zA rfl,zE (zD rfl (by rw [f1,List.length_set])),zE (zD rfl (by rw [f2,l2])),zA (by rw [f3];omega),zA rfl,zA (by rw [f4];rfl),trivial⟩,⟨⟨rfl,⟨rfl,by show _ = s'.M.length;rw [f1,List.length_set];rfl,rfl,rfl,λp hp j hj=>?_⟩⟩,⟨rfl,zF (by rw [f1];exact congrArg Sed.held (zJ (by decide)).symm)⟩,⟨rfl,zF (by rw [f1];exact congrArg Sed.held (zJ (by decide)).symm)⟩,⟨rfl,zF (by rw [f1];exact congrArg Sed.held (zJ (by decide)).symm)⟩,⟨rfl,zF (by rw [f1];exact congrArg Sed.held (zJ (by decide)).symm)⟩,⟨rfl,zF (by rw [f1];exact congrArg Sed.held (zJ (by decide)).symm)⟩,⟨rfl,zF (by rw [f1];exact congrArg Sed.held (zJ (by decide)).symm)⟩,⟨rfl,zF (by rw [f1,qH hiM];exact l1)⟩,⟨rfl,zF (by rw [f1];exact congrArg Sed.held (zJ (by decide)).symm)⟩,⟨rfl,QU (by rw [f2,l2])⟩,trivial⟩⟩;have hp : p < M.length:=hp;have hj : j < 3:=hj;show ZX _ (ZT 2 M p j) (ZT 2 s'.M p j);rw [f1];rcases (show p = 0 \/ p = 1 \/ p = 2 \/ p = 3 \/ p = 4 \/ p = 5 \/ p = 6 \/ p = 7 by omega) with rfl | rfl | rfl | rfl | rfl | rfl | rfl | rfl;all_goals first
    | exact ZG hj (by decide) rfl rfl
    | skip
   refine ZH hiM ?_;rcases j with _ | _ | _ | j
   . exact zC rfl
   . exact zC rfl
   . exact zD rfl qu.symm
   . omega
theorem st2_7 (M0 : List Sed) (now draw : Int) (hm : ∀ s ∈ M0,SdOk s) (h8 : M0.length <= 8) (hd : ZM draw) (ht : 0 <= now /\ now <= 1099511627776) (s : StI M0 now draw) (hi : s.i = 7) (hil : s.i < M0.length) (K : Kt) :
 Zs T (Zt LMs) 1024 Try.f21.ntmps 0 (Zz (ZK 5 (Try.f21.body.getD Code.ret))) (S2 M0 now draw s).fr (S2 M0 now draw s).H (S2 M0 now draw s).nx (QY (λfr H _=>Qz (S2 M0 now draw) (λs=>M0.length - s.i) 0 (M0.length - s.i) fr H) K):=by
 have hS : SdOk (M0.getD s.i default):=hm _ (zj hil);obtain ⟨s',es'⟩ : ∃ s',s.next hil hS.n = s':=⟨_,rfl⟩;have f1 : s'.M = s.M.set s.i { M0.getD s.i default with held:=(qe (M0.getD s.i default).id now draw (M0.getD s.i default).held s.b).1 }:=by rw [<- es'];rfl
 have f2 : s'.Z = s.Z ++ (qe (M0.getD s.i default).id now draw (M0.getD s.i default).held s.b).2:=by rw [<- es'];rfl
 have f3 : s'.b = s.b + (M0.getD s.i default).held.length:=by rw [<- es'];rfl
 have f4 : s'.i = s.i + 1:=by rw [<- es'];rfl
 clear es';obtain ⟨i,M,Z,b,hn,hi0,hb,hz,h2,r1,r2⟩:=s;dsimp only at hi hil hS f1 f2 f3 f4;subst hi;have hiM : 7 < M.length:=by omega
 have e0:=h2 7 (Nat.le_refl _);rw [<- e0] at hS f1 f2 f3;have hk:=hS.n;unfold S2;dsimp only;clear h2 r1 r2 e0;repeat' (first | (apply And.intro<;>intro hc<;>(first | exact Bool.noConfusion hc | (exfalso;first | exact absurd rfl hc | omega) | (simp only [zg] at hc<;>first | exact absurd rfl hc | (exfalso;first | exact absurd rfl hc | omega) | skip) | skip)) | (refine And.intro ze ?_) | (apply And.intro) | (intro s hs;skip) | (refine Exists.intro _ (And.intro ⟨rfl,rfl,rfl⟩ ?_)))
 conv=>whnf
 refine zQ (zT QB) (λs : InI (M.getD 7 default).held (M.getD 7 default).id now draw b Z=>(⟨[(1,zO (.int .i64 now)),(2,zO (.int .u32 draw)),(9,zO (.os 1 0 M.length)),(14,zO (.os 10 0 s.Z.length)),(15,zO (.int .u32 ((b + s.k : Nat) : Int))),(65,zO (.int .i64 (M0.length : Int))),(66,zO (.int .i64 ((7 : Nat) : Int))),(16,zO (.int .i64 ((7 : Nat) : Int))),(74,zO (.int .i64 ((M.getD 7 default).held.length : Int))),(75,zO (.int .i64 (s.k : Int)))],[(1,some (qt 2 M.length M)),(2,some (zV (M.getD 0 default).held)),(3,some (zV (M.getD 1 default).held)),(4,some (zV (M.getD 2 default).held)),(5,some (zV (M.getD 3 default).held)),(6,some (zV (M.getD 4 default).held)),(7,some (zV (M.getD 5 default).held)),(8,some (zV (M.getD 6 default).held)),(9,some (zV s.H)),(10,some (ZL Zr 32 s.Z))],11⟩ : Hd)) (λs=>(M.getD 7 default).held.length - s.k) (λ_=>rfl) ?_ (InI.start _ _ _ _ _ _) [] ⟨rfl,⟨zA rfl,zA rfl,zE (zD rfl rfl),zE (zD rfl rfl),zA rfl,zA rfl,zA rfl,zA rfl,zA rfl,zA rfl,trivial⟩,⟨⟨rfl,zP (by omega) (qF rfl rfl rfl rfl rfl rfl rfl rfl)⟩,⟨rfl,zB⟩,⟨rfl,zB⟩,⟨rfl,zB⟩,⟨rfl,zB⟩,⟨rfl,zB⟩,⟨rfl,zB⟩,⟨rfl,zB⟩,⟨rfl,zB⟩,⟨rfl,zB⟩,trivial⟩⟩;intro s;by_cases hkn : s.k < (M.getD 7 default).held.length
 . have w4 : IntKind.i64.wrap ((s.k : Int) + 1) = ((s.k + 1 : Nat) : Int):=(IntWalk.i64_in _ (by omega)).trans (by omega);have w5 : IntKind.u32.wrap (((b + s.k : Nat) : Int) + 1) = ((b + (s.k + 1) : Nat) : Int):=(IntWalk.u32_in _ (by omega)).trans (by omega);have z0 : 0 + (s.k : Int).toNat = s.k:=Nat.zero_add s.k;have eh:=s.h2 s.k (Nat.le_refl _);have hl:=s.n;have hzz:=s.hz;have bk : Nat.beq s.k s.k = true:=Nat.beq_refl _;have hx:=QD hS (zj hkn);rw [<- eh] at hx;have hxd:=hx.d;obtain ⟨T,eT⟩ : ∃ T,qK (s.H.getD s.k default).tm now (IntKind.u32.wrap (draw + ((b + s.k : Nat) : Int))) = T:=⟨_,rfl⟩;repeat' (first | (simp only [z0,w4,w5,bk,Bool.cond_true]) | (apply And.intro<;>intro hc<;>(first | exact Bool.noConfusion hc | (exfalso;first | exact absurd rfl hc | omega) | (simp only [zg] at hc<;>first | exact absurd rfl hc | (exfalso;first | exact absurd rfl hc | omega) | skip) | skip)) | (refine And.intro ze ?_) | (apply And.intro) | (intro s hs;(have q : T = s:=eT.symm.trans hs.symm;clear hs;subst q)) | (refine Exists.intro _ (And.intro ⟨rfl,rfl,rfl⟩ ?_)))
   . exact hc
   . exact (QI _).1
   . exact (QI _).2
   . conv=>whnf
     refine ⟨s.next hkn (s.H.set s.k { s.H.getD s.k default with tm:=T.1 }) (s.Z ++ [⟨(M.getD 7 default).id,(s.H.getD s.k default).num,(s.H.getD s.k default).data⟩]) (by rw [<- eh,ZB ‹_› eT]) (by rw [<- eh,ZB ‹_› eT,if_pos hc]),[(10,some 59403)],by dsimp only [InI.next];omega,rfl,⟨zA rfl,zA rfl,zE (zD rfl rfl),zE (zD rfl (by show _ = (s.Z ++ [_]).length;rw [List.length_append];rfl)),zA w5,zA rfl,zA rfl,zA rfl,zA rfl,zA w4,trivial⟩,⟨⟨rfl,zP (by omega) (qF rfl rfl rfl rfl rfl rfl rfl rfl)⟩,⟨rfl,zB⟩,⟨rfl,zB⟩,⟨rfl,zB⟩,⟨rfl,zB⟩,⟨rfl,zB⟩,⟨rfl,zB⟩,⟨rfl,zB⟩,⟨rfl,ZY ?_⟩,⟨rfl,?_⟩,trivial⟩⟩
     . exact ZJ (by rw [hl];exact hkn) (YR ⟨zC rfl,zC rfl,zC rfl,zC rfl,zC rfl,zC rfl,zC rfl,zS rfl⟩)
     . refine qP λj hj=>?_;rcases j with _ | _ | _ | j
       . exact zC rfl
       . exact zC rfl
       . refine zy rfl rfl rfl rfl (Nat.le_of_eq (Nat.zero_add _)) λq hq j hj=>?_;show ZX _ (qC eB (s.H.getD s.k default).data (0 + q) j) (qC eB (s.H.getD s.k default).data q j);exact zC (congrArg (λz=>(s.H.getD s.k default).data.getD z default) (Nat.zero_add q))
       . omega
   . conv=>whnf
     refine ⟨s.next hkn (s.H.set s.k { s.H.getD s.k default with tm:=T.1 }) s.Z (by rw [<- eh,ZB ‹_› eT]) (by rw [<- eh,ZB ‹_› eT,if_neg (by rw [hc];simp)];exact List.append_nil _),[],by dsimp only [InI.next];omega,rfl,⟨zA rfl,zA rfl,zE (zD rfl rfl),zE (zD rfl rfl),zA w5,zA rfl,zA rfl,zA rfl,zA rfl,zA w4,trivial⟩,⟨⟨rfl,zP (by omega) (qF rfl rfl rfl rfl rfl rfl rfl rfl)⟩,⟨rfl,zB⟩,⟨rfl,zB⟩,⟨rfl,zB⟩,⟨rfl,zB⟩,⟨rfl,zB⟩,⟨rfl,zB⟩,⟨rfl,zB⟩,⟨rfl,ZY ?_⟩,⟨rfl,zB⟩,trivial⟩⟩;exact ZJ (by rw [hl];exact hkn) (YR ⟨zC rfl,zC rfl,zC rfl,zC rfl,zC rfl,zC rfl,zC rfl,zS rfl⟩)
   . conv=>whnf
     exact ⟨s.next hkn s.H s.Z (by rw [<- eh,qT hc];exact qi (by rw [hl];exact hkn)) (by rw [<- eh,qT hc];exact List.append_nil _),[],by dsimp only [InI.next];omega,rfl,⟨zA rfl,zA rfl,zE (zD rfl rfl),zE (zD rfl rfl),zA w5,zA rfl,zA rfl,zA rfl,zA rfl,zA w4,trivial⟩,⟨⟨rfl,zP (by omega) (qF rfl rfl rfl rfl rfl rfl rfl rfl)⟩,⟨rfl,zB⟩,⟨rfl,zB⟩,⟨rfl,zB⟩,⟨rfl,zB⟩,⟨rfl,zB⟩,⟨rfl,zB⟩,⟨rfl,zB⟩,⟨rfl,zB⟩,⟨rfl,zB⟩,trivial⟩⟩
 . obtain ⟨l1,l2⟩:=s.last hkn;have hkk:=s.hk;have w6 : IntKind.i64.wrap ((7 : Int) + 1) = ((7 + 1 : Nat) : Int):=rfl;repeat' (first | (apply And.intro<;>intro hc<;>(first | exact Bool.noConfusion hc | (exfalso;first | exact absurd rfl hc | omega) | (simp only [zg] at hc<;>first | exact absurd rfl hc | (exfalso;first | exact absurd rfl hc | omega) | skip) | skip)) | (refine And.intro ze ?_) | (apply And.intro) | (intro s hs;skip) | (refine Exists.intro _ (And.intro ⟨rfl,rfl,rfl⟩ ?_)))
   conv=>whnf
   refine ⟨s',[],by show M0.length - s'.i < _;rw [f4];omega,rfl,⟨zA rfl,zA rfl,zE (zD rfl (by rw [f1,List.length_set])),zE (zD rfl (by rw [f2,l2])),zA (by rw [f3];omega),zA rfl,zA (by rw [f4];rfl),trivial⟩,⟨⟨rfl,⟨rfl,by show _ = s'.M.length;rw [f1,List.length_set];rfl,rfl,rfl,λp hp j hj=>?_⟩⟩,⟨rfl,zF (by rw [f1];exact congrArg Sed.held (zJ (by decide)).symm)⟩,⟨rfl,zF (by rw [f1];exact congrArg Sed.held (zJ (by decide)).symm)⟩,⟨rfl,zF (by rw [f1];exact congrArg Sed.held (zJ (by decide)).symm)⟩,⟨rfl,zF (by rw [f1];exact congrArg Sed.held (zJ (by decide)).symm)⟩,⟨rfl,zF (by rw [f1];exact congrArg Sed.held (zJ (by decide)).symm)⟩,⟨rfl,zF (by rw [f1];exact congrArg Sed.held (zJ (by decide)).symm)⟩,⟨rfl,zF (by rw [f1];exact congrArg Sed.held (zJ (by decide)).symm)⟩,⟨rfl,zF (by rw [f1,qH hiM];exact l1)⟩,⟨rfl,QU (by rw [f2,l2])⟩,trivial⟩⟩;have hp : p < M.length:=hp;have hj : j < 3:=hj;show ZX _ (ZT 2 M p j) (ZT 2 s'.M p j);rw [f1];rcases (show p = 0 \/ p = 1 \/ p = 2 \/ p = 3 \/ p = 4 \/ p = 5 \/ p = 6 \/ p = 7 by omega) with rfl | rfl | rfl | rfl | rfl | rfl | rfl | rfl;all_goals first
    | exact ZG hj (by decide) rfl rfl
    | skip
   refine ZH hiM ?_;rcases j with _ | _ | _ | j
   . exact zC rfl
   . exact zC rfl
   . exact zD rfl qu.symm
   . omega
theorem st2_all (M0 : List Sed) (now draw : Int) (hm : ∀ s ∈ M0,SdOk s) (h8 : M0.length <= 8) (hd : ZM draw) (ht : 0 <= now /\ now <= 1099511627776) (s : StI M0 now draw) (hil : s.i < M0.length) (K : Kt) :
 Zs T (Zt LMs) 1024 Try.f21.ntmps 0 (Zz (ZK 5 (Try.f21.body.getD Code.ret))) (S2 M0 now draw s).fr (S2 M0 now draw s).H (S2 M0 now draw s).nx (QY (λfr H _=>Qz (S2 M0 now draw) (λs=>M0.length - s.i) 0 (M0.length - s.i) fr H) K):=by
 rcases (show s.i = 0 \/ s.i = 1 \/ s.i = 2 \/ s.i = 3 \/ s.i = 4 \/ s.i = 5 \/ s.i = 6 \/ s.i = 7 by omega) with h | h | h | h | h | h | h | h
 . exact st2_0 M0 now draw hm h8 hd ht s h hil K
 . exact st2_1 M0 now draw hm h8 hd ht s h hil K
 . exact st2_2 M0 now draw hm h8 hd ht s h hil K
 . exact st2_3 M0 now draw hm h8 hd ht s h hil K
 . exact st2_4 M0 now draw hm h8 hd ht s h hil K
 . exact st2_5 M0 now draw hm h8 hd ht s h hil K
 . exact st2_6 M0 now draw hm h8 hd ht s h hil K
 . exact st2_7 M0 now draw hm h8 hd ht s h hil K
theorem zCT {R : List Sed × List Cas × Int} {k : Int} {H : Hp} (h : R = ([],[],k)) : FinNs (.tup [.c (.os 0 0 R.1.length),.c (.os 1 0 R.2.1.length),.c (.int .i64 R.2.2)]) [ZL ZF 78 R.1,ZL Zr 32 R.2.1] (.tup [.c .nils,.c .nils,.c (.int .i64 k)]) H:=by
 subst h;exact ⟨⟨[(0,none),(1,none)],rfl,ZW ⟨ZP rfl,ZP rfl,zC rfl,trivial⟩,⟨⟨rfl,rfl,rfl,Nat.le_of_ble_eq_true rfl⟩,⟨rfl,rfl,rfl,Nat.le_of_ble_eq_true rfl⟩,trivial⟩⟩⟩
def StI.start (M0 : List Sed) (now draw : Int) : StI M0 now draw:=⟨0,M0,[],0,rfl,Nat.zero_le _,Nat.le_refl _,Nat.le_refl _,λ_ _=>rfl,rfl,rfl⟩
theorem StI.last {M0 : List Sed} {now draw : Int} (s : StI M0 now draw) (h : ¬ s.i < M0.length) : s.M = (Yn now draw M0 0).1 /\ s.Z = (Yn now draw M0 0).2:=by
 have hk:=s.hi;have e1:=s.r1;have e2:=s.r2;rw [List.drop_of_length_le (by omega)] at e1 e2;rw [List.take_of_length_le (by rw [s.n];omega)] at e1;rw [<- e1,<- e2];exact ⟨(List.append_nil _).symm,(List.append_nil _).symm⟩
theorem zd {c : Wc} {L : List Sed} {p : Nat} {t : TypeId} {k : Nat} (hd : zU c.H k = some (ZL zn t (L.getD p default).held)) (hk : c.dead k = true) : ZX c (.os k 0 (L.getD p default).held.length) (slN zn (L.getD p default).held):=by
 refine zy hd hk rfl rfl (Nat.le_of_eq (Nat.zero_add _)) λq hq j hj=>?_;show ZX c (zo zn (L.getD p default).held (0 + q) j) (zo zn (L.getD p default).held q j);rw [Nat.zero_add];exact (zn.sh _ j hj).le
theorem Qp {c : Wc} {d : Nat} {L : List Sed} {p j : Nat} {t : TypeId} (hj : j < 3) (hd : zU c.H (d + p) = some (ZL zn t (L.getD p default).held)) (hk : c.dead (d + p) = true) : ZX c (ZT d L p j) (zo ZF L p j):=by
 rcases j with _ | _ | _ | j
 . exact zC rfl
 . exact zC rfl
 . exact zd hd hk
 . omega
theorem mstep2 (M0 : List Sed) (now draw : Int) (hm : ∀ s ∈ M0,SdOk s) (h8 : M0.length <= 8) (hd : ZM draw) (ht : 0 <= now /\ now <= 1099511627776) (R : List Sed × List Cas × Int) (hR : R = ((Yn now draw M0 0).1,(Yn now draw M0 0).2,0)) :
 Sem Try.prog Try.f21.ntmps 0 (ZK 5 (Try.f21.body.getD Code.ret)) (S8 now draw M0).fr (S8 now draw M0).H (S8 now draw M0).nx (qN T Try.f21.results.toList λx H _=>FinNs (.tup [.c (.os 0 0 R.1.length),.c (.os 1 0 R.2.1.length),.c (.int .i64 R.2.2)]) [ZL ZF 78 R.1,ZL Zr 32 R.2.1] x H):=by
 refine QP (wd:=1024) (by decide) zM (zb QB) zN ?_;unfold S8;repeat' (first | (apply And.intro<;>intro hc<;>(first | exact Bool.noConfusion hc | (exfalso;first | exact absurd rfl hc | omega) | (simp only [zg] at hc<;>first | exact absurd rfl hc | (exfalso;first | exact absurd rfl hc | omega) | skip) | skip)) | (refine And.intro ze ?_) | (apply And.intro) | (intro s hs;skip) | (refine Exists.intro _ (And.intro ⟨rfl,rfl,rfl⟩ ?_)))
 conv=>whnf
 refine zQ (zT QB) (S2 M0 now draw) (λs=>M0.length - s.i) (λ_=>rfl) ?_ (StI.start M0 now draw) [(10,none)] ⟨rfl,⟨zA rfl,zA rfl,zE (zD rfl rfl),zE (ZP rfl),zA rfl,zA rfl,zA rfl,trivial⟩,⟨⟨rfl,zP (by omega) (qF rfl rfl rfl rfl rfl rfl rfl rfl)⟩,⟨rfl,zB⟩,⟨rfl,zB⟩,⟨rfl,zB⟩,⟨rfl,zB⟩,⟨rfl,zB⟩,⟨rfl,zB⟩,⟨rfl,zB⟩,⟨rfl,zB⟩,⟨rfl,rfl,rfl,Nat.le_of_ble_eq_true rfl⟩,trivial⟩⟩;intro s;by_cases hil : s.i < M0.length
 . exact st2_all M0 now draw hm h8 hd ht s hil _
 . obtain ⟨l1,l2⟩:=s.last hil;have hML:=s.n;unfold S2;repeat' (first | (apply And.intro<;>intro hc<;>(first | exact Bool.noConfusion hc | (exfalso;first | exact absurd rfl hc | omega) | (simp only [zg] at hc<;>first | exact absurd rfl hc | (exfalso;first | exact absurd rfl hc | omega) | skip) | skip)) | (refine And.intro ze ?_) | (apply And.intro) | (intro s hs;skip) | (refine Exists.intro _ (And.intro ⟨rfl,rfl,rfl⟩ ?_)))
   subst hR;refine ⟨[(0,some 1),(1,some 10)],rfl,ZW ⟨zD rfl (by rw [l1]),zD rfl (by rw [l2]),zC rfl,trivial⟩,⟨⟨rfl,⟨rfl,by show s.M.length = _;rw [l1];rfl,rfl,rfl,λp hp j hj=>?_⟩⟩,⟨rfl,QU l2⟩,trivial⟩⟩;have hp : p < s.M.length:=hp;have hj : j < 3:=hj;show ZX _ (ZT 2 s.M p j) (zo ZF (Yn now draw M0 0).1 p j);rw [<- l1];rcases (show p = 0 \/ p = 1 \/ p = 2 \/ p = 3 \/ p = 4 \/ p = 5 \/ p = 6 \/ p = 7 by omega) with rfl | rfl | rfl | rfl | rfl | rfl | rfl | rfl;all_goals exact Qp hj rfl rfl
theorem mstep1 (L : List Sed) (now draw : Int) (hL : LHn L) (hdr : ZM draw) : zAl Try.prog 21 [(Yl ZF qA).enc L,(cI .i64).enc now,(cI .u32).enc draw] (.tup [.c (.os 0 0 (qS L now draw).1.length),.c (.os 1 0 (qS L now draw).2.1.length),.c (.int .i64 (qS L now draw).2.2)]) [ZL ZF 78 (qS L now draw).1,ZL Zr 32 (qS L now draw).2.1]:=by
 obtain ⟨R,hR⟩ : ∃ R,qS L now draw = R:=⟨_,rfl⟩;rw [hR];obtain ⟨V,hV⟩ : ∃ V,ZC L = V:=⟨_,rfl⟩;obtain ⟨B,hB⟩ : ∃ B,zx now = B:=⟨_,rfl⟩;refine zC4 zM Try.func21 rfl _ (by show 3 <= _;decide) ?_;refine zK (wd:=1) (by decide) zM (zb QB) zN ?_;refine zK (wd:=1) (by decide) zM (zb QB) zN ?_;repeat' (first | (apply And.intro<;>intro hc<;>(first | exact Bool.noConfusion hc | (exfalso;first | exact absurd rfl hc) | (simp only [zg] at hc<;>first | exact absurd rfl hc | (exfalso;first | exact absurd rfl hc) | skip) | skip)) | (refine And.intro ze ?_) | (apply And.intro) | (intro s hs;(have q : V = s:=Ys hs (ZE ZS _) hV;clear hs;subst q)) | (refine Exists.intro _ (And.intro ⟨rfl,rfl,rfl⟩ ?_)))
 . exact λ_ _=>⟨rfl,qG _⟩
 . exact Eq.mpr (congrArg LHn (ZE ZS _)) hL
 . exact zCT (by rw [<- hR];unfold qS;rw [if_pos (hV.trans ‹_›)])
 have hVt : ZC L = true:=hV.trans ‹_›;refine zK (wd:=1) (by decide) zM (zb QB) zN ?_;repeat' (first | (apply And.intro<;>intro hc<;>(first | exact Bool.noConfusion hc | (exfalso;first | exact absurd rfl hc) | (simp only [zg] at hc<;>first | exact absurd rfl hc | (exfalso;first | exact absurd rfl hc) | skip) | skip)) | (refine And.intro ze ?_) | (apply And.intro) | (intro s hs;(have q : B = s:=hB.symm.trans hs.symm;clear hs;subst q)) | (refine Exists.intro _ (And.intro ⟨rfl,rfl,rfl⟩ ?_)))
 . exact zCT (by rw [<- hR];unfold qS;rw [if_neg (by rw [hVt];simp),if_pos (hB.trans ‹_›)])
 have hBt : zx now = true:=hB.trans ‹_›;refine zK (wd:=9) (by decide) zM (zb QB) zN ?_;repeat' (first | (apply And.intro<;>intro hc<;>(first | exact Bool.noConfusion hc | (exfalso;first | exact absurd rfl hc) | (simp only [zg] at hc<;>first | exact absurd rfl hc | (exfalso;first | exact absurd rfl hc) | skip) | skip)) | (refine And.intro ze ?_) | (apply And.intro) | (intro s hs;(have q : L = s:=(hs.trans (ZE ZS _)).symm;clear hs;subst q)) | (refine Exists.intro _ (And.intro ⟨rfl,rfl,rfl⟩ ?_)))
 . exact λ_ _=>⟨rfl,qG _⟩
 . exact Eq.mpr (congrArg Cl8 (ZE ZS _)) (vl_c8 hVt)
 change Sem _ _ _ _ _ _ _ _;refine Zf (wd:=1024) (by decide) zM (zb QB) (zT QB) zN (λ_ : Unit=>S8 now draw (L.map (Zo now))) (by intro _;rfl) ?_ ?_
 . repeat' (first | (apply And.intro<;>intro hc<;>(first | exact Bool.noConfusion hc | (exfalso;first | exact absurd rfl hc) | (simp only [zg] at hc<;>first | exact absurd rfl hc | (exfalso;first | exact absurd rfl hc) | skip) | skip)) | (refine And.intro ze ?_) | (apply And.intro) | (intro s hs;skip) | (refine Exists.intro _ (And.intro ⟨rfl,rfl,rfl⟩ ?_)))
   conv=>whnf
   refine zQ (zT QB) (S1 L now draw) (λs=>L.length - s.i) (λ_=>rfl) ?_ ⟨0,L,rfl,Nat.zero_le _,λp hp=>absurd hp (Nat.not_lt_zero p),λ_ _=>rfl⟩ [(1,some 18),(2,some 19),(3,some 20),(4,some 21),(5,some 22),(6,some 23),(7,some 24),(8,some 25),(9,some 26)] ⟨rfl,⟨zA rfl,zA rfl,zE (zD rfl rfl),zA rfl,zA rfl,trivial⟩,⟨⟨rfl,⟨rfl,rfl,rfl,rfl,λp hp j hj=>qo hj (qF (P:=λp=>Wc.src _ (2 + p) = some (19 + p)) rfl rfl rfl rfl rfl rfl rfl rfl p (Nat.lt_of_lt_of_le hp (Zp hVt)))⟩⟩,⟨rfl,zB⟩,⟨rfl,zB⟩,⟨rfl,zB⟩,⟨rfl,zB⟩,⟨rfl,zB⟩,⟨rfl,zB⟩,⟨rfl,zB⟩,⟨rfl,zB⟩,trivial⟩⟩;intro s;by_cases hil : s.i < L.length
   . exact st1_all L now draw hVt s hil _
   . have eM:=sl_end s hil;have hML : s.M.length = L.length:=s.n;unfold S1;repeat' (first | (apply And.intro<;>intro hc<;>(first | exact Bool.noConfusion hc | (exfalso;first | exact absurd rfl hc | omega) | (simp only [zg] at hc<;>first | exact absurd rfl hc | (exfalso;first | exact absurd rfl hc | omega) | skip) | skip)) | (refine And.intro ze ?_) | (apply And.intro) | (intro s hs;skip) | (refine Exists.intro _ (And.intro ⟨rfl,rfl,rfl⟩ ?_)))
     conv=>whnf
     rw [<- eM];exact ⟨(),[],rfl,⟨zA rfl,zA rfl,zE (zD rfl rfl),trivial⟩,⟨⟨rfl,zP (by have:=Zp hVt;omega) (qF rfl rfl rfl rfl rfl rfl rfl rfl)⟩,⟨rfl,zB⟩,⟨rfl,zB⟩,⟨rfl,zB⟩,⟨rfl,zB⟩,⟨rfl,zB⟩,⟨rfl,zB⟩,⟨rfl,zB⟩,⟨rfl,zB⟩,trivial⟩⟩
 . intro _;have hRe : R = ((Yn now draw (L.map (Zo now)) 0).1,(Yn now draw (L.map (Zo now)) 0).2,0):=by
    rw [<- hR];unfold qS;rw [if_neg (by rw [hVt];simp),if_neg (by rw [hBt];simp)]
   exact mstep2 _ now draw (λx hx=>by obtain ⟨y,hy,rfl⟩:=List.mem_map.1 hx;exact zEX (qk hVt y hy).2) (by rw [List.length_map];exact Zp hVt) hdr (Zl.1 hBt) R hRe
def SftE (m d : Nat) (x y : EV) : Prop:=∀ (r r2 : QM) (X W X2 W2 : Nat -> Prop) (w : World) (v : Value),(∀ k,k < m -> r2 (d + k) = r k) -> (∀ b,X2 b -> X b \/ W b) -> (∀ b,W2 b -> X b \/ W b) -> x.rel r X W w v -> y.rel r2 X2 W2 w v
theorem zCr {m d : Nat} {x y : CV} (h : Sft m d x y) : SftE m d (.c x) (.c y):=λr r2 X W X2 W2 w v hr hX hW hx=>h r r2 X W X2 W2 w v hr hX hW hx
theorem zFm {m d : Nat} {l l' : List EV} (hl : l.length = l'.length) (h : ∀ (i : Nat) x y,l[i]? = some x -> l'[i]? = some y -> SftE m d x y) : SftF m d (.tup l) (.tup l'):=by
 rintro r r2 X W X2 W2 w v hr hX hW ⟨vs,rfl,hs,hc⟩;refine ⟨vs,rfl,by rw [hs,hl],λi y u hy hu=>?_⟩;have hi : i < l.length:=by rw [hl];exact (List.getElem?_eq_some_iff.1 hy).1
 exact h i _ y (List.getElem?_eq_getElem hi) hy r r2 X W X2 W2 w u hr hX hW (hc i _ u (List.getElem?_eq_getElem hi) hu)
abbrev mstepE : Zm:=zCQ (AC.cons (Yl ZF qA) (AC.cons (cI .i64) (AC.cons (cI .u32) AC.nil))) (λa=>LHn a.1 /\ ZM a.2.2.1) (λa=>qS a.1 a.2.1 a.2.2.1) 2 (λnm R=>.tup [.c (.os nm 0 R.1.length),.c (.os (nm + 1) 0 R.2.1.length),.c (.int .i64 R.2.2)]) (λ_ R=>[ZL ZF 78 R.1,ZL Zr 32 R.2.1])
theorem mstepE_ok : EntOk Try.prog 21 mstepE:=zAx ⟨_,Try.func21,rfl,by kernel_rfl⟩ (λ_ _=>rfl) (λnm s=>zFm rfl λi x y hx hy=>by
 rcases i with _ | _ | _ | i
 . injection hx with hx;injection hy with hy;subst hx hy;exact zCr (by have h : Sft 2 nm (.os 0 0 s.1.length) (.os (nm + 0) 0 s.1.length):=zAm (by decide);exact h)
 . injection hx with hx;injection hy with hy;subst hx hy;exact zCr (by have h : Sft 2 nm (.os 1 0 s.2.1.length) (.os (nm + 1) 0 s.2.1.length):=zAm (by decide);exact h)
 . injection hx with hx;injection hy with hy;subst hx hy;exact zCr zBl
 . cases hx) (λnm a ha k e e' h h'=>by
 iterate 2 (rcases k with _ | k;· (injection h with h;injection h' with h';subst h h';first | exact ⟨rfl,rfl,rfl,rfl,λi hi j hj=>zA0 (ZF.sh _ j hj)⟩ | exact ⟨rfl,rfl,rfl,rfl,λi hi j hj=>zA0 (Zr.sh _ j hj)⟩))
 cases h) λa h=>mstep1 a.1 a.2.1 a.2.2.1 h.1 h.2
structure MapI {α : Type} [Inhabited α] (f : α -> α) (L : List α) where
 i : Nat
 M : List α
 n : M.length = L.length
 hi : i <= L.length
 h1 : ∀ p,p < i -> M.getD p default = f (L.getD p default)
 h2 : ∀ p,i <= p -> M.getD p default = L.getD p default
theorem gset_ne {α : Type} [Inhabited α] {L : List α} {a p : Nat} {s : α} (h : p ≠ a) : (L.set a s).getD p default = L.getD p default:=by
 rw [List.getD_eq_getElem?_getD,List.getD_eq_getElem?_getD,List.getElem?_set,if_neg (Ne.symm h)]
theorem gset_at {α : Type} [Inhabited α] {L : List α} {a : Nat} {s : α} (h : a < L.length) : (L.set a s).getD a default = s:=by
 rw [List.getD_eq_getElem?_getD,List.getElem?_set,if_pos rfl,if_pos h];rfl
theorem YL {α : Type} [Inhabited α] {L : List α} {i : Nat} (h : i < L.length) : L.set i (L.getD i default) = L:=by
 apply List.ext_getElem
 . rw [List.length_set]
 . intro k h1 h2;rw [List.getElem_set];split
   . rename_i e;subst e;rw [List.getD_eq_getElem?_getD,List.getElem?_eq_getElem h];rfl
   . rfl
def MapI.start {α : Type} [Inhabited α] (f : α -> α) (L : List α) : MapI f L:=⟨0,L,rfl,Nat.zero_le _,λp hp=>absurd hp (Nat.not_lt_zero p),λ_ _=>rfl⟩
def MapI.next {α : Type} [Inhabited α] {f : α -> α} {L : List α} (s : MapI f L) (h : s.i < L.length) (M' : List α) (hM : s.M.set s.i (f (L.getD s.i default)) = M') : MapI f L where
 i:=s.i + 1
 M:=M'
 n:=by rw [<- hM,List.length_set];exact s.n
 hi:=h
 h1 p hp:=by
  rw [<- hM];by_cases he : p = s.i
  . subst he;exact gset_at (by rw [s.n];exact h)
  . rw [gset_ne he];exact s.h1 p (by omega)
 h2 p hp:=by rw [<- hM,gset_ne (by omega)];exact s.h2 p (by omega)
theorem MapI.last {α : Type} [Inhabited α] {f : α -> α} {L : List α} (s : MapI f L) (h : ¬ s.i < L.length) : s.M = L.map f:=by
 apply List.ext_getElem
 . rw [List.length_map];exact s.n
 . intro k h1 h2;have hk : k < L.length:=by rw [<- s.n];exact h1
   have e:=s.h1 k (by omega);rw [List.getD_eq_getElem?_getD,List.getElem?_eq_getElem h1,List.getD_eq_getElem?_getD,List.getElem?_eq_getElem hk] at e;rw [List.getElem_map];exact e
theorem zAy {P : Nat -> Prop} (h : P 0 /\ P 1 /\ P 2 /\ P 3 /\ P 4 /\ P 5 /\ P 6 /\ P 7 /\ P 8 /\ P 9 /\ P 10) : ∀ j,j < 11 -> P j:=λj hj=>by
 obtain ⟨h0,h1,h2,h3,h4,h5,h6,h7,h8,h9,h10⟩:=h;rcases (show j = 0 \/ j = 1 \/ j = 2 \/ j = 3 \/ j = 4 \/ j = 5 \/ j = 6 \/ j = 7 \/ j = 8 \/ j = 9 \/ j = 10 by omega) with rfl | rfl | rfl | rfl | rfl | rfl | rfl | rfl | rfl | rfl | rfl<;>assumption
theorem qh {c : Wc} {d n : Nat} {M : List Sed} (h : ∀ p,p < 8 -> c.src (d + p) = some (d + p)) (hn : n <= 8:=by decide) : LeN c (qt d n M) (qt d n M):=zP hn h
theorem zAR {x : List Hel} {k : Nat} (h : k < x.length) : x.take (k + 1) = x.take k ++ [x.getD k default]:=by
 rw [List.take_add_one,List.getD_eq_getElem?_getD,List.getElem?_eq_getElem h];rfl
theorem QS {c : Wc} {t : TypeId} {Z : List Hel} {x : Hel} {n : Nat} {g z : Nat -> CV} (hn : n = Z.length) (h : ∀ j,j < 11 -> ZX c (g j) (zn.cell x j)) : LeN c ⟨t,n + 1,11,false,λk j=>Zi (Nat.blt k n) (zo zn Z k j) (Zi (Nat.beq (0 + (k - n)) 0) (g j) (z j))⟩ (ZL zn t (Z ++ [x])):=by
 subst hn;refine ⟨rfl,by show _ = (Z ++ [x]).length;rw [List.length_append];rfl,rfl,rfl,λk hk j hj=>?_⟩;have hk : k < Z.length + 1:=hk;by_cases hkz : k < Z.length
 . refine ZU (Nat.ble_eq_true_of_le hkz) ?_;have e : zo zn (Z ++ [x]) k j = zo zn Z k j:=congrArg (λz=>zn.cell z j) (by rw [List.getD_eq_getElem?_getD,List.getElem?_append_left hkz,<- List.getD_eq_getElem?_getD]);show ZX c _ (zo zn (Z ++ [x]) k j);rw [e];exact (zn.sh _ j hj).le
 . obtain rfl : k = Z.length:=by omega
   refine Zd (Zn _) (ZU (by rw [Nat.sub_self];rfl) ?_);have e : zo zn (Z ++ [x]) Z.length j = zn.cell x j:=congrArg (λz=>zn.cell z j) (by simp [List.getD_eq_getElem?_getD]);show ZX c _ (zo zn (Z ++ [x]) Z.length j);rw [e];exact h j hj
theorem zAj {c : Wc} {t : TypeId} {e : Ent} {l l' : List Hel} (h : LeN c e (ZL zn t l)) (hl : l' = l) : LeN c e (ZL zn t l'):=by subst hl;exact h
theorem rcopy_ok (L : List Sed) (hL : Cl8 L) : zAl Try.prog 43 [(Yl ZF qA).enc L] (zO (.os 0 0 L.length)) (Ents8 1 L):=by
 have hn:=hL.n;refine zA9 (wd:=1) (by decide) zM (zb qD) zN Try.func43 rfl _ (by show 1 <= _;decide) ?_;repeat' (first | (apply And.intro<;>intro hc<;>(first | exact Bool.noConfusion hc | (exfalso;first | exact absurd rfl hc | omega) | (simp only [zg] at hc<;>first | exact absurd rfl hc | (exfalso;first | exact absurd rfl hc | omega) | skip) | skip)) | (refine And.intro ze ?_) | (apply And.intro) | (intro s hs;skip) | (refine Exists.intro _ (And.intro ⟨rfl,rfl,rfl⟩ ?_)))
 conv=>whnf
 refine zQ (zT qD) (λs : {i : Nat // i <= L.length}=>(⟨[(3,zO (.os 50 0 s.1)),(9,zO (qY ZF L)),(10,zO (.int .i64 (L.length : Int))),(11,zO (.int .i64 (s.1 : Int)))],[(50,some (qt 51 s.1 L)),(51,some (zV (Zw L s.1 0))),(52,some (zV (Zw L s.1 1))),(53,some (zV (Zw L s.1 2))),(54,some (zV (Zw L s.1 3))),(55,some (zV (Zw L s.1 4))),(56,some (zV (Zw L s.1 5))),(57,some (zV (Zw L s.1 6))),(58,some (zV (Zw L s.1 7)))],59⟩ : Hd)) (λs=>L.length - s.1) (λ_=>rfl) ?_ ⟨0,Nat.zero_le _⟩ [(50,none),(51,none),(52,none),(53,none),(54,none),(55,none),(56,none),(57,none),(58,none)] ⟨rfl,⟨zE (ZP rfl),zE (zm (zc L)),zA rfl,zA rfl,trivial⟩,⟨⟨rfl,rfl,rfl,Nat.le_of_ble_eq_true rfl⟩,⟨rfl,rfl,rfl,Nat.le_of_ble_eq_true rfl⟩,⟨rfl,rfl,rfl,Nat.le_of_ble_eq_true rfl⟩,⟨rfl,rfl,rfl,Nat.le_of_ble_eq_true rfl⟩,⟨rfl,rfl,rfl,Nat.le_of_ble_eq_true rfl⟩,⟨rfl,rfl,rfl,Nat.le_of_ble_eq_true rfl⟩,⟨rfl,rfl,rfl,Nat.le_of_ble_eq_true rfl⟩,⟨rfl,rfl,rfl,Nat.le_of_ble_eq_true rfl⟩,⟨rfl,rfl,rfl,Nat.le_of_ble_eq_true rfl⟩,trivial⟩⟩;rintro ⟨i,hi⟩;dsimp only at hi ⊢;unfold qY;by_cases hil : i < L.length
 . have w3 : IntKind.i64.wrap ((i : Int) + 1) = ((i + 1 : Nat) : Int):=(IntWalk.i64_in _ (by omega)).trans (by omega);have hk:=hL.k _ (QX hil);rcases (show i = 0 \/ i = 1 \/ i = 2 \/ i = 3 \/ i = 4 \/ i = 5 \/ i = 6 \/ i = 7 by omega) with rfl | rfl | rfl | rfl | rfl | rfl | rfl | rfl
   . obtain ⟨x,ex⟩ : ∃ x,L.getD 0 default = x:=⟨_,rfl⟩;have ec : zo ZF L 0 = ZF.cell x:=congrArg ZF.cell ex;have zi : ((0 : Nat) : Int).toNat = 0:=rfl;rw [ex] at hk;repeat' (first | (simp only [zi,ec]) | (apply And.intro<;>intro hc<;>(first | exact Bool.noConfusion hc | (exfalso;first | exact absurd rfl hc | omega) | (simp only [zg] at hc<;>first | exact absurd rfl hc | (exfalso;first | exact absurd rfl hc | omega) | skip) | skip)) | (refine And.intro ze ?_) | (apply And.intro) | (intro s hs;skip) | (refine Exists.intro _ (And.intro ⟨rfl,rfl,rfl⟩ ?_)))
     conv=>whnf
     refine zQ (zT qD) (λs : {k : Nat // k <= x.held.length}=>(⟨[(3,zO (.os 50 0 0)),(9,zO (qY ZF L)),(10,zO (.int .i64 (L.length : Int))),(11,zO (.int .i64 ((0 : Nat) : Int))),(5,zO (.ptr 60 0 0 false)),(6,zO (.os 59 0 s.1)),(16,zO (slN zn x.held)),(17,zO (.int .i64 (x.held.length : Int))),(18,zO (.int .i64 (s.1 : Int)))],[(50,some (qt 51 0 L)),(51,some (zV (Zw L 0 0))),(52,some (zV (Zw L 0 1))),(53,some (zV (Zw L 0 2))),(54,some (zV (Zw L 0 3))),(55,some (zV (Zw L 0 4))),(56,some (zV (Zw L 0 5))),(57,some (zV (Zw L 0 6))),(58,some (zV (Zw L 0 7))),(59,some (zV (x.held.take s.1))),(60,some ⟨78,1,3,true,λ_=>ZF.cell x⟩)],61⟩ : Hd)) (λs=>x.held.length - s.1) (λ_=>rfl) ?_ ⟨0,Nat.zero_le _⟩ [(59,none),(60,some 62)] ⟨rfl,⟨zE (zD rfl rfl),zE (zm (zc L)),zA rfl,zA rfl,zH rfl,zE (ZP rfl),zE (qO _).le,zA rfl,zA rfl,trivial⟩,⟨⟨rfl,qh (qF rfl rfl rfl rfl rfl rfl rfl rfl)⟩,⟨rfl,zB⟩,⟨rfl,zB⟩,⟨rfl,zB⟩,⟨rfl,zB⟩,⟨rfl,zB⟩,⟨rfl,zB⟩,⟨rfl,zB⟩,⟨rfl,zB⟩,⟨rfl,rfl,rfl,Nat.le_of_ble_eq_true rfl⟩,⟨rfl,zI λj hj=>(ZF.sh _ j hj).le⟩,trivial⟩⟩;rintro ⟨k,hkx⟩;dsimp only at hkx ⊢;unfold qY;by_cases hkl : k < x.held.length
     . have w5 : IntKind.i64.wrap ((k : Int) + 1) = ((k + 1 : Nat) : Int):=(IntWalk.i64_in _ (by have:=hk.n;omega)).trans (by omega);obtain ⟨h,eh⟩ : ∃ h,x.held.getD k default = h:=⟨_,rfl⟩;have eck : zo zn x.held k = zn.cell h:=congrArg zn.cell eh;have zk : (k : Int).toNat = k:=rfl;have hd:=hk.d _ (QX hkl);rw [eh] at hd;have hkn:=hk.n;repeat' (first | (simp only [zk,eck]) | (apply And.intro<;>intro hc<;>(first | exact Bool.noConfusion hc | (exfalso;first | exact absurd rfl hc | omega) | (simp only [zg] at hc<;>first | exact absurd rfl hc | (exfalso;first | exact absurd rfl hc | omega) | skip) | skip)) | (refine And.intro ze ?_) | (apply And.intro) | (intro s hs;skip) | (refine Exists.intro _ (And.intro ⟨rfl,rfl,rfl⟩ ?_)))
       . rw [List.length_take];omega
       . show k + 1 <= 9223372036854775807;omega
       conv=>whnf
       refine ⟨⟨k + 1,hkl⟩,[(59,some 74)],by dsimp only;omega,rfl,⟨zE (zD rfl rfl),zE (zm (zc L)),zA rfl,zA rfl,zH rfl,zE (zD rfl rfl),zE (qO _).le,zA rfl,zA w5,trivial⟩,⟨⟨rfl,qh (qF rfl rfl rfl rfl rfl rfl rfl rfl)⟩,⟨rfl,zB⟩,⟨rfl,zB⟩,⟨rfl,zB⟩,⟨rfl,zB⟩,⟨rfl,zB⟩,⟨rfl,zB⟩,⟨rfl,zB⟩,⟨rfl,zB⟩,⟨rfl,zAj (QS (Z:=x.held.take k) (x:=h) (by rw [List.length_take];omega) (zAy ⟨zC rfl,zy rfl rfl rfl rfl (Nat.le_of_eq (Nat.zero_add _)) (λq hq j hj=>?_),zC rfl,zC rfl,zC rfl,zC rfl,zC rfl,zC rfl,zC rfl,zS rfl,zC rfl⟩)) (by rw [zAR hkl,eh])⟩,⟨rfl,zI λj hj=>(ZF.sh _ j hj).le⟩,trivial⟩⟩;show ZX _ (qC eB h.data (0 + q) j) (qC eB h.data q j);exact zC (congrArg (λz=>h.data.getD z default) (Nat.zero_add q))
     . obtain rfl : k = x.held.length:=by omega
       repeat' (first | (apply And.intro<;>intro hc<;>(first | exact Bool.noConfusion hc | (exfalso;first | exact absurd rfl hc | omega) | (simp only [zg] at hc<;>first | exact absurd rfl hc | (exfalso;first | exact absurd rfl hc | omega) | skip) | skip)) | (refine And.intro ze ?_) | (apply And.intro) | (intro s hs;skip) | (refine Exists.intro _ (And.intro ⟨rfl,rfl,rfl⟩ ?_)))
       conv=>whnf
       refine ⟨⟨1,hil⟩,[(50,some 68),(51,some 59)],by dsimp only;omega,rfl,⟨zE (zD rfl rfl),zE (zm (zc L)),zA rfl,zA w3,trivial⟩,⟨⟨rfl,⟨rfl,rfl,rfl,rfl,λp hp j hj=>?_⟩⟩,⟨rfl,zF ((List.take_length).trans (congrArg Sed.held ex).symm)⟩,⟨rfl,zB⟩,⟨rfl,zB⟩,⟨rfl,zB⟩,⟨rfl,zB⟩,⟨rfl,zB⟩,⟨rfl,zB⟩,⟨rfl,zB⟩,trivial⟩⟩;have hp' : p < 1:=hp;have hj' : j < 3:=hj;show ZX _ (Zi (Nat.blt p 0) (ZT 51 L p j) _) (ZT 51 L p j);by_cases hpi : p < 0
       . refine ZU (Nat.ble_eq_true_of_le hpi) ?_;exact absurd hpi (Nat.not_lt_zero p)
       . obtain rfl : p = 0:=by omega
         refine Zd (Zn _) ?_;rcases j with _ | _ | _ | j
         . exact zC (congrArg Sed.id ex).symm
         . exact zC (congrArg Sed.mn ex).symm
         . exact zD rfl (congrArg (λz : Sed=>z.held.length) ex).symm
         . omega
   . obtain ⟨x,ex⟩ : ∃ x,L.getD 1 default = x:=⟨_,rfl⟩;have ec : zo ZF L 1 = ZF.cell x:=congrArg ZF.cell ex;have zi : ((1 : Nat) : Int).toNat = 1:=rfl;rw [ex] at hk;repeat' (first | (simp only [zi,ec]) | (apply And.intro<;>intro hc<;>(first | exact Bool.noConfusion hc | (exfalso;first | exact absurd rfl hc | omega) | (simp only [zg] at hc<;>first | exact absurd rfl hc | (exfalso;first | exact absurd rfl hc | omega) | skip) | skip)) | (refine And.intro ze ?_) | (apply And.intro) | (intro s hs;skip) | (refine Exists.intro _ (And.intro ⟨rfl,rfl,rfl⟩ ?_)))
     conv=>whnf
     refine zQ (zT qD) (λs : {k : Nat // k <= x.held.length}=>(⟨[(3,zO (.os 50 0 1)),(9,zO (qY ZF L)),(10,zO (.int .i64 (L.length : Int))),(11,zO (.int .i64 ((1 : Nat) : Int))),(5,zO (.ptr 60 0 0 false)),(6,zO (.os 59 0 s.1)),(16,zO (slN zn x.held)),(17,zO (.int .i64 (x.held.length : Int))),(18,zO (.int .i64 (s.1 : Int)))],[(50,some (qt 51 1 L)),(51,some (zV (Zw L 1 0))),(52,some (zV (Zw L 1 1))),(53,some (zV (Zw L 1 2))),(54,some (zV (Zw L 1 3))),(55,some (zV (Zw L 1 4))),(56,some (zV (Zw L 1 5))),(57,some (zV (Zw L 1 6))),(58,some (zV (Zw L 1 7))),(59,some (zV (x.held.take s.1))),(60,some ⟨78,1,3,true,λ_=>ZF.cell x⟩)],61⟩ : Hd)) (λs=>x.held.length - s.1) (λ_=>rfl) ?_ ⟨0,Nat.zero_le _⟩ [(59,none),(60,some 62)] ⟨rfl,⟨zE (zD rfl rfl),zE (zm (zc L)),zA rfl,zA rfl,zH rfl,zE (ZP rfl),zE (qO _).le,zA rfl,zA rfl,trivial⟩,⟨⟨rfl,qh (qF rfl rfl rfl rfl rfl rfl rfl rfl)⟩,⟨rfl,zB⟩,⟨rfl,zB⟩,⟨rfl,zB⟩,⟨rfl,zB⟩,⟨rfl,zB⟩,⟨rfl,zB⟩,⟨rfl,zB⟩,⟨rfl,zB⟩,⟨rfl,rfl,rfl,Nat.le_of_ble_eq_true rfl⟩,⟨rfl,zI λj hj=>(ZF.sh _ j hj).le⟩,trivial⟩⟩;rintro ⟨k,hkx⟩;dsimp only at hkx ⊢;unfold qY;by_cases hkl : k < x.held.length
     . have w5 : IntKind.i64.wrap ((k : Int) + 1) = ((k + 1 : Nat) : Int):=(IntWalk.i64_in _ (by have:=hk.n;omega)).trans (by omega);obtain ⟨h,eh⟩ : ∃ h,x.held.getD k default = h:=⟨_,rfl⟩;have eck : zo zn x.held k = zn.cell h:=congrArg zn.cell eh;have zk : (k : Int).toNat = k:=rfl;have hd:=hk.d _ (QX hkl);rw [eh] at hd;have hkn:=hk.n;repeat' (first | (simp only [zk,eck]) | (apply And.intro<;>intro hc<;>(first | exact Bool.noConfusion hc | (exfalso;first | exact absurd rfl hc | omega) | (simp only [zg] at hc<;>first | exact absurd rfl hc | (exfalso;first | exact absurd rfl hc | omega) | skip) | skip)) | (refine And.intro ze ?_) | (apply And.intro) | (intro s hs;skip) | (refine Exists.intro _ (And.intro ⟨rfl,rfl,rfl⟩ ?_)))
       . rw [List.length_take];omega
       . show k + 1 <= 9223372036854775807;omega
       conv=>whnf
       refine ⟨⟨k + 1,hkl⟩,[(59,some 74)],by dsimp only;omega,rfl,⟨zE (zD rfl rfl),zE (zm (zc L)),zA rfl,zA rfl,zH rfl,zE (zD rfl rfl),zE (qO _).le,zA rfl,zA w5,trivial⟩,⟨⟨rfl,qh (qF rfl rfl rfl rfl rfl rfl rfl rfl)⟩,⟨rfl,zB⟩,⟨rfl,zB⟩,⟨rfl,zB⟩,⟨rfl,zB⟩,⟨rfl,zB⟩,⟨rfl,zB⟩,⟨rfl,zB⟩,⟨rfl,zB⟩,⟨rfl,zAj (QS (Z:=x.held.take k) (x:=h) (by rw [List.length_take];omega) (zAy ⟨zC rfl,zy rfl rfl rfl rfl (Nat.le_of_eq (Nat.zero_add _)) (λq hq j hj=>?_),zC rfl,zC rfl,zC rfl,zC rfl,zC rfl,zC rfl,zC rfl,zS rfl,zC rfl⟩)) (by rw [zAR hkl,eh])⟩,⟨rfl,zI λj hj=>(ZF.sh _ j hj).le⟩,trivial⟩⟩;show ZX _ (qC eB h.data (0 + q) j) (qC eB h.data q j);exact zC (congrArg (λz=>h.data.getD z default) (Nat.zero_add q))
     . obtain rfl : k = x.held.length:=by omega
       repeat' (first | (apply And.intro<;>intro hc<;>(first | exact Bool.noConfusion hc | (exfalso;first | exact absurd rfl hc | omega) | (simp only [zg] at hc<;>first | exact absurd rfl hc | (exfalso;first | exact absurd rfl hc | omega) | skip) | skip)) | (refine And.intro ze ?_) | (apply And.intro) | (intro s hs;skip) | (refine Exists.intro _ (And.intro ⟨rfl,rfl,rfl⟩ ?_)))
       conv=>whnf
       refine ⟨⟨2,hil⟩,[(50,some 68),(52,some 59)],by dsimp only;omega,rfl,⟨zE (zD rfl rfl),zE (zm (zc L)),zA rfl,zA w3,trivial⟩,⟨⟨rfl,⟨rfl,rfl,rfl,rfl,λp hp j hj=>?_⟩⟩,⟨rfl,zB⟩,⟨rfl,zF ((List.take_length).trans (congrArg Sed.held ex).symm)⟩,⟨rfl,zB⟩,⟨rfl,zB⟩,⟨rfl,zB⟩,⟨rfl,zB⟩,⟨rfl,zB⟩,⟨rfl,zB⟩,trivial⟩⟩;have hp' : p < 2:=hp;have hj' : j < 3:=hj;show ZX _ (Zi (Nat.blt p 1) (ZT 51 L p j) _) (ZT 51 L p j);by_cases hpi : p < 1
       . refine ZU (Nat.ble_eq_true_of_le hpi) ?_;rcases (show p = 0 by omega) with rfl<;>exact qo hj' rfl
       . obtain rfl : p = 1:=by omega
         refine Zd (Zn _) ?_;rcases j with _ | _ | _ | j
         . exact zC (congrArg Sed.id ex).symm
         . exact zC (congrArg Sed.mn ex).symm
         . exact zD rfl (congrArg (λz : Sed=>z.held.length) ex).symm
         . omega
   . obtain ⟨x,ex⟩ : ∃ x,L.getD 2 default = x:=⟨_,rfl⟩;have ec : zo ZF L 2 = ZF.cell x:=congrArg ZF.cell ex;have zi : ((2 : Nat) : Int).toNat = 2:=rfl;rw [ex] at hk;repeat' (first | (simp only [zi,ec]) | (apply And.intro<;>intro hc<;>(first | exact Bool.noConfusion hc | (exfalso;first | exact absurd rfl hc | omega) | (simp only [zg] at hc<;>first | exact absurd rfl hc | (exfalso;first | exact absurd rfl hc | omega) | skip) | skip)) | (refine And.intro ze ?_) | (apply And.intro) | (intro s hs;skip) | (refine Exists.intro _ (And.intro ⟨rfl,rfl,rfl⟩ ?_)))
     conv=>whnf
     refine zQ (zT qD) (λs : {k : Nat // k <= x.held.length}=>(⟨[(3,zO (.os 50 0 2)),(9,zO (qY ZF L)),(10,zO (.int .i64 (L.length : Int))),(11,zO (.int .i64 ((2 : Nat) : Int))),(5,zO (.ptr 60 0 0 false)),(6,zO (.os 59 0 s.1)),(16,zO (slN zn x.held)),(17,zO (.int .i64 (x.held.length : Int))),(18,zO (.int .i64 (s.1 : Int)))],[(50,some (qt 51 2 L)),(51,some (zV (Zw L 2 0))),(52,some (zV (Zw L 2 1))),(53,some (zV (Zw L 2 2))),(54,some (zV (Zw L 2 3))),(55,some (zV (Zw L 2 4))),(56,some (zV (Zw L 2 5))),(57,some (zV (Zw L 2 6))),(58,some (zV (Zw L 2 7))),(59,some (zV (x.held.take s.1))),(60,some ⟨78,1,3,true,λ_=>ZF.cell x⟩)],61⟩ : Hd)) (λs=>x.held.length - s.1) (λ_=>rfl) ?_ ⟨0,Nat.zero_le _⟩ [(59,none),(60,some 62)] ⟨rfl,⟨zE (zD rfl rfl),zE (zm (zc L)),zA rfl,zA rfl,zH rfl,zE (ZP rfl),zE (qO _).le,zA rfl,zA rfl,trivial⟩,⟨⟨rfl,qh (qF rfl rfl rfl rfl rfl rfl rfl rfl)⟩,⟨rfl,zB⟩,⟨rfl,zB⟩,⟨rfl,zB⟩,⟨rfl,zB⟩,⟨rfl,zB⟩,⟨rfl,zB⟩,⟨rfl,zB⟩,⟨rfl,zB⟩,⟨rfl,rfl,rfl,Nat.le_of_ble_eq_true rfl⟩,⟨rfl,zI λj hj=>(ZF.sh _ j hj).le⟩,trivial⟩⟩;rintro ⟨k,hkx⟩;dsimp only at hkx ⊢;unfold qY;by_cases hkl : k < x.held.length
     . have w5 : IntKind.i64.wrap ((k : Int) + 1) = ((k + 1 : Nat) : Int):=(IntWalk.i64_in _ (by have:=hk.n;omega)).trans (by omega);obtain ⟨h,eh⟩ : ∃ h,x.held.getD k default = h:=⟨_,rfl⟩;have eck : zo zn x.held k = zn.cell h:=congrArg zn.cell eh;have zk : (k : Int).toNat = k:=rfl;have hd:=hk.d _ (QX hkl);rw [eh] at hd;have hkn:=hk.n;repeat' (first | (simp only [zk,eck]) | (apply And.intro<;>intro hc<;>(first | exact Bool.noConfusion hc | (exfalso;first | exact absurd rfl hc | omega) | (simp only [zg] at hc<;>first | exact absurd rfl hc | (exfalso;first | exact absurd rfl hc | omega) | skip) | skip)) | (refine And.intro ze ?_) | (apply And.intro) | (intro s hs;skip) | (refine Exists.intro _ (And.intro ⟨rfl,rfl,rfl⟩ ?_)))
       . rw [List.length_take];omega
       . show k + 1 <= 9223372036854775807;omega
       conv=>whnf
       refine ⟨⟨k + 1,hkl⟩,[(59,some 74)],by dsimp only;omega,rfl,⟨zE (zD rfl rfl),zE (zm (zc L)),zA rfl,zA rfl,zH rfl,zE (zD rfl rfl),zE (qO _).le,zA rfl,zA w5,trivial⟩,⟨⟨rfl,qh (qF rfl rfl rfl rfl rfl rfl rfl rfl)⟩,⟨rfl,zB⟩,⟨rfl,zB⟩,⟨rfl,zB⟩,⟨rfl,zB⟩,⟨rfl,zB⟩,⟨rfl,zB⟩,⟨rfl,zB⟩,⟨rfl,zB⟩,⟨rfl,zAj (QS (Z:=x.held.take k) (x:=h) (by rw [List.length_take];omega) (zAy ⟨zC rfl,zy rfl rfl rfl rfl (Nat.le_of_eq (Nat.zero_add _)) (λq hq j hj=>?_),zC rfl,zC rfl,zC rfl,zC rfl,zC rfl,zC rfl,zC rfl,zS rfl,zC rfl⟩)) (by rw [zAR hkl,eh])⟩,⟨rfl,zI λj hj=>(ZF.sh _ j hj).le⟩,trivial⟩⟩;show ZX _ (qC eB h.data (0 + q) j) (qC eB h.data q j);exact zC (congrArg (λz=>h.data.getD z default) (Nat.zero_add q))
     . obtain rfl : k = x.held.length:=by omega
       repeat' (first | (apply And.intro<;>intro hc<;>(first | exact Bool.noConfusion hc | (exfalso;first | exact absurd rfl hc | omega) | (simp only [zg] at hc<;>first | exact absurd rfl hc | (exfalso;first | exact absurd rfl hc | omega) | skip) | skip)) | (refine And.intro ze ?_) | (apply And.intro) | (intro s hs;skip) | (refine Exists.intro _ (And.intro ⟨rfl,rfl,rfl⟩ ?_)))
       conv=>whnf
       refine ⟨⟨3,hil⟩,[(50,some 68),(53,some 59)],by dsimp only;omega,rfl,⟨zE (zD rfl rfl),zE (zm (zc L)),zA rfl,zA w3,trivial⟩,⟨⟨rfl,⟨rfl,rfl,rfl,rfl,λp hp j hj=>?_⟩⟩,⟨rfl,zB⟩,⟨rfl,zB⟩,⟨rfl,zF ((List.take_length).trans (congrArg Sed.held ex).symm)⟩,⟨rfl,zB⟩,⟨rfl,zB⟩,⟨rfl,zB⟩,⟨rfl,zB⟩,⟨rfl,zB⟩,trivial⟩⟩;have hp' : p < 3:=hp;have hj' : j < 3:=hj;show ZX _ (Zi (Nat.blt p 2) (ZT 51 L p j) _) (ZT 51 L p j);by_cases hpi : p < 2
       . refine ZU (Nat.ble_eq_true_of_le hpi) ?_;rcases (show p = 0 \/ p = 1 by omega) with rfl | rfl<;>exact qo hj' rfl
       . obtain rfl : p = 2:=by omega
         refine Zd (Zn _) ?_;rcases j with _ | _ | _ | j
         . exact zC (congrArg Sed.id ex).symm
         . exact zC (congrArg Sed.mn ex).symm
         . exact zD rfl (congrArg (λz : Sed=>z.held.length) ex).symm
         . omega
   . obtain ⟨x,ex⟩ : ∃ x,L.getD 3 default = x:=⟨_,rfl⟩;have ec : zo ZF L 3 = ZF.cell x:=congrArg ZF.cell ex;have zi : ((3 : Nat) : Int).toNat = 3:=rfl;rw [ex] at hk;repeat' (first | (simp only [zi,ec]) | (apply And.intro<;>intro hc<;>(first | exact Bool.noConfusion hc | (exfalso;first | exact absurd rfl hc | omega) | (simp only [zg] at hc<;>first | exact absurd rfl hc | (exfalso;first | exact absurd rfl hc | omega) | skip) | skip)) | (refine And.intro ze ?_) | (apply And.intro) | (intro s hs;skip) | (refine Exists.intro _ (And.intro ⟨rfl,rfl,rfl⟩ ?_)))
     conv=>whnf
     refine zQ (zT qD) (λs : {k : Nat // k <= x.held.length}=>(⟨[(3,zO (.os 50 0 3)),(9,zO (qY ZF L)),(10,zO (.int .i64 (L.length : Int))),(11,zO (.int .i64 ((3 : Nat) : Int))),(5,zO (.ptr 60 0 0 false)),(6,zO (.os 59 0 s.1)),(16,zO (slN zn x.held)),(17,zO (.int .i64 (x.held.length : Int))),(18,zO (.int .i64 (s.1 : Int)))],[(50,some (qt 51 3 L)),(51,some (zV (Zw L 3 0))),(52,some (zV (Zw L 3 1))),(53,some (zV (Zw L 3 2))),(54,some (zV (Zw L 3 3))),(55,some (zV (Zw L 3 4))),(56,some (zV (Zw L 3 5))),(57,some (zV (Zw L 3 6))),(58,some (zV (Zw L 3 7))),(59,some (zV (x.held.take s.1))),(60,some ⟨78,1,3,true,λ_=>ZF.cell x⟩)],61⟩ : Hd)) (λs=>x.held.length - s.1) (λ_=>rfl) ?_ ⟨0,Nat.zero_le _⟩ [(59,none),(60,some 62)] ⟨rfl,⟨zE (zD rfl rfl),zE (zm (zc L)),zA rfl,zA rfl,zH rfl,zE (ZP rfl),zE (qO _).le,zA rfl,zA rfl,trivial⟩,⟨⟨rfl,qh (qF rfl rfl rfl rfl rfl rfl rfl rfl)⟩,⟨rfl,zB⟩,⟨rfl,zB⟩,⟨rfl,zB⟩,⟨rfl,zB⟩,⟨rfl,zB⟩,⟨rfl,zB⟩,⟨rfl,zB⟩,⟨rfl,zB⟩,⟨rfl,rfl,rfl,Nat.le_of_ble_eq_true rfl⟩,⟨rfl,zI λj hj=>(ZF.sh _ j hj).le⟩,trivial⟩⟩;rintro ⟨k,hkx⟩;dsimp only at hkx ⊢;unfold qY;by_cases hkl : k < x.held.length
     . have w5 : IntKind.i64.wrap ((k : Int) + 1) = ((k + 1 : Nat) : Int):=(IntWalk.i64_in _ (by have:=hk.n;omega)).trans (by omega);obtain ⟨h,eh⟩ : ∃ h,x.held.getD k default = h:=⟨_,rfl⟩;have eck : zo zn x.held k = zn.cell h:=congrArg zn.cell eh;have zk : (k : Int).toNat = k:=rfl;have hd:=hk.d _ (QX hkl);rw [eh] at hd;have hkn:=hk.n;repeat' (first | (simp only [zk,eck]) | (apply And.intro<;>intro hc<;>(first | exact Bool.noConfusion hc | (exfalso;first | exact absurd rfl hc | omega) | (simp only [zg] at hc<;>first | exact absurd rfl hc | (exfalso;first | exact absurd rfl hc | omega) | skip) | skip)) | (refine And.intro ze ?_) | (apply And.intro) | (intro s hs;skip) | (refine Exists.intro _ (And.intro ⟨rfl,rfl,rfl⟩ ?_)))
       . rw [List.length_take];omega
       . show k + 1 <= 9223372036854775807;omega
       conv=>whnf
       refine ⟨⟨k + 1,hkl⟩,[(59,some 74)],by dsimp only;omega,rfl,⟨zE (zD rfl rfl),zE (zm (zc L)),zA rfl,zA rfl,zH rfl,zE (zD rfl rfl),zE (qO _).le,zA rfl,zA w5,trivial⟩,⟨⟨rfl,qh (qF rfl rfl rfl rfl rfl rfl rfl rfl)⟩,⟨rfl,zB⟩,⟨rfl,zB⟩,⟨rfl,zB⟩,⟨rfl,zB⟩,⟨rfl,zB⟩,⟨rfl,zB⟩,⟨rfl,zB⟩,⟨rfl,zB⟩,⟨rfl,zAj (QS (Z:=x.held.take k) (x:=h) (by rw [List.length_take];omega) (zAy ⟨zC rfl,zy rfl rfl rfl rfl (Nat.le_of_eq (Nat.zero_add _)) (λq hq j hj=>?_),zC rfl,zC rfl,zC rfl,zC rfl,zC rfl,zC rfl,zC rfl,zS rfl,zC rfl⟩)) (by rw [zAR hkl,eh])⟩,⟨rfl,zI λj hj=>(ZF.sh _ j hj).le⟩,trivial⟩⟩;show ZX _ (qC eB h.data (0 + q) j) (qC eB h.data q j);exact zC (congrArg (λz=>h.data.getD z default) (Nat.zero_add q))
     . obtain rfl : k = x.held.length:=by omega
       repeat' (first | (apply And.intro<;>intro hc<;>(first | exact Bool.noConfusion hc | (exfalso;first | exact absurd rfl hc | omega) | (simp only [zg] at hc<;>first | exact absurd rfl hc | (exfalso;first | exact absurd rfl hc | omega) | skip) | skip)) | (refine And.intro ze ?_) | (apply And.intro) | (intro s hs;skip) | (refine Exists.intro _ (And.intro ⟨rfl,rfl,rfl⟩ ?_)))
       conv=>whnf
       refine ⟨⟨4,hil⟩,[(50,some 68),(54,some 59)],by dsimp only;omega,rfl,⟨zE (zD rfl rfl),zE (zm (zc L)),zA rfl,zA w3,trivial⟩,⟨⟨rfl,⟨rfl,rfl,rfl,rfl,λp hp j hj=>?_⟩⟩,⟨rfl,zB⟩,⟨rfl,zB⟩,⟨rfl,zB⟩,⟨rfl,zF ((List.take_length).trans (congrArg Sed.held ex).symm)⟩,⟨rfl,zB⟩,⟨rfl,zB⟩,⟨rfl,zB⟩,⟨rfl,zB⟩,trivial⟩⟩;have hp' : p < 4:=hp;have hj' : j < 3:=hj;show ZX _ (Zi (Nat.blt p 3) (ZT 51 L p j) _) (ZT 51 L p j);by_cases hpi : p < 3
       . refine ZU (Nat.ble_eq_true_of_le hpi) ?_;rcases (show p = 0 \/ p = 1 \/ p = 2 by omega) with rfl | rfl | rfl<;>exact qo hj' rfl
       . obtain rfl : p = 3:=by omega
         refine Zd (Zn _) ?_;rcases j with _ | _ | _ | j
         . exact zC (congrArg Sed.id ex).symm
         . exact zC (congrArg Sed.mn ex).symm
         . exact zD rfl (congrArg (λz : Sed=>z.held.length) ex).symm
         . omega
   . obtain ⟨x,ex⟩ : ∃ x,L.getD 4 default = x:=⟨_,rfl⟩;have ec : zo ZF L 4 = ZF.cell x:=congrArg ZF.cell ex;have zi : ((4 : Nat) : Int).toNat = 4:=rfl;rw [ex] at hk;repeat' (first | (simp only [zi,ec]) | (apply And.intro<;>intro hc<;>(first | exact Bool.noConfusion hc | (exfalso;first | exact absurd rfl hc | omega) | (simp only [zg] at hc<;>first | exact absurd rfl hc | (exfalso;first | exact absurd rfl hc | omega) | skip) | skip)) | (refine And.intro ze ?_) | (apply And.intro) | (intro s hs;skip) | (refine Exists.intro _ (And.intro ⟨rfl,rfl,rfl⟩ ?_)))
     conv=>whnf
     refine zQ (zT qD) (λs : {k : Nat // k <= x.held.length}=>(⟨[(3,zO (.os 50 0 4)),(9,zO (qY ZF L)),(10,zO (.int .i64 (L.length : Int))),(11,zO (.int .i64 ((4 : Nat) : Int))),(5,zO (.ptr 60 0 0 false)),(6,zO (.os 59 0 s.1)),(16,zO (slN zn x.held)),(17,zO (.int .i64 (x.held.length : Int))),(18,zO (.int .i64 (s.1 : Int)))],[(50,some (qt 51 4 L)),(51,some (zV (Zw L 4 0))),(52,some (zV (Zw L 4 1))),(53,some (zV (Zw L 4 2))),(54,some (zV (Zw L 4 3))),(55,some (zV (Zw L 4 4))),(56,some (zV (Zw L 4 5))),(57,some (zV (Zw L 4 6))),(58,some (zV (Zw L 4 7))),(59,some (zV (x.held.take s.1))),(60,some ⟨78,1,3,true,λ_=>ZF.cell x⟩)],61⟩ : Hd)) (λs=>x.held.length - s.1) (λ_=>rfl) ?_ ⟨0,Nat.zero_le _⟩ [(59,none),(60,some 62)] ⟨rfl,⟨zE (zD rfl rfl),zE (zm (zc L)),zA rfl,zA rfl,zH rfl,zE (ZP rfl),zE (qO _).le,zA rfl,zA rfl,trivial⟩,⟨⟨rfl,qh (qF rfl rfl rfl rfl rfl rfl rfl rfl)⟩,⟨rfl,zB⟩,⟨rfl,zB⟩,⟨rfl,zB⟩,⟨rfl,zB⟩,⟨rfl,zB⟩,⟨rfl,zB⟩,⟨rfl,zB⟩,⟨rfl,zB⟩,⟨rfl,rfl,rfl,Nat.le_of_ble_eq_true rfl⟩,⟨rfl,zI λj hj=>(ZF.sh _ j hj).le⟩,trivial⟩⟩;rintro ⟨k,hkx⟩;dsimp only at hkx ⊢;unfold qY;by_cases hkl : k < x.held.length
     . have w5 : IntKind.i64.wrap ((k : Int) + 1) = ((k + 1 : Nat) : Int):=(IntWalk.i64_in _ (by have:=hk.n;omega)).trans (by omega);obtain ⟨h,eh⟩ : ∃ h,x.held.getD k default = h:=⟨_,rfl⟩;have eck : zo zn x.held k = zn.cell h:=congrArg zn.cell eh;have zk : (k : Int).toNat = k:=rfl;have hd:=hk.d _ (QX hkl);rw [eh] at hd;have hkn:=hk.n;repeat' (first | (simp only [zk,eck]) | (apply And.intro<;>intro hc<;>(first | exact Bool.noConfusion hc | (exfalso;first | exact absurd rfl hc | omega) | (simp only [zg] at hc<;>first | exact absurd rfl hc | (exfalso;first | exact absurd rfl hc | omega) | skip) | skip)) | (refine And.intro ze ?_) | (apply And.intro) | (intro s hs;skip) | (refine Exists.intro _ (And.intro ⟨rfl,rfl,rfl⟩ ?_)))
       . rw [List.length_take];omega
       . show k + 1 <= 9223372036854775807;omega
       conv=>whnf
       refine ⟨⟨k + 1,hkl⟩,[(59,some 74)],by dsimp only;omega,rfl,⟨zE (zD rfl rfl),zE (zm (zc L)),zA rfl,zA rfl,zH rfl,zE (zD rfl rfl),zE (qO _).le,zA rfl,zA w5,trivial⟩,⟨⟨rfl,qh (qF rfl rfl rfl rfl rfl rfl rfl rfl)⟩,⟨rfl,zB⟩,⟨rfl,zB⟩,⟨rfl,zB⟩,⟨rfl,zB⟩,⟨rfl,zB⟩,⟨rfl,zB⟩,⟨rfl,zB⟩,⟨rfl,zB⟩,⟨rfl,zAj (QS (Z:=x.held.take k) (x:=h) (by rw [List.length_take];omega) (zAy ⟨zC rfl,zy rfl rfl rfl rfl (Nat.le_of_eq (Nat.zero_add _)) (λq hq j hj=>?_),zC rfl,zC rfl,zC rfl,zC rfl,zC rfl,zC rfl,zC rfl,zS rfl,zC rfl⟩)) (by rw [zAR hkl,eh])⟩,⟨rfl,zI λj hj=>(ZF.sh _ j hj).le⟩,trivial⟩⟩;show ZX _ (qC eB h.data (0 + q) j) (qC eB h.data q j);exact zC (congrArg (λz=>h.data.getD z default) (Nat.zero_add q))
     . obtain rfl : k = x.held.length:=by omega
       repeat' (first | (apply And.intro<;>intro hc<;>(first | exact Bool.noConfusion hc | (exfalso;first | exact absurd rfl hc | omega) | (simp only [zg] at hc<;>first | exact absurd rfl hc | (exfalso;first | exact absurd rfl hc | omega) | skip) | skip)) | (refine And.intro ze ?_) | (apply And.intro) | (intro s hs;skip) | (refine Exists.intro _ (And.intro ⟨rfl,rfl,rfl⟩ ?_)))
       conv=>whnf
       refine ⟨⟨5,hil⟩,[(50,some 68),(55,some 59)],by dsimp only;omega,rfl,⟨zE (zD rfl rfl),zE (zm (zc L)),zA rfl,zA w3,trivial⟩,⟨⟨rfl,⟨rfl,rfl,rfl,rfl,λp hp j hj=>?_⟩⟩,⟨rfl,zB⟩,⟨rfl,zB⟩,⟨rfl,zB⟩,⟨rfl,zB⟩,⟨rfl,zF ((List.take_length).trans (congrArg Sed.held ex).symm)⟩,⟨rfl,zB⟩,⟨rfl,zB⟩,⟨rfl,zB⟩,trivial⟩⟩;have hp' : p < 5:=hp;have hj' : j < 3:=hj;show ZX _ (Zi (Nat.blt p 4) (ZT 51 L p j) _) (ZT 51 L p j);by_cases hpi : p < 4
       . refine ZU (Nat.ble_eq_true_of_le hpi) ?_;rcases (show p = 0 \/ p = 1 \/ p = 2 \/ p = 3 by omega) with rfl | rfl | rfl | rfl<;>exact qo hj' rfl
       . obtain rfl : p = 4:=by omega
         refine Zd (Zn _) ?_;rcases j with _ | _ | _ | j
         . exact zC (congrArg Sed.id ex).symm
         . exact zC (congrArg Sed.mn ex).symm
         . exact zD rfl (congrArg (λz : Sed=>z.held.length) ex).symm
         . omega
   . obtain ⟨x,ex⟩ : ∃ x,L.getD 5 default = x:=⟨_,rfl⟩;have ec : zo ZF L 5 = ZF.cell x:=congrArg ZF.cell ex;have zi : ((5 : Nat) : Int).toNat = 5:=rfl;rw [ex] at hk;repeat' (first | (simp only [zi,ec]) | (apply And.intro<;>intro hc<;>(first | exact Bool.noConfusion hc | (exfalso;first | exact absurd rfl hc | omega) | (simp only [zg] at hc<;>first | exact absurd rfl hc | (exfalso;first | exact absurd rfl hc | omega) | skip) | skip)) | (refine And.intro ze ?_) | (apply And.intro) | (intro s hs;skip) | (refine Exists.intro _ (And.intro ⟨rfl,rfl,rfl⟩ ?_)))
     conv=>whnf
     refine zQ (zT qD) (λs : {k : Nat // k <= x.held.length}=>(⟨[(3,zO (.os 50 0 5)),(9,zO (qY ZF L)),(10,zO (.int .i64 (L.length : Int))),(11,zO (.int .i64 ((5 : Nat) : Int))),(5,zO (.ptr 60 0 0 false)),(6,zO (.os 59 0 s.1)),(16,zO (slN zn x.held)),(17,zO (.int .i64 (x.held.length : Int))),(18,zO (.int .i64 (s.1 : Int)))],[(50,some (qt 51 5 L)),(51,some (zV (Zw L 5 0))),(52,some (zV (Zw L 5 1))),(53,some (zV (Zw L 5 2))),(54,some (zV (Zw L 5 3))),(55,some (zV (Zw L 5 4))),(56,some (zV (Zw L 5 5))),(57,some (zV (Zw L 5 6))),(58,some (zV (Zw L 5 7))),(59,some (zV (x.held.take s.1))),(60,some ⟨78,1,3,true,λ_=>ZF.cell x⟩)],61⟩ : Hd)) (λs=>x.held.length - s.1) (λ_=>rfl) ?_ ⟨0,Nat.zero_le _⟩ [(59,none),(60,some 62)] ⟨rfl,⟨zE (zD rfl rfl),zE (zm (zc L)),zA rfl,zA rfl,zH rfl,zE (ZP rfl),zE (qO _).le,zA rfl,zA rfl,trivial⟩,⟨⟨rfl,qh (qF rfl rfl rfl rfl rfl rfl rfl rfl)⟩,⟨rfl,zB⟩,⟨rfl,zB⟩,⟨rfl,zB⟩,⟨rfl,zB⟩,⟨rfl,zB⟩,⟨rfl,zB⟩,⟨rfl,zB⟩,⟨rfl,zB⟩,⟨rfl,rfl,rfl,Nat.le_of_ble_eq_true rfl⟩,⟨rfl,zI λj hj=>(ZF.sh _ j hj).le⟩,trivial⟩⟩;rintro ⟨k,hkx⟩;dsimp only at hkx ⊢;unfold qY;by_cases hkl : k < x.held.length
     . have w5 : IntKind.i64.wrap ((k : Int) + 1) = ((k + 1 : Nat) : Int):=(IntWalk.i64_in _ (by have:=hk.n;omega)).trans (by omega);obtain ⟨h,eh⟩ : ∃ h,x.held.getD k default = h:=⟨_,rfl⟩;have eck : zo zn x.held k = zn.cell h:=congrArg zn.cell eh;have zk : (k : Int).toNat = k:=rfl;have hd:=hk.d _ (QX hkl);rw [eh] at hd;have hkn:=hk.n;repeat' (first | (simp only [zk,eck]) | (apply And.intro<;>intro hc<;>(first | exact Bool.noConfusion hc | (exfalso;first | exact absurd rfl hc | omega) | (simp only [zg] at hc<;>first | exact absurd rfl hc | (exfalso;first | exact absurd rfl hc | omega) | skip) | skip)) | (refine And.intro ze ?_) | (apply And.intro) | (intro s hs;skip) | (refine Exists.intro _ (And.intro ⟨rfl,rfl,rfl⟩ ?_)))
       . rw [List.length_take];omega
       . show k + 1 <= 9223372036854775807;omega
       conv=>whnf
       refine ⟨⟨k + 1,hkl⟩,[(59,some 74)],by dsimp only;omega,rfl,⟨zE (zD rfl rfl),zE (zm (zc L)),zA rfl,zA rfl,zH rfl,zE (zD rfl rfl),zE (qO _).le,zA rfl,zA w5,trivial⟩,⟨⟨rfl,qh (qF rfl rfl rfl rfl rfl rfl rfl rfl)⟩,⟨rfl,zB⟩,⟨rfl,zB⟩,⟨rfl,zB⟩,⟨rfl,zB⟩,⟨rfl,zB⟩,⟨rfl,zB⟩,⟨rfl,zB⟩,⟨rfl,zB⟩,⟨rfl,zAj (QS (Z:=x.held.take k) (x:=h) (by rw [List.length_take];omega) (zAy ⟨zC rfl,zy rfl rfl rfl rfl (Nat.le_of_eq (Nat.zero_add _)) (λq hq j hj=>?_),zC rfl,zC rfl,zC rfl,zC rfl,zC rfl,zC rfl,zC rfl,zS rfl,zC rfl⟩)) (by rw [zAR hkl,eh])⟩,⟨rfl,zI λj hj=>(ZF.sh _ j hj).le⟩,trivial⟩⟩;show ZX _ (qC eB h.data (0 + q) j) (qC eB h.data q j);exact zC (congrArg (λz=>h.data.getD z default) (Nat.zero_add q))
     . obtain rfl : k = x.held.length:=by omega
       repeat' (first | (apply And.intro<;>intro hc<;>(first | exact Bool.noConfusion hc | (exfalso;first | exact absurd rfl hc | omega) | (simp only [zg] at hc<;>first | exact absurd rfl hc | (exfalso;first | exact absurd rfl hc | omega) | skip) | skip)) | (refine And.intro ze ?_) | (apply And.intro) | (intro s hs;skip) | (refine Exists.intro _ (And.intro ⟨rfl,rfl,rfl⟩ ?_)))
       conv=>whnf
       refine ⟨⟨6,hil⟩,[(50,some 68),(56,some 59)],by dsimp only;omega,rfl,⟨zE (zD rfl rfl),zE (zm (zc L)),zA rfl,zA w3,trivial⟩,⟨⟨rfl,⟨rfl,rfl,rfl,rfl,λp hp j hj=>?_⟩⟩,⟨rfl,zB⟩,⟨rfl,zB⟩,⟨rfl,zB⟩,⟨rfl,zB⟩,⟨rfl,zB⟩,⟨rfl,zF ((List.take_length).trans (congrArg Sed.held ex).symm)⟩,⟨rfl,zB⟩,⟨rfl,zB⟩,trivial⟩⟩;have hp' : p < 6:=hp;have hj' : j < 3:=hj;show ZX _ (Zi (Nat.blt p 5) (ZT 51 L p j) _) (ZT 51 L p j);by_cases hpi : p < 5
       . refine ZU (Nat.ble_eq_true_of_le hpi) ?_;rcases (show p = 0 \/ p = 1 \/ p = 2 \/ p = 3 \/ p = 4 by omega) with rfl | rfl | rfl | rfl | rfl<;>exact qo hj' rfl
       . obtain rfl : p = 5:=by omega
         refine Zd (Zn _) ?_;rcases j with _ | _ | _ | j
         . exact zC (congrArg Sed.id ex).symm
         . exact zC (congrArg Sed.mn ex).symm
         . exact zD rfl (congrArg (λz : Sed=>z.held.length) ex).symm
         . omega
   . obtain ⟨x,ex⟩ : ∃ x,L.getD 6 default = x:=⟨_,rfl⟩;have ec : zo ZF L 6 = ZF.cell x:=congrArg ZF.cell ex;have zi : ((6 : Nat) : Int).toNat = 6:=rfl;rw [ex] at hk;repeat' (first | (simp only [zi,ec]) | (apply And.intro<;>intro hc<;>(first | exact Bool.noConfusion hc | (exfalso;first | exact absurd rfl hc | omega) | (simp only [zg] at hc<;>first | exact absurd rfl hc | (exfalso;first | exact absurd rfl hc | omega) | skip) | skip)) | (refine And.intro ze ?_) | (apply And.intro) | (intro s hs;skip) | (refine Exists.intro _ (And.intro ⟨rfl,rfl,rfl⟩ ?_)))
     conv=>whnf
     refine zQ (zT qD) (λs : {k : Nat // k <= x.held.length}=>(⟨[(3,zO (.os 50 0 6)),(9,zO (qY ZF L)),(10,zO (.int .i64 (L.length : Int))),(11,zO (.int .i64 ((6 : Nat) : Int))),(5,zO (.ptr 60 0 0 false)),(6,zO (.os 59 0 s.1)),(16,zO (slN zn x.held)),(17,zO (.int .i64 (x.held.length : Int))),(18,zO (.int .i64 (s.1 : Int)))],[(50,some (qt 51 6 L)),(51,some (zV (Zw L 6 0))),(52,some (zV (Zw L 6 1))),(53,some (zV (Zw L 6 2))),(54,some (zV (Zw L 6 3))),(55,some (zV (Zw L 6 4))),(56,some (zV (Zw L 6 5))),(57,some (zV (Zw L 6 6))),(58,some (zV (Zw L 6 7))),(59,some (zV (x.held.take s.1))),(60,some ⟨78,1,3,true,λ_=>ZF.cell x⟩)],61⟩ : Hd)) (λs=>x.held.length - s.1) (λ_=>rfl) ?_ ⟨0,Nat.zero_le _⟩ [(59,none),(60,some 62)] ⟨rfl,⟨zE (zD rfl rfl),zE (zm (zc L)),zA rfl,zA rfl,zH rfl,zE (ZP rfl),zE (qO _).le,zA rfl,zA rfl,trivial⟩,⟨⟨rfl,qh (qF rfl rfl rfl rfl rfl rfl rfl rfl)⟩,⟨rfl,zB⟩,⟨rfl,zB⟩,⟨rfl,zB⟩,⟨rfl,zB⟩,⟨rfl,zB⟩,⟨rfl,zB⟩,⟨rfl,zB⟩,⟨rfl,zB⟩,⟨rfl,rfl,rfl,Nat.le_of_ble_eq_true rfl⟩,⟨rfl,zI λj hj=>(ZF.sh _ j hj).le⟩,trivial⟩⟩;rintro ⟨k,hkx⟩;dsimp only at hkx ⊢;unfold qY;by_cases hkl : k < x.held.length
     . have w5 : IntKind.i64.wrap ((k : Int) + 1) = ((k + 1 : Nat) : Int):=(IntWalk.i64_in _ (by have:=hk.n;omega)).trans (by omega);obtain ⟨h,eh⟩ : ∃ h,x.held.getD k default = h:=⟨_,rfl⟩;have eck : zo zn x.held k = zn.cell h:=congrArg zn.cell eh;have zk : (k : Int).toNat = k:=rfl;have hd:=hk.d _ (QX hkl);rw [eh] at hd;have hkn:=hk.n;repeat' (first | (simp only [zk,eck]) | (apply And.intro<;>intro hc<;>(first | exact Bool.noConfusion hc | (exfalso;first | exact absurd rfl hc | omega) | (simp only [zg] at hc<;>first | exact absurd rfl hc | (exfalso;first | exact absurd rfl hc | omega) | skip) | skip)) | (refine And.intro ze ?_) | (apply And.intro) | (intro s hs;skip) | (refine Exists.intro _ (And.intro ⟨rfl,rfl,rfl⟩ ?_)))
       . rw [List.length_take];omega
       . show k + 1 <= 9223372036854775807;omega
       conv=>whnf
       refine ⟨⟨k + 1,hkl⟩,[(59,some 74)],by dsimp only;omega,rfl,⟨zE (zD rfl rfl),zE (zm (zc L)),zA rfl,zA rfl,zH rfl,zE (zD rfl rfl),zE (qO _).le,zA rfl,zA w5,trivial⟩,⟨⟨rfl,qh (qF rfl rfl rfl rfl rfl rfl rfl rfl)⟩,⟨rfl,zB⟩,⟨rfl,zB⟩,⟨rfl,zB⟩,⟨rfl,zB⟩,⟨rfl,zB⟩,⟨rfl,zB⟩,⟨rfl,zB⟩,⟨rfl,zB⟩,⟨rfl,zAj (QS (Z:=x.held.take k) (x:=h) (by rw [List.length_take];omega) (zAy ⟨zC rfl,zy rfl rfl rfl rfl (Nat.le_of_eq (Nat.zero_add _)) (λq hq j hj=>?_),zC rfl,zC rfl,zC rfl,zC rfl,zC rfl,zC rfl,zC rfl,zS rfl,zC rfl⟩)) (by rw [zAR hkl,eh])⟩,⟨rfl,zI λj hj=>(ZF.sh _ j hj).le⟩,trivial⟩⟩;show ZX _ (qC eB h.data (0 + q) j) (qC eB h.data q j);exact zC (congrArg (λz=>h.data.getD z default) (Nat.zero_add q))
     . obtain rfl : k = x.held.length:=by omega
       repeat' (first | (apply And.intro<;>intro hc<;>(first | exact Bool.noConfusion hc | (exfalso;first | exact absurd rfl hc | omega) | (simp only [zg] at hc<;>first | exact absurd rfl hc | (exfalso;first | exact absurd rfl hc | omega) | skip) | skip)) | (refine And.intro ze ?_) | (apply And.intro) | (intro s hs;skip) | (refine Exists.intro _ (And.intro ⟨rfl,rfl,rfl⟩ ?_)))
       conv=>whnf
       refine ⟨⟨7,hil⟩,[(50,some 68),(57,some 59)],by dsimp only;omega,rfl,⟨zE (zD rfl rfl),zE (zm (zc L)),zA rfl,zA w3,trivial⟩,⟨⟨rfl,⟨rfl,rfl,rfl,rfl,λp hp j hj=>?_⟩⟩,⟨rfl,zB⟩,⟨rfl,zB⟩,⟨rfl,zB⟩,⟨rfl,zB⟩,⟨rfl,zB⟩,⟨rfl,zB⟩,⟨rfl,zF ((List.take_length).trans (congrArg Sed.held ex).symm)⟩,⟨rfl,zB⟩,trivial⟩⟩;have hp' : p < 7:=hp;have hj' : j < 3:=hj;show ZX _ (Zi (Nat.blt p 6) (ZT 51 L p j) _) (ZT 51 L p j);by_cases hpi : p < 6
       . refine ZU (Nat.ble_eq_true_of_le hpi) ?_;rcases (show p = 0 \/ p = 1 \/ p = 2 \/ p = 3 \/ p = 4 \/ p = 5 by omega) with rfl | rfl | rfl | rfl | rfl | rfl<;>exact qo hj' rfl
       . obtain rfl : p = 6:=by omega
         refine Zd (Zn _) ?_;rcases j with _ | _ | _ | j
         . exact zC (congrArg Sed.id ex).symm
         . exact zC (congrArg Sed.mn ex).symm
         . exact zD rfl (congrArg (λz : Sed=>z.held.length) ex).symm
         . omega
   . obtain ⟨x,ex⟩ : ∃ x,L.getD 7 default = x:=⟨_,rfl⟩;have ec : zo ZF L 7 = ZF.cell x:=congrArg ZF.cell ex;have zi : ((7 : Nat) : Int).toNat = 7:=rfl;rw [ex] at hk;repeat' (first | (simp only [zi,ec]) | (apply And.intro<;>intro hc<;>(first | exact Bool.noConfusion hc | (exfalso;first | exact absurd rfl hc | omega) | (simp only [zg] at hc<;>first | exact absurd rfl hc | (exfalso;first | exact absurd rfl hc | omega) | skip) | skip)) | (refine And.intro ze ?_) | (apply And.intro) | (intro s hs;skip) | (refine Exists.intro _ (And.intro ⟨rfl,rfl,rfl⟩ ?_)))
     conv=>whnf
     refine zQ (zT qD) (λs : {k : Nat // k <= x.held.length}=>(⟨[(3,zO (.os 50 0 7)),(9,zO (qY ZF L)),(10,zO (.int .i64 (L.length : Int))),(11,zO (.int .i64 ((7 : Nat) : Int))),(5,zO (.ptr 60 0 0 false)),(6,zO (.os 59 0 s.1)),(16,zO (slN zn x.held)),(17,zO (.int .i64 (x.held.length : Int))),(18,zO (.int .i64 (s.1 : Int)))],[(50,some (qt 51 7 L)),(51,some (zV (Zw L 7 0))),(52,some (zV (Zw L 7 1))),(53,some (zV (Zw L 7 2))),(54,some (zV (Zw L 7 3))),(55,some (zV (Zw L 7 4))),(56,some (zV (Zw L 7 5))),(57,some (zV (Zw L 7 6))),(58,some (zV (Zw L 7 7))),(59,some (zV (x.held.take s.1))),(60,some ⟨78,1,3,true,λ_=>ZF.cell x⟩)],61⟩ : Hd)) (λs=>x.held.length - s.1) (λ_=>rfl) ?_ ⟨0,Nat.zero_le _⟩ [(59,none),(60,some 62)] ⟨rfl,⟨zE (zD rfl rfl),zE (zm (zc L)),zA rfl,zA rfl,zH rfl,zE (ZP rfl),zE (qO _).le,zA rfl,zA rfl,trivial⟩,⟨⟨rfl,qh (qF rfl rfl rfl rfl rfl rfl rfl rfl)⟩,⟨rfl,zB⟩,⟨rfl,zB⟩,⟨rfl,zB⟩,⟨rfl,zB⟩,⟨rfl,zB⟩,⟨rfl,zB⟩,⟨rfl,zB⟩,⟨rfl,zB⟩,⟨rfl,rfl,rfl,Nat.le_of_ble_eq_true rfl⟩,⟨rfl,zI λj hj=>(ZF.sh _ j hj).le⟩,trivial⟩⟩;rintro ⟨k,hkx⟩;dsimp only at hkx ⊢;unfold qY;by_cases hkl : k < x.held.length
     . have w5 : IntKind.i64.wrap ((k : Int) + 1) = ((k + 1 : Nat) : Int):=(IntWalk.i64_in _ (by have:=hk.n;omega)).trans (by omega);obtain ⟨h,eh⟩ : ∃ h,x.held.getD k default = h:=⟨_,rfl⟩;have eck : zo zn x.held k = zn.cell h:=congrArg zn.cell eh;have zk : (k : Int).toNat = k:=rfl;have hd:=hk.d _ (QX hkl);rw [eh] at hd;have hkn:=hk.n;repeat' (first | (simp only [zk,eck]) | (apply And.intro<;>intro hc<;>(first | exact Bool.noConfusion hc | (exfalso;first | exact absurd rfl hc | omega) | (simp only [zg] at hc<;>first | exact absurd rfl hc | (exfalso;first | exact absurd rfl hc | omega) | skip) | skip)) | (refine And.intro ze ?_) | (apply And.intro) | (intro s hs;skip) | (refine Exists.intro _ (And.intro ⟨rfl,rfl,rfl⟩ ?_)))
       . rw [List.length_take];omega
       . show k + 1 <= 9223372036854775807;omega
       conv=>whnf
       refine ⟨⟨k + 1,hkl⟩,[(59,some 74)],by dsimp only;omega,rfl,⟨zE (zD rfl rfl),zE (zm (zc L)),zA rfl,zA rfl,zH rfl,zE (zD rfl rfl),zE (qO _).le,zA rfl,zA w5,trivial⟩,⟨⟨rfl,qh (qF rfl rfl rfl rfl rfl rfl rfl rfl)⟩,⟨rfl,zB⟩,⟨rfl,zB⟩,⟨rfl,zB⟩,⟨rfl,zB⟩,⟨rfl,zB⟩,⟨rfl,zB⟩,⟨rfl,zB⟩,⟨rfl,zB⟩,⟨rfl,zAj (QS (Z:=x.held.take k) (x:=h) (by rw [List.length_take];omega) (zAy ⟨zC rfl,zy rfl rfl rfl rfl (Nat.le_of_eq (Nat.zero_add _)) (λq hq j hj=>?_),zC rfl,zC rfl,zC rfl,zC rfl,zC rfl,zC rfl,zC rfl,zS rfl,zC rfl⟩)) (by rw [zAR hkl,eh])⟩,⟨rfl,zI λj hj=>(ZF.sh _ j hj).le⟩,trivial⟩⟩;show ZX _ (qC eB h.data (0 + q) j) (qC eB h.data q j);exact zC (congrArg (λz=>h.data.getD z default) (Nat.zero_add q))
     . obtain rfl : k = x.held.length:=by omega
       repeat' (first | (apply And.intro<;>intro hc<;>(first | exact Bool.noConfusion hc | (exfalso;first | exact absurd rfl hc | omega) | (simp only [zg] at hc<;>first | exact absurd rfl hc | (exfalso;first | exact absurd rfl hc | omega) | skip) | skip)) | (refine And.intro ze ?_) | (apply And.intro) | (intro s hs;skip) | (refine Exists.intro _ (And.intro ⟨rfl,rfl,rfl⟩ ?_)))
       conv=>whnf
       refine ⟨⟨8,hil⟩,[(50,some 68),(58,some 59)],by dsimp only;omega,rfl,⟨zE (zD rfl rfl),zE (zm (zc L)),zA rfl,zA w3,trivial⟩,⟨⟨rfl,⟨rfl,rfl,rfl,rfl,λp hp j hj=>?_⟩⟩,⟨rfl,zB⟩,⟨rfl,zB⟩,⟨rfl,zB⟩,⟨rfl,zB⟩,⟨rfl,zB⟩,⟨rfl,zB⟩,⟨rfl,zB⟩,⟨rfl,zF ((List.take_length).trans (congrArg Sed.held ex).symm)⟩,trivial⟩⟩;have hp' : p < 8:=hp;have hj' : j < 3:=hj;show ZX _ (Zi (Nat.blt p 7) (ZT 51 L p j) _) (ZT 51 L p j);by_cases hpi : p < 7
       . refine ZU (Nat.ble_eq_true_of_le hpi) ?_;rcases (show p = 0 \/ p = 1 \/ p = 2 \/ p = 3 \/ p = 4 \/ p = 5 \/ p = 6 by omega) with rfl | rfl | rfl | rfl | rfl | rfl | rfl<;>exact qo hj' rfl
       . obtain rfl : p = 7:=by omega
         refine Zd (Zn _) ?_;rcases j with _ | _ | _ | j
         . exact zC (congrArg Sed.id ex).symm
         . exact zC (congrArg Sed.mn ex).symm
         . exact zD rfl (congrArg (λz : Sed=>z.held.length) ex).symm
         . omega
 . have hi2 : i = L.length:=by omega
   subst hi2;simp only [hldP_n];repeat' (first | (apply And.intro<;>intro hc<;>(first | exact Bool.noConfusion hc | (exfalso;first | exact absurd rfl hc | omega) | (simp only [zg] at hc<;>first | exact absurd rfl hc | (exfalso;first | exact absurd rfl hc | omega) | skip) | skip)) | (refine And.intro ze ?_) | (apply And.intro) | (intro s hs;skip) | (refine Exists.intro _ (And.intro ⟨rfl,rfl,rfl⟩ ?_)))
   conv=>whnf
   refine ⟨⟨[(0,some 50),(1,some 51),(2,some 52),(3,some 53),(4,some 54),(5,some 55),(6,some 56),(7,some 57),(8,some 58)],rfl,zE (zD rfl rfl),⟨rfl,⟨rfl,rfl,rfl,rfl,λp hp j hj=>?_⟩⟩,⟨rfl,zB⟩,⟨rfl,zB⟩,⟨rfl,zB⟩,⟨rfl,zB⟩,⟨rfl,zB⟩,⟨rfl,zB⟩,⟨rfl,zB⟩,⟨rfl,zB⟩,trivial⟩⟩
   . have hp' : p < L.length:=hp;have hj' : j < 3:=hj;rcases (show p = 0 \/ p = 1 \/ p = 2 \/ p = 3 \/ p = 4 \/ p = 5 \/ p = 6 \/ p = 7 by omega) with rfl | rfl | rfl | rfl | rfl | rfl | rfl | rfl<;>exact qo hj' rfl
abbrev zE7 : Zm:=zCQ (AC.cons (Yl ZF qA) AC.nil) (λa=>Cl8 a.1) (λa=>a.1) 9 (λnm L=>zO (.os nm 0 L.length)) (λnm L=>Ents8 (nm + 1) L)
theorem zCq : EntOk Try.prog 43 zE7:=zAx ⟨_,Try.func43,rfl,by kernel_rfl⟩ (λ_ _=>rfl) (λnm s=>sftF_c (by have h : Sft 9 nm (.os 0 0 s.length) (.os (nm + 0) 0 s.length):=zAm (by decide);exact h)) (λnm a ha k e e' h h'=>by
 iterate 9 (rcases k with _ | k;· (injection h with h;injection h' with h';subst h h';first | exact ⟨rfl,rfl,rfl,rfl,λi hi j hj=>zA0 (zn.sh _ j hj)⟩ | exact ⟨rfl,rfl,rfl,rfl,λi hi j hj=>zFn hj (Nat.lt_of_lt_of_le hi ha.n)⟩))
 cases h) λa h=>rcopy_ok a.1 h
def sdB (s : Sed) (j : Nat) : CV:=bif Nat.beq j 0 then .int .u64 s.id else bif Nat.beq j 1 then .int .i64 s.mn else .sl false s.held.length 11 (zo zn s.held)
structure OkSB (f : Nat -> CV) (n : Nat) (g : Nat -> Nat -> CV) : Prop where
 a : isK .u64 (f 0) = true
 b : isK .i64 (f 1) = true
 c : ∀ i,i < n -> zn.ok (g i)
def cSB : Codec Sed where
 enc s:=.e (.agg 3 (sdB s))
 dec H x:=(ga 3 x).bind λf=>match zAd H 11 (zO (f 2)) with
  | some ⟨n,g,p,rd⟩=>some (⟨YY (f 0),YY (f 1),Yt zn n g⟩,zBP p (some (OkSB f n g)),rd)
  | none=>none
 sound H H' x a p rd h hp hh:=by
  obtain ⟨f,h1,h⟩:=bind_some h;split at h
  . rename_i n g q rd' hs;injection h with h;injection h with h h';injection h' with h' h'';subst h h' h'';obtain ⟨p1,p2⟩:=YT.1 hp;rw [ga_eq h1];rintro cx r w v st ⟨cs,rfl,c1,c2⟩;refine ⟨cs,rfl,c1,λi u hu=>?_⟩;have hi : i < 3:=by rw [<- c1];exact (Array.getElem?_eq_some_iff.1 hu).1
    have h2:=c2 i u hu;rcases i with _ | _ | _ | i
    . rw [Qd p2.a] at h2;exact h2
    . rw [Qd p2.b] at h2;exact h2
    . exact bo_slN (E:=zn) zA1 (Yw hs hh) p1 p2.c cx r w u st h2
    . omega
  . cases h
def maxI (a b : Int) : Int:=if a < b then b else a
def zES (n : Int) (h : Hel) : Bool:=decide (n <= h.num)
def ql (s : Sed) (n : Int) : Sed:=⟨s.id,maxI s.mn n,s.held.filter (zES (maxI s.mn n))⟩
def sdO (nm : Nat) (s : Sed) (j : Nat) : CV:=bif Nat.beq j 0 then .int .u64 s.id else bif Nat.beq j 1 then .int .i64 s.mn else .os nm 0 s.held.length
theorem filter_at {L : List Hel} {P : Hel -> Bool} {k : Nat} (h : k < L.length) : (L.take (k + 1)).filter P = (L.take k).filter P ++ (if P (L.getD k default) = true then [L.getD k default] else []):=by
 rw [zAR h,List.filter_append,List.filter_cons];split
 . rfl
 . rfl
theorem rclose_ok (x : Sed) (n : Int) (hx : KpI x.held) : zAl Try.prog 66 [cSB.enc x,(cI .i64).enc n] (.e (.agg 3 (sdO 0 (ql x n)))) [zV (ql x n).held]:=by
 have hn:=hx.n;obtain ⟨m,em⟩ : ∃ m,maxI x.mn n = m:=⟨_,rfl⟩;refine zA9 (wd:=1) (by decide) zM (zb qD) zN Try.func66 rfl _ (by show 2 <= _;decide) ?_;repeat' (first | (apply And.intro<;>intro hc<;>(first | exact Bool.noConfusion hc | (exfalso;first | exact absurd rfl hc | omega) | (simp only [zg] at hc<;>first | exact absurd rfl hc | (exfalso;first | exact absurd rfl hc | omega) | skip) | skip)) | (refine And.intro ze ?_) | (apply And.intro) | (intro s hs;skip) | (refine Exists.intro _ (And.intro ⟨rfl,rfl,rfl⟩ ?_)))
 conv=>whnf
 refine zQ (zT qD) (λs : {p : Nat × List Hel // p.1 <= x.held.length /\ p.2 = (x.held.take p.1).filter (zES m)}=>(⟨[(2,zO (.ptr 0 0 0 false)),(4,zO (.ptr 1 0 0 false)),(5,zO (.os 2 0 s.1.2.length)),(14,zO (.sl false x.held.length 11 (zo zn x.held))),(15,zO (.int .i64 (x.held.length : Int))),(16,zO (.int .i64 (s.1.1 : Int)))],[(0,some ⟨78,1,3,true,λ_=>sdB ⟨x.id,m,x.held⟩⟩),(1,some ⟨78,1,3,true,λ_=>nth [.int .u64 0,.int .i64 0,.nils]⟩),(2,some (zV s.1.2))],3⟩ : Hd)) (λs=>x.held.length - s.1.1) (λ_=>rfl) ?_ ⟨(0,[]),Nat.zero_le _,rfl⟩ [(2,none)] ⟨rfl,⟨zH rfl,zH rfl,zE (ZP rfl),zE (Yo (λh=>h) rfl rfl λi hi j hj=>(zn.sh _ j hj).le),zA rfl,zA rfl,trivial⟩,⟨⟨rfl,zI (qm ⟨zC rfl,zC em,Yo (λh=>h) rfl rfl λi hi j hj=>(zn.sh _ j hj).le⟩)⟩,⟨rfl,zI (qm ⟨zC rfl,zC rfl,zW⟩)⟩,⟨rfl,rfl,rfl,Nat.le_of_ble_eq_true rfl⟩,trivial⟩⟩;rintro ⟨⟨k,H⟩,hk,hH⟩;dsimp only at hk hH ⊢;by_cases hkl : k < x.held.length
 . have w5 : IntKind.i64.wrap ((k : Int) + 1) = ((k + 1 : Nat) : Int):=(IntWalk.i64_in _ (by omega)).trans (by omega);obtain ⟨h,eh⟩ : ∃ h,x.held.getD k default = h:=⟨_,rfl⟩;have eck : zo zn x.held k = zn.cell h:=congrArg zn.cell eh;have zk : (k : Int).toNat = k:=rfl;have hf:=filter_at (P:=zES m) hkl;rw [<- hH,eh] at hf;have hHl : H.length <= k:=by rw [hH];exact Nat.le_trans (List.length_filter_le _ _) (by rw [List.length_take];omega)
   repeat' (first | (simp only [zk,eck]) | (apply And.intro<;>intro hc<;>(first | exact Bool.noConfusion hc | (exfalso;first | exact absurd rfl hc | omega) | (simp only [zg] at hc<;>first | exact absurd rfl hc | (exfalso;first | exact absurd rfl hc | omega) | skip) | skip)) | (refine And.intro ze ?_) | (apply And.intro) | (intro s hs;skip) | (refine Exists.intro _ (And.intro ⟨rfl,rfl,rfl⟩ ?_)))
   . rw [if_pos (show zES m h = true from decide_eq_true ‹_›)] at hf;conv=>whnf
     exact ⟨⟨(k + 1,H ++ [h]),hkl,hf.symm⟩,[(2,some 16)],by dsimp only;omega,rfl,⟨zH rfl,zH rfl,zE (zD rfl (by show _ = (H ++ [h]).length;rw [List.length_append];rfl)),zE (Yo (λh=>h) rfl rfl λi hi j hj=>(zn.sh _ j hj).le),zA rfl,zA w5,trivial⟩,⟨⟨rfl,zI (qm ⟨zC rfl,zC rfl,Yo (λh=>h) rfl rfl λi hi j hj=>(zn.sh _ j hj).le⟩)⟩,⟨rfl,zI (qm ⟨zC rfl,zC rfl,zW⟩)⟩,⟨rfl,QS rfl (zAy ⟨zC rfl,(zn.sh h 1 (by decide)).le,zC rfl,zC rfl,zC rfl,zC rfl,zC rfl,zC rfl,zC rfl,zS rfl,zC rfl⟩)⟩,trivial⟩⟩
   . rw [if_neg (show ¬ zES m h = true from λg=>absurd (of_decide_eq_true g) ‹_›),List.append_nil] at hf;conv=>whnf
     exact ⟨⟨(k + 1,H),hkl,hf.symm⟩,[],by dsimp only;omega,rfl,⟨zH rfl,zH rfl,zE (zD rfl rfl),zE (Yo (λh=>h) rfl rfl λi hi j hj=>(zn.sh _ j hj).le),zA rfl,zA w5,trivial⟩,⟨⟨rfl,zI (qm ⟨zC rfl,zC rfl,Yo (λh=>h) rfl rfl λi hi j hj=>(zn.sh _ j hj).le⟩)⟩,⟨rfl,zI (qm ⟨zC rfl,zC rfl,zW⟩)⟩,⟨rfl,zB⟩,trivial⟩⟩
 . obtain rfl : k = x.held.length:=by omega
   rw [List.take_length] at hH;repeat' (first | (apply And.intro<;>intro hc<;>(first | exact Bool.noConfusion hc | (exfalso;first | exact absurd rfl hc | omega) | (simp only [zg] at hc<;>first | exact absurd rfl hc | (exfalso;first | exact absurd rfl hc | omega) | skip) | skip)) | (refine And.intro ze ?_) | (apply And.intro) | (intro s hs;skip) | (refine Exists.intro _ (And.intro ⟨rfl,rfl,rfl⟩ ?_)))
   conv=>whnf
   have eH : H = (ql x n).held:=by unfold ql;rw [em];exact hH
   exact ⟨⟨[(0,some 2)],rfl,QL (Zk ⟨⟨⟨trivial,zC rfl⟩,zC em.symm⟩,zD rfl (by rw [eH])⟩),⟨⟨rfl,zF eH⟩,trivial⟩⟩⟩
theorem sftF_agg {m d : Nat} {k : Nat} {f g : Nat -> CV} (h : ∀ i,i < k -> Sft m d (f i) (g i)) : SftF m d (.e (.agg k f)) (.e (.agg k g)):=by
 rintro r r2 X W X2 W2 w v hr hX hW ⟨cs,rfl,c1,c2⟩;refine ⟨cs,rfl,c1,λi u hu=>?_⟩;have hi : i < k:=by rw [<- c1];exact (Array.getElem?_eq_some_iff.1 hu).1
 exact h i hi r r2 X W X2 W2 w u hr hX hW (c2 i u hu)
theorem sft_sdO {nm : Nat} {s : Sed} : ∀ j,j < 3 -> Sft 1 nm (sdO 0 s j) (sdO nm s j):=qm ⟨zBl,zBl,(by have h : Sft 1 nm (.os 0 0 s.held.length) (.os (nm + 0) 0 s.held.length):=zAm (by decide);exact h)⟩
abbrev zE6 : Zm:=zCQ (AC.cons cSB (AC.cons (cI .i64) AC.nil)) (λa=>KpI a.1.held) (λa=>ql a.1 a.2.1) 1 (λnm s=>.e (.agg 3 (sdO nm s))) (λ_ s=>[zV s.held])
theorem zDu : EntOk Try.prog 66 zE6:=zAx ⟨_,Try.func66,rfl,by kernel_rfl⟩ (λ_ _=>rfl) (λnm s=>sftF_agg sft_sdO) (λnm a ha k e e' h h'=>by
 rcases k with _ | k
 . injection h with h;injection h' with h';subst h h';exact ⟨rfl,rfl,rfl,rfl,λi hi j hj=>zA0 (zn.sh _ j hj)⟩
 . cases h) λa h=>rclose_ok a.1 a.2.1 h
def QH (now : Int) : List Hel -> Int -> Int
 | [],l=>l
 | h :: t,l=>QH now t (if h.til <= now then h.num else l)
theorem lastR_F {now : Int} : ∀ {L : List Hel} {a l : Int},(QK now L l = l /\ QH now L a = a) \/ QK now L l = QH now L a + 1:=by
 intro L;induction L with
 | nil=>intro a l;exact .inl ⟨rfl,rfl⟩
 | cons h t ih=>
   intro a l;show (QK now t (if h.til <= now then h.num + 1 else l) = l /\ QH now t (if h.til <= now then h.num else a) = a) \/ QK now t (if h.til <= now then h.num + 1 else l) = QH now t (if h.til <= now then h.num else a) + 1;by_cases hh : h.til <= now
   . rw [if_pos hh,if_pos hh];rcases ih (a:=h.num) (l:=h.num + 1) with ⟨e1,e2⟩ | e
     . exact .inr (by rw [e1,e2])
     . exact .inr e
   . rw [if_neg hh,if_neg hh];exact ih
theorem qw {s : Sed} {n : Int} (h : SdOk s) : ql s n = za s n:=by
 unfold ql za maxI;by_cases hn : n <= s.mn
 . rw [if_pos hn,if_neg (by omega)];have e : s.held.filter (zES s.mn) = s.held:=by
    apply List.filter_eq_self.2;intro x hx;have:=YD h.h x hx;exact decide_eq_true (by omega)
   rw [e]
 . rw [if_neg hn,if_pos (by omega)];rfl
theorem YX {s : Sed} {now : Int} (h : SdOk s) : ql s (QH now s.held (-1) + 1) = Zo now s:=by
 rw [qw h];unfold Zo;rcases lastR_F (now:=now) (L:=s.held) (a:=-1) (l:=s.mn) with ⟨e1,e2⟩ | e
 . rw [e1,e2];unfold za;rw [if_pos (by have:=h.mn;omega),if_pos (Int.le_refl _)]
 . rw [e]
theorem zAC {now : Int} : ∀ {L : List Hel} {a : Int},(∀ h ∈ L,0 <= h.num /\ h.num < 1073741824) -> (-1 <= a /\ a < 1073741824) -> -1 <= QH now L a /\ QH now L a < 1073741824:=by
 intro L;induction L with
 | nil=>intro _ _ h;exact h
 | cons b t ih=>
   intro a hb ha;refine ih (λh hh=>hb h (List.mem_cons_of_mem _ hh)) ?_;have:=hb b (List.mem_cons_self ..);split<;>omega
theorem zBX {s : Sed} (h : SdOk s) : ∀ x ∈ s.held,0 <= x.num /\ x.num < 1073741824:=λx hx=>by
 have:=YD h.h x hx;have:=h.mn;omega
def LRs : CsL:=(40,some zDD) :: (63,some zC3) :: (43,some zE7) :: (66,some zE6) :: LTk
theorem qr : qU Try.prog LRs:=⟨zu ⟨_,Try.func40,rfl,by kernel_rfl⟩ λa h=>zBZ a.1 h,zu ⟨_,Try.func63,rfl,by kernel_rfl⟩ λa _=>TkR.tkTime_ok a.1,zCq,zDu,zCn⟩
def SR1 (L : List Sed) (now draw : Int) (s : MapI (Zo now) L) : Hd:=⟨[(1,zO (.int .i64 now)),(2,zO (.int .u32 draw)),(9,zO (.os 1 0 s.M.length)),(10,zO .nils),(11,zO (.int .u32 0)),(31,zO (.int .i64 (L.length : Int))),(32,zO (.int .i64 (s.i : Int)))],(1,some (qt 2 s.M.length s.M)) :: zBs 2 s.M,10⟩
def SR8 (now draw : Int) (M : List Sed) : Hd:=⟨[(1,zO (.int .i64 now)),(2,zO (.int .u32 draw)),(9,zO (.os 1 0 M.length)),(10,zO .nils),(11,zO (.int .u32 0))],(1,some (qt 2 M.length M)) :: zBs 2 M,10⟩
def SR2 (M0 : List Sed) (now draw : Int) (s : StI M0 now draw) : Hd:=⟨[(1,zO (.int .i64 now)),(2,zO (.int .u32 draw)),(9,zO (.os 1 0 s.M.length)),(10,zO (.os 10 0 s.Z.length)),(11,zO (.int .u32 (s.b : Int))),(64,zO (.int .i64 (M0.length : Int))),(65,zO (.int .i64 (s.i : Int)))],(1,some (qt 2 s.M.length s.M)) :: (zBs 2 s.M ++ [(10,some (ZL Zr 32 s.Z))]),11⟩
theorem qp {s : Sed} {x y : Sed} {n : Int} {z : Sed} (hs : s = ql x n) (hx : x = y) (hz : ql y n = z) : z = s:=by rw [hs,hx,hz]
theorem YB {s : Sed} {i m : Int} {H : List Hel} (hi : i = s.id) (hm : m = s.mn) (hH : H = s.held) : (⟨i,m,H⟩ : Sed) = s:=by subst hi hm hH;rfl
theorem zAD {t : Trk} {now d : Int} {T : Trk × Bool × Int} (hv : ZQ t = true) (ht : 0 <= now /\ now <= 1099511627776) (eT : qK t now d = T) : T.2.2 = 0 ↔ t.start <= now:=by
 subst eT;unfold qK;rw [if_pos hv];by_cases h : t.start <= now
 . rw [if_pos ⟨Zl.2 ht,h⟩];exact ⟨λ_=>h,λ_=>rfl⟩
 . rw [if_neg (λg=>h g.2)];exact ⟨λg=>absurd g (by show ¬ (2 : Int) = 0;decide),λg=>absurd g h⟩
theorem toNI (L : List Sed) : Yt neI L.length (zo ZF L) = L.map Sed.id:=by
 apply List.ext_getElem
 . simp [Yt]
 . intro i h1 h2;have hi : i < L.length:=by simpa using h2
   simp only [Yt,List.getElem_map,List.getElem_range];show (L.getD i default).id = _;rw [List.getD_eq_getElem?_getD,List.getElem?_eq_getElem hi];rfl
theorem YU {s F : Int} {id : Int} {M L : List Int} (hs : s = zBY id M 0) (h : M = L) (hF : zBY id L 0 = F) : F = s:=by rw [hs,h,hF]
end Go.Proofs.Ytfaibcgakcmhcaa.AX
