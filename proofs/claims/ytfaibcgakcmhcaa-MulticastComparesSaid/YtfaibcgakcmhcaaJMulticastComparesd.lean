/- Texts of one's own in one file: Ma4, Ma5, Mkn, Mra, Mtd, Mrb, Mqs, Ml8, Ms1, Ms2, Ms4, Ms5, Ms6, Ms3, Ms7, Mqc, Mrc, Mrd, Mre, Mri, Mrn, Mro, Mrq. -/
import Derived.Test.YtfaibcgakcmhcaaJMulticastComparesc
set_option linter.unusedVariables false
set_option linter.unusedSimpArgs false
set_option maxHeartbeats 16000000
set_option maxRecDepth 20000
namespace Go.Proofs.Ytfaibcgakcmhcaa.AX
open Go.RowKit
theorem acc2_0 (g0 : Nat) (L : List Sed) (a : Nat) (now : Int) (c : Cas) (deaf : Bool) (draw : Int) (hI : AcI L a now c draw) (R : List Sed × Bool × Int) (hR : R = (L.set a (ZX (L.getD a default) now c deaf draw).1,(ZX (L.getD a default) now c deaf draw).2,0)) (a3 : a = 0) :
 Sem Try.prog Try.f11.ntmps 0 (Zc 7 (Try.f11.body.getD Code.ret)) (SA L a now c deaf draw ()).fr (SA L a now c deaf draw ()).H (SA L a now c deaf draw ()).nx (qQ T Try.f11.results.toList λx H _=>FinN (some R.1.length) (Zz R) (Zj ZB 78 R.1) x H):=by
 obtain ⟨ha,hn,hk,hh,hmn,hnum,hd,hnow,hdr⟩:=hI;unfold SA;rw [zBD];obtain ⟨sd,es⟩ : ∃ s,L.getD a default = s:=⟨_,rfl⟩;rw [es] at hk hh hmn hR ⊢;subst a3;refine zK (wd:=1) (Q:=qH (qY g0)) (by decide) zN (zb (zY g0)) zP ?_;repeat' (first | (apply And.intro<;>intro hc<;>(first | exact Bool.noConfusion hc | (exfalso;first | exact absurd rfl hc | omega) | (simp only [zl] at hc<;>first | exact absurd rfl hc | (exfalso;first | exact absurd rfl hc | omega) | skip) | skip)) | (refine And.intro zj ?_) | (apply And.intro) | (intro s hs;skip) | (refine Exists.intro _ (And.intro ⟨rfl,rfl,rfl⟩ ?_)))
 refine zK (wd:=1) (Q:=qH (qY g0)) (by decide) zN (zb (zY g0)) zP ?_;repeat' (first | (apply And.intro<;>intro hc<;>(first | exact Bool.noConfusion hc | (exfalso;first | exact absurd rfl hc | omega) | (simp only [zl] at hc<;>first | exact absurd rfl hc | (exfalso;first | exact absurd rfl hc | omega) | skip) | skip)) | (refine And.intro zj ?_) | (apply And.intro) | (intro s hs;skip) | (refine Exists.intro _ (And.intro ⟨rfl,rfl,rfl⟩ ?_)))
 . refine ZC (s:=sd) (d:=2) (hR.trans ?_) ha rfl (λp h j=>zc h) rfl rfl rfl rfl rfl rfl rfl λq hq j hj=>(zm.sh _ j hj).le;unfold ZX;rw [if_pos hc]
 have hge:=hc;have w1 : IntKind.i64.wrap (c.num - 31) = c.num - 31:=IntWalk.i64_in _ (by omega);obtain ⟨⟨i,b⟩,hP⟩ : ∃ P,ZM c.num sd.held 0 = P:=⟨_,rfl⟩;have hle:=QC (id:=c.num) (L:=sd.held) (k:=0);rw [hP,Nat.zero_add] at hle;dsimp only at hle;obtain ⟨hle1,hle2,_⟩:=hle;cases b with
 | true=>
   have hil:=hle2 rfl;clear hle2;have hR2 : R = (L.set 0 (ZO sd i),false,0):=by
    rw [hR];unfold ZX;rw [if_neg (by omega),hP];rfl
   refine zK (wd:=1) (Q:=qH (qY g0)) (by decide) zN (zb (zY g0)) zP ?_;repeat' (first | (apply And.intro<;>intro hc<;>(first | exact Bool.noConfusion hc | (exfalso;first | exact absurd rfl hc | omega) | (simp only [zl] at hc<;>first | exact absurd rfl hc | (exfalso;first | exact absurd rfl hc | omega) | skip) | skip)) | (refine And.intro zj ?_) | (apply And.intro) | (intro s hs;(first | (have q:=qj hs (zT zd _) hP;clear hs;subst q) | (have q:=zAM hs (Nat.zero_add i);clear hs;subst q))) | (refine Exists.intro _ (And.intro ⟨rfl,rfl,rfl⟩ ?_)))
   . exact λ_ _=>⟨rfl,ZG _⟩
   . exact Eq.mpr (congrArg (λz : List Hel=>z.length <= 9223372036854775807) (zT zd _)) (by omega)
   conv=>whnf
   have hLh : (ZO sd i).held.length = sd.held.length:=List.length_set;refine ZC (s:=ZO sd i) (d:=2) hR2 ha rfl (λp h j=>zc h) rfl rfl (by rw [hLh];rfl) rfl rfl hLh.symm rfl λq hq j hj=>zAO hil hj
 | false=>
   clear hle2;refine zK (wd:=1) (Q:=qH (qY g0)) (by decide) zN (zb (zY g0)) zP ?_;repeat' (first | (apply And.intro<;>intro hc<;>(first | exact Bool.noConfusion hc | (exfalso;first | exact absurd rfl hc | omega) | (simp only [zl] at hc<;>first | exact absurd rfl hc | (exfalso;first | exact absurd rfl hc | omega) | skip) | skip)) | (refine And.intro zj ?_) | (apply And.intro) | (intro s hs;(first | (have q:=qj hs (zT zd _) hP;clear hs;subst q))) | (refine Exists.intro _ (And.intro ⟨rfl,rfl,rfl⟩ ?_)))
   . exact λ_ _=>⟨rfl,ZG _⟩
   . exact Eq.mpr (congrArg (λz : List Hel=>z.length <= 9223372036854775807) (zT zd _)) (by omega)
   change Sem _ _ _ _ _ _ _ _;refine Zb (wd:=1024) (Q:=qH (qY g0)) (by decide) zN (zb (zY g0)) (zV (zY g0)) zP (SB L 0 (ze sd (c.num - 31)) now c deaf draw) (by intro _;rfl) ?_ ?_
   . repeat' (first | (simp only [w1]) | (apply And.intro<;>intro hc<;>(first | exact Bool.noConfusion hc | (exfalso;first | exact absurd rfl hc | omega) | (simp only [zl] at hc<;>first | exact absurd rfl hc | (exfalso;first | exact absurd rfl hc | omega) | skip) | skip)) | (refine And.intro zj ?_) | (apply And.intro) | (intro s hs;skip) | (refine Exists.intro _ (And.intro ⟨rfl,rfl,rfl⟩ ?_)))
     . exact rfl
     . conv=>whnf
       rw [show ze sd (c.num - 31) = sd from if_pos hc];exact ⟨(),[],rfl,⟨zB rfl,zG rfl,zB rfl,zF rfl,zD (zH rfl rfl),zF rfl,trivial⟩,⟨⟨rfl,zE λj hj=>(qo.sh _ j hj).le⟩,⟨rfl,⟨rfl,rfl,rfl,rfl,λp hp j hj=>Zm hj rfl⟩⟩,⟨rfl,zA⟩,trivial⟩⟩
     . exact ⟨rfl,ZG _⟩
     . exact Eq.mpr (congrArg KpI (zT zd _)) hk
     . conv=>whnf
       have q : sd.held.filter (qU (some (c.num - 31))) = s:=(hs.trans (by rw [zT zd])).symm;clear hs;rw [show ze sd (c.num - 31) = ⟨sd.id,c.num - 31,s⟩ from (if_neg hc).trans (by rw [q])];refine ⟨(),[(2,some 4141)],rfl,⟨zB rfl,zG rfl,zB rfl,zF rfl,zD (zH rfl rfl),zF rfl,trivial⟩,⟨⟨rfl,zE λj hj=>(qo.sh _ j hj).le⟩,⟨rfl,⟨rfl,rfl,rfl,rfl,λp hp j hj=>?_⟩⟩,⟨rfl,zA⟩,trivial⟩⟩;have hj : j < 3:=hj;refine zAN hj (λh=>(ZJ h).trans ((ZJ h).trans (zc h))) λh=>?_;subst h;rcases j with _ | _ | _ | j
       . exact zC rfl
       . exact zC rfl
       . exact zH rfl rfl
       . omega
   . intro _;refine acc3 g0 L 0 (ze sd (c.num - 31)) now c deaf draw ⟨ha,hn,zAP hk,zAQ hh,hnum,hd,hnow,hdr⟩ R ?_;rw [hR];unfold ZX;rw [if_neg hge,hP];cases deaf<;>rfl
theorem acc2_1 (g0 : Nat) (L : List Sed) (a : Nat) (now : Int) (c : Cas) (deaf : Bool) (draw : Int) (hI : AcI L a now c draw) (R : List Sed × Bool × Int) (hR : R = (L.set a (ZX (L.getD a default) now c deaf draw).1,(ZX (L.getD a default) now c deaf draw).2,0)) (a3 : a = 1) :
 Sem Try.prog Try.f11.ntmps 0 (Zc 7 (Try.f11.body.getD Code.ret)) (SA L a now c deaf draw ()).fr (SA L a now c deaf draw ()).H (SA L a now c deaf draw ()).nx (qQ T Try.f11.results.toList λx H _=>FinN (some R.1.length) (Zz R) (Zj ZB 78 R.1) x H):=by
 obtain ⟨ha,hn,hk,hh,hmn,hnum,hd,hnow,hdr⟩:=hI;unfold SA;rw [zBD];obtain ⟨sd,es⟩ : ∃ s,L.getD a default = s:=⟨_,rfl⟩;rw [es] at hk hh hmn hR ⊢;subst a3;refine zK (wd:=1) (Q:=qH (qY g0)) (by decide) zN (zb (zY g0)) zP ?_;repeat' (first | (apply And.intro<;>intro hc<;>(first | exact Bool.noConfusion hc | (exfalso;first | exact absurd rfl hc | omega) | (simp only [zl] at hc<;>first | exact absurd rfl hc | (exfalso;first | exact absurd rfl hc | omega) | skip) | skip)) | (refine And.intro zj ?_) | (apply And.intro) | (intro s hs;skip) | (refine Exists.intro _ (And.intro ⟨rfl,rfl,rfl⟩ ?_)))
 refine zK (wd:=1) (Q:=qH (qY g0)) (by decide) zN (zb (zY g0)) zP ?_;repeat' (first | (apply And.intro<;>intro hc<;>(first | exact Bool.noConfusion hc | (exfalso;first | exact absurd rfl hc | omega) | (simp only [zl] at hc<;>first | exact absurd rfl hc | (exfalso;first | exact absurd rfl hc | omega) | skip) | skip)) | (refine And.intro zj ?_) | (apply And.intro) | (intro s hs;skip) | (refine Exists.intro _ (And.intro ⟨rfl,rfl,rfl⟩ ?_)))
 . refine ZC (s:=sd) (d:=2) (hR.trans ?_) ha rfl (λp h j=>zc h) rfl rfl rfl rfl rfl rfl rfl λq hq j hj=>(zm.sh _ j hj).le;unfold ZX;rw [if_pos hc]
 have hge:=hc;have w1 : IntKind.i64.wrap (c.num - 31) = c.num - 31:=IntWalk.i64_in _ (by omega);obtain ⟨⟨i,b⟩,hP⟩ : ∃ P,ZM c.num sd.held 0 = P:=⟨_,rfl⟩;have hle:=QC (id:=c.num) (L:=sd.held) (k:=0);rw [hP,Nat.zero_add] at hle;dsimp only at hle;obtain ⟨hle1,hle2,_⟩:=hle;cases b with
 | true=>
   have hil:=hle2 rfl;clear hle2;have hR2 : R = (L.set 1 (ZO sd i),false,0):=by
    rw [hR];unfold ZX;rw [if_neg (by omega),hP];rfl
   refine zK (wd:=1) (Q:=qH (qY g0)) (by decide) zN (zb (zY g0)) zP ?_;repeat' (first | (apply And.intro<;>intro hc<;>(first | exact Bool.noConfusion hc | (exfalso;first | exact absurd rfl hc | omega) | (simp only [zl] at hc<;>first | exact absurd rfl hc | (exfalso;first | exact absurd rfl hc | omega) | skip) | skip)) | (refine And.intro zj ?_) | (apply And.intro) | (intro s hs;(first | (have q:=qj hs (zT zd _) hP;clear hs;subst q) | (have q:=zAM hs (Nat.zero_add i);clear hs;subst q))) | (refine Exists.intro _ (And.intro ⟨rfl,rfl,rfl⟩ ?_)))
   . exact λ_ _=>⟨rfl,ZG _⟩
   . exact Eq.mpr (congrArg (λz : List Hel=>z.length <= 9223372036854775807) (zT zd _)) (by omega)
   conv=>whnf
   have hLh : (ZO sd i).held.length = sd.held.length:=List.length_set;refine ZC (s:=ZO sd i) (d:=2) hR2 ha rfl (λp h j=>zc h) rfl rfl (by rw [hLh];rfl) rfl rfl hLh.symm rfl λq hq j hj=>zAO hil hj
 | false=>
   clear hle2;refine zK (wd:=1) (Q:=qH (qY g0)) (by decide) zN (zb (zY g0)) zP ?_;repeat' (first | (apply And.intro<;>intro hc<;>(first | exact Bool.noConfusion hc | (exfalso;first | exact absurd rfl hc | omega) | (simp only [zl] at hc<;>first | exact absurd rfl hc | (exfalso;first | exact absurd rfl hc | omega) | skip) | skip)) | (refine And.intro zj ?_) | (apply And.intro) | (intro s hs;(first | (have q:=qj hs (zT zd _) hP;clear hs;subst q))) | (refine Exists.intro _ (And.intro ⟨rfl,rfl,rfl⟩ ?_)))
   . exact λ_ _=>⟨rfl,ZG _⟩
   . exact Eq.mpr (congrArg (λz : List Hel=>z.length <= 9223372036854775807) (zT zd _)) (by omega)
   change Sem _ _ _ _ _ _ _ _;refine Zb (wd:=1024) (Q:=qH (qY g0)) (by decide) zN (zb (zY g0)) (zV (zY g0)) zP (SB L 1 (ze sd (c.num - 31)) now c deaf draw) (by intro _;rfl) ?_ ?_
   . repeat' (first | (simp only [w1]) | (apply And.intro<;>intro hc<;>(first | exact Bool.noConfusion hc | (exfalso;first | exact absurd rfl hc | omega) | (simp only [zl] at hc<;>first | exact absurd rfl hc | (exfalso;first | exact absurd rfl hc | omega) | skip) | skip)) | (refine And.intro zj ?_) | (apply And.intro) | (intro s hs;skip) | (refine Exists.intro _ (And.intro ⟨rfl,rfl,rfl⟩ ?_)))
     . exact rfl
     . conv=>whnf
       rw [show ze sd (c.num - 31) = sd from if_pos hc];exact ⟨(),[],rfl,⟨zB rfl,zG rfl,zB rfl,zF rfl,zD (zH rfl rfl),zF rfl,trivial⟩,⟨⟨rfl,zE λj hj=>(qo.sh _ j hj).le⟩,⟨rfl,⟨rfl,rfl,rfl,rfl,λp hp j hj=>Zm hj rfl⟩⟩,⟨rfl,zA⟩,trivial⟩⟩
     . exact ⟨rfl,ZG _⟩
     . exact Eq.mpr (congrArg KpI (zT zd _)) hk
     . conv=>whnf
       have q : sd.held.filter (qU (some (c.num - 31))) = s:=(hs.trans (by rw [zT zd])).symm;clear hs;rw [show ze sd (c.num - 31) = ⟨sd.id,c.num - 31,s⟩ from (if_neg hc).trans (by rw [q])];refine ⟨(),[(2,some 4141)],rfl,⟨zB rfl,zG rfl,zB rfl,zF rfl,zD (zH rfl rfl),zF rfl,trivial⟩,⟨⟨rfl,zE λj hj=>(qo.sh _ j hj).le⟩,⟨rfl,⟨rfl,rfl,rfl,rfl,λp hp j hj=>?_⟩⟩,⟨rfl,zA⟩,trivial⟩⟩;have hj : j < 3:=hj;refine zAN hj (λh=>(ZJ h).trans ((ZJ h).trans (zc h))) λh=>?_;subst h;rcases j with _ | _ | _ | j
       . exact zC rfl
       . exact zC rfl
       . exact zH rfl rfl
       . omega
   . intro _;refine acc3 g0 L 1 (ze sd (c.num - 31)) now c deaf draw ⟨ha,hn,zAP hk,zAQ hh,hnum,hd,hnow,hdr⟩ R ?_;rw [hR];unfold ZX;rw [if_neg hge,hP];cases deaf<;>rfl
theorem acc2_2 (g0 : Nat) (L : List Sed) (a : Nat) (now : Int) (c : Cas) (deaf : Bool) (draw : Int) (hI : AcI L a now c draw) (R : List Sed × Bool × Int) (hR : R = (L.set a (ZX (L.getD a default) now c deaf draw).1,(ZX (L.getD a default) now c deaf draw).2,0)) (a3 : a = 2) :
 Sem Try.prog Try.f11.ntmps 0 (Zc 7 (Try.f11.body.getD Code.ret)) (SA L a now c deaf draw ()).fr (SA L a now c deaf draw ()).H (SA L a now c deaf draw ()).nx (qQ T Try.f11.results.toList λx H _=>FinN (some R.1.length) (Zz R) (Zj ZB 78 R.1) x H):=by
 obtain ⟨ha,hn,hk,hh,hmn,hnum,hd,hnow,hdr⟩:=hI;unfold SA;rw [zBD];obtain ⟨sd,es⟩ : ∃ s,L.getD a default = s:=⟨_,rfl⟩;rw [es] at hk hh hmn hR ⊢;subst a3;refine zK (wd:=1) (Q:=qH (qY g0)) (by decide) zN (zb (zY g0)) zP ?_;repeat' (first | (apply And.intro<;>intro hc<;>(first | exact Bool.noConfusion hc | (exfalso;first | exact absurd rfl hc | omega) | (simp only [zl] at hc<;>first | exact absurd rfl hc | (exfalso;first | exact absurd rfl hc | omega) | skip) | skip)) | (refine And.intro zj ?_) | (apply And.intro) | (intro s hs;skip) | (refine Exists.intro _ (And.intro ⟨rfl,rfl,rfl⟩ ?_)))
 refine zK (wd:=1) (Q:=qH (qY g0)) (by decide) zN (zb (zY g0)) zP ?_;repeat' (first | (apply And.intro<;>intro hc<;>(first | exact Bool.noConfusion hc | (exfalso;first | exact absurd rfl hc | omega) | (simp only [zl] at hc<;>first | exact absurd rfl hc | (exfalso;first | exact absurd rfl hc | omega) | skip) | skip)) | (refine And.intro zj ?_) | (apply And.intro) | (intro s hs;skip) | (refine Exists.intro _ (And.intro ⟨rfl,rfl,rfl⟩ ?_)))
 . refine ZC (s:=sd) (d:=2) (hR.trans ?_) ha rfl (λp h j=>zc h) rfl rfl rfl rfl rfl rfl rfl λq hq j hj=>(zm.sh _ j hj).le;unfold ZX;rw [if_pos hc]
 have hge:=hc;have w1 : IntKind.i64.wrap (c.num - 31) = c.num - 31:=IntWalk.i64_in _ (by omega);obtain ⟨⟨i,b⟩,hP⟩ : ∃ P,ZM c.num sd.held 0 = P:=⟨_,rfl⟩;have hle:=QC (id:=c.num) (L:=sd.held) (k:=0);rw [hP,Nat.zero_add] at hle;dsimp only at hle;obtain ⟨hle1,hle2,_⟩:=hle;cases b with
 | true=>
   have hil:=hle2 rfl;clear hle2;have hR2 : R = (L.set 2 (ZO sd i),false,0):=by
    rw [hR];unfold ZX;rw [if_neg (by omega),hP];rfl
   refine zK (wd:=1) (Q:=qH (qY g0)) (by decide) zN (zb (zY g0)) zP ?_;repeat' (first | (apply And.intro<;>intro hc<;>(first | exact Bool.noConfusion hc | (exfalso;first | exact absurd rfl hc | omega) | (simp only [zl] at hc<;>first | exact absurd rfl hc | (exfalso;first | exact absurd rfl hc | omega) | skip) | skip)) | (refine And.intro zj ?_) | (apply And.intro) | (intro s hs;(first | (have q:=qj hs (zT zd _) hP;clear hs;subst q) | (have q:=zAM hs (Nat.zero_add i);clear hs;subst q))) | (refine Exists.intro _ (And.intro ⟨rfl,rfl,rfl⟩ ?_)))
   . exact λ_ _=>⟨rfl,ZG _⟩
   . exact Eq.mpr (congrArg (λz : List Hel=>z.length <= 9223372036854775807) (zT zd _)) (by omega)
   conv=>whnf
   have hLh : (ZO sd i).held.length = sd.held.length:=List.length_set;refine ZC (s:=ZO sd i) (d:=2) hR2 ha rfl (λp h j=>zc h) rfl rfl (by rw [hLh];rfl) rfl rfl hLh.symm rfl λq hq j hj=>zAO hil hj
 | false=>
   clear hle2;refine zK (wd:=1) (Q:=qH (qY g0)) (by decide) zN (zb (zY g0)) zP ?_;repeat' (first | (apply And.intro<;>intro hc<;>(first | exact Bool.noConfusion hc | (exfalso;first | exact absurd rfl hc | omega) | (simp only [zl] at hc<;>first | exact absurd rfl hc | (exfalso;first | exact absurd rfl hc | omega) | skip) | skip)) | (refine And.intro zj ?_) | (apply And.intro) | (intro s hs;(first | (have q:=qj hs (zT zd _) hP;clear hs;subst q))) | (refine Exists.intro _ (And.intro ⟨rfl,rfl,rfl⟩ ?_)))
   . exact λ_ _=>⟨rfl,ZG _⟩
   . exact Eq.mpr (congrArg (λz : List Hel=>z.length <= 9223372036854775807) (zT zd _)) (by omega)
   change Sem _ _ _ _ _ _ _ _;refine Zb (wd:=1024) (Q:=qH (qY g0)) (by decide) zN (zb (zY g0)) (zV (zY g0)) zP (SB L 2 (ze sd (c.num - 31)) now c deaf draw) (by intro _;rfl) ?_ ?_
   . repeat' (first | (simp only [w1]) | (apply And.intro<;>intro hc<;>(first | exact Bool.noConfusion hc | (exfalso;first | exact absurd rfl hc | omega) | (simp only [zl] at hc<;>first | exact absurd rfl hc | (exfalso;first | exact absurd rfl hc | omega) | skip) | skip)) | (refine And.intro zj ?_) | (apply And.intro) | (intro s hs;skip) | (refine Exists.intro _ (And.intro ⟨rfl,rfl,rfl⟩ ?_)))
     . exact rfl
     . conv=>whnf
       rw [show ze sd (c.num - 31) = sd from if_pos hc];exact ⟨(),[],rfl,⟨zB rfl,zG rfl,zB rfl,zF rfl,zD (zH rfl rfl),zF rfl,trivial⟩,⟨⟨rfl,zE λj hj=>(qo.sh _ j hj).le⟩,⟨rfl,⟨rfl,rfl,rfl,rfl,λp hp j hj=>Zm hj rfl⟩⟩,⟨rfl,zA⟩,trivial⟩⟩
     . exact ⟨rfl,ZG _⟩
     . exact Eq.mpr (congrArg KpI (zT zd _)) hk
     . conv=>whnf
       have q : sd.held.filter (qU (some (c.num - 31))) = s:=(hs.trans (by rw [zT zd])).symm;clear hs;rw [show ze sd (c.num - 31) = ⟨sd.id,c.num - 31,s⟩ from (if_neg hc).trans (by rw [q])];refine ⟨(),[(2,some 4141)],rfl,⟨zB rfl,zG rfl,zB rfl,zF rfl,zD (zH rfl rfl),zF rfl,trivial⟩,⟨⟨rfl,zE λj hj=>(qo.sh _ j hj).le⟩,⟨rfl,⟨rfl,rfl,rfl,rfl,λp hp j hj=>?_⟩⟩,⟨rfl,zA⟩,trivial⟩⟩;have hj : j < 3:=hj;refine zAN hj (λh=>(ZJ h).trans ((ZJ h).trans (zc h))) λh=>?_;subst h;rcases j with _ | _ | _ | j
       . exact zC rfl
       . exact zC rfl
       . exact zH rfl rfl
       . omega
   . intro _;refine acc3 g0 L 2 (ze sd (c.num - 31)) now c deaf draw ⟨ha,hn,zAP hk,zAQ hh,hnum,hd,hnow,hdr⟩ R ?_;rw [hR];unfold ZX;rw [if_neg hge,hP];cases deaf<;>rfl
theorem acc2_3 (g0 : Nat) (L : List Sed) (a : Nat) (now : Int) (c : Cas) (deaf : Bool) (draw : Int) (hI : AcI L a now c draw) (R : List Sed × Bool × Int) (hR : R = (L.set a (ZX (L.getD a default) now c deaf draw).1,(ZX (L.getD a default) now c deaf draw).2,0)) (a3 : a = 3) :
 Sem Try.prog Try.f11.ntmps 0 (Zc 7 (Try.f11.body.getD Code.ret)) (SA L a now c deaf draw ()).fr (SA L a now c deaf draw ()).H (SA L a now c deaf draw ()).nx (qQ T Try.f11.results.toList λx H _=>FinN (some R.1.length) (Zz R) (Zj ZB 78 R.1) x H):=by
 obtain ⟨ha,hn,hk,hh,hmn,hnum,hd,hnow,hdr⟩:=hI;unfold SA;rw [zBD];obtain ⟨sd,es⟩ : ∃ s,L.getD a default = s:=⟨_,rfl⟩;rw [es] at hk hh hmn hR ⊢;subst a3;refine zK (wd:=1) (Q:=qH (qY g0)) (by decide) zN (zb (zY g0)) zP ?_;repeat' (first | (apply And.intro<;>intro hc<;>(first | exact Bool.noConfusion hc | (exfalso;first | exact absurd rfl hc | omega) | (simp only [zl] at hc<;>first | exact absurd rfl hc | (exfalso;first | exact absurd rfl hc | omega) | skip) | skip)) | (refine And.intro zj ?_) | (apply And.intro) | (intro s hs;skip) | (refine Exists.intro _ (And.intro ⟨rfl,rfl,rfl⟩ ?_)))
 refine zK (wd:=1) (Q:=qH (qY g0)) (by decide) zN (zb (zY g0)) zP ?_;repeat' (first | (apply And.intro<;>intro hc<;>(first | exact Bool.noConfusion hc | (exfalso;first | exact absurd rfl hc | omega) | (simp only [zl] at hc<;>first | exact absurd rfl hc | (exfalso;first | exact absurd rfl hc | omega) | skip) | skip)) | (refine And.intro zj ?_) | (apply And.intro) | (intro s hs;skip) | (refine Exists.intro _ (And.intro ⟨rfl,rfl,rfl⟩ ?_)))
 . refine ZC (s:=sd) (d:=2) (hR.trans ?_) ha rfl (λp h j=>zc h) rfl rfl rfl rfl rfl rfl rfl λq hq j hj=>(zm.sh _ j hj).le;unfold ZX;rw [if_pos hc]
 have hge:=hc;have w1 : IntKind.i64.wrap (c.num - 31) = c.num - 31:=IntWalk.i64_in _ (by omega);obtain ⟨⟨i,b⟩,hP⟩ : ∃ P,ZM c.num sd.held 0 = P:=⟨_,rfl⟩;have hle:=QC (id:=c.num) (L:=sd.held) (k:=0);rw [hP,Nat.zero_add] at hle;dsimp only at hle;obtain ⟨hle1,hle2,_⟩:=hle;cases b with
 | true=>
   have hil:=hle2 rfl;clear hle2;have hR2 : R = (L.set 3 (ZO sd i),false,0):=by
    rw [hR];unfold ZX;rw [if_neg (by omega),hP];rfl
   refine zK (wd:=1) (Q:=qH (qY g0)) (by decide) zN (zb (zY g0)) zP ?_;repeat' (first | (apply And.intro<;>intro hc<;>(first | exact Bool.noConfusion hc | (exfalso;first | exact absurd rfl hc | omega) | (simp only [zl] at hc<;>first | exact absurd rfl hc | (exfalso;first | exact absurd rfl hc | omega) | skip) | skip)) | (refine And.intro zj ?_) | (apply And.intro) | (intro s hs;(first | (have q:=qj hs (zT zd _) hP;clear hs;subst q) | (have q:=zAM hs (Nat.zero_add i);clear hs;subst q))) | (refine Exists.intro _ (And.intro ⟨rfl,rfl,rfl⟩ ?_)))
   . exact λ_ _=>⟨rfl,ZG _⟩
   . exact Eq.mpr (congrArg (λz : List Hel=>z.length <= 9223372036854775807) (zT zd _)) (by omega)
   conv=>whnf
   have hLh : (ZO sd i).held.length = sd.held.length:=List.length_set;refine ZC (s:=ZO sd i) (d:=2) hR2 ha rfl (λp h j=>zc h) rfl rfl (by rw [hLh];rfl) rfl rfl hLh.symm rfl λq hq j hj=>zAO hil hj
 | false=>
   clear hle2;refine zK (wd:=1) (Q:=qH (qY g0)) (by decide) zN (zb (zY g0)) zP ?_;repeat' (first | (apply And.intro<;>intro hc<;>(first | exact Bool.noConfusion hc | (exfalso;first | exact absurd rfl hc | omega) | (simp only [zl] at hc<;>first | exact absurd rfl hc | (exfalso;first | exact absurd rfl hc | omega) | skip) | skip)) | (refine And.intro zj ?_) | (apply And.intro) | (intro s hs;(first | (have q:=qj hs (zT zd _) hP;clear hs;subst q))) | (refine Exists.intro _ (And.intro ⟨rfl,rfl,rfl⟩ ?_)))
   . exact λ_ _=>⟨rfl,ZG _⟩
   . exact Eq.mpr (congrArg (λz : List Hel=>z.length <= 9223372036854775807) (zT zd _)) (by omega)
   change Sem _ _ _ _ _ _ _ _;refine Zb (wd:=1024) (Q:=qH (qY g0)) (by decide) zN (zb (zY g0)) (zV (zY g0)) zP (SB L 3 (ze sd (c.num - 31)) now c deaf draw) (by intro _;rfl) ?_ ?_
   . repeat' (first | (simp only [w1]) | (apply And.intro<;>intro hc<;>(first | exact Bool.noConfusion hc | (exfalso;first | exact absurd rfl hc | omega) | (simp only [zl] at hc<;>first | exact absurd rfl hc | (exfalso;first | exact absurd rfl hc | omega) | skip) | skip)) | (refine And.intro zj ?_) | (apply And.intro) | (intro s hs;skip) | (refine Exists.intro _ (And.intro ⟨rfl,rfl,rfl⟩ ?_)))
     . exact rfl
     . conv=>whnf
       rw [show ze sd (c.num - 31) = sd from if_pos hc];exact ⟨(),[],rfl,⟨zB rfl,zG rfl,zB rfl,zF rfl,zD (zH rfl rfl),zF rfl,trivial⟩,⟨⟨rfl,zE λj hj=>(qo.sh _ j hj).le⟩,⟨rfl,⟨rfl,rfl,rfl,rfl,λp hp j hj=>Zm hj rfl⟩⟩,⟨rfl,zA⟩,trivial⟩⟩
     . exact ⟨rfl,ZG _⟩
     . exact Eq.mpr (congrArg KpI (zT zd _)) hk
     . conv=>whnf
       have q : sd.held.filter (qU (some (c.num - 31))) = s:=(hs.trans (by rw [zT zd])).symm;clear hs;rw [show ze sd (c.num - 31) = ⟨sd.id,c.num - 31,s⟩ from (if_neg hc).trans (by rw [q])];refine ⟨(),[(2,some 4141)],rfl,⟨zB rfl,zG rfl,zB rfl,zF rfl,zD (zH rfl rfl),zF rfl,trivial⟩,⟨⟨rfl,zE λj hj=>(qo.sh _ j hj).le⟩,⟨rfl,⟨rfl,rfl,rfl,rfl,λp hp j hj=>?_⟩⟩,⟨rfl,zA⟩,trivial⟩⟩;have hj : j < 3:=hj;refine zAN hj (λh=>(ZJ h).trans ((ZJ h).trans (zc h))) λh=>?_;subst h;rcases j with _ | _ | _ | j
       . exact zC rfl
       . exact zC rfl
       . exact zH rfl rfl
       . omega
   . intro _;refine acc3 g0 L 3 (ze sd (c.num - 31)) now c deaf draw ⟨ha,hn,zAP hk,zAQ hh,hnum,hd,hnow,hdr⟩ R ?_;rw [hR];unfold ZX;rw [if_neg hge,hP];cases deaf<;>rfl
theorem acc2_4 (g0 : Nat) (L : List Sed) (a : Nat) (now : Int) (c : Cas) (deaf : Bool) (draw : Int) (hI : AcI L a now c draw) (R : List Sed × Bool × Int) (hR : R = (L.set a (ZX (L.getD a default) now c deaf draw).1,(ZX (L.getD a default) now c deaf draw).2,0)) (a3 : a = 4) :
 Sem Try.prog Try.f11.ntmps 0 (Zc 7 (Try.f11.body.getD Code.ret)) (SA L a now c deaf draw ()).fr (SA L a now c deaf draw ()).H (SA L a now c deaf draw ()).nx (qQ T Try.f11.results.toList λx H _=>FinN (some R.1.length) (Zz R) (Zj ZB 78 R.1) x H):=by
 obtain ⟨ha,hn,hk,hh,hmn,hnum,hd,hnow,hdr⟩:=hI;unfold SA;rw [zBD];obtain ⟨sd,es⟩ : ∃ s,L.getD a default = s:=⟨_,rfl⟩;rw [es] at hk hh hmn hR ⊢;subst a3;refine zK (wd:=1) (Q:=qH (qY g0)) (by decide) zN (zb (zY g0)) zP ?_;repeat' (first | (apply And.intro<;>intro hc<;>(first | exact Bool.noConfusion hc | (exfalso;first | exact absurd rfl hc | omega) | (simp only [zl] at hc<;>first | exact absurd rfl hc | (exfalso;first | exact absurd rfl hc | omega) | skip) | skip)) | (refine And.intro zj ?_) | (apply And.intro) | (intro s hs;skip) | (refine Exists.intro _ (And.intro ⟨rfl,rfl,rfl⟩ ?_)))
 refine zK (wd:=1) (Q:=qH (qY g0)) (by decide) zN (zb (zY g0)) zP ?_;repeat' (first | (apply And.intro<;>intro hc<;>(first | exact Bool.noConfusion hc | (exfalso;first | exact absurd rfl hc | omega) | (simp only [zl] at hc<;>first | exact absurd rfl hc | (exfalso;first | exact absurd rfl hc | omega) | skip) | skip)) | (refine And.intro zj ?_) | (apply And.intro) | (intro s hs;skip) | (refine Exists.intro _ (And.intro ⟨rfl,rfl,rfl⟩ ?_)))
 . refine ZC (s:=sd) (d:=2) (hR.trans ?_) ha rfl (λp h j=>zc h) rfl rfl rfl rfl rfl rfl rfl λq hq j hj=>(zm.sh _ j hj).le;unfold ZX;rw [if_pos hc]
 have hge:=hc;have w1 : IntKind.i64.wrap (c.num - 31) = c.num - 31:=IntWalk.i64_in _ (by omega);obtain ⟨⟨i,b⟩,hP⟩ : ∃ P,ZM c.num sd.held 0 = P:=⟨_,rfl⟩;have hle:=QC (id:=c.num) (L:=sd.held) (k:=0);rw [hP,Nat.zero_add] at hle;dsimp only at hle;obtain ⟨hle1,hle2,_⟩:=hle;cases b with
 | true=>
   have hil:=hle2 rfl;clear hle2;have hR2 : R = (L.set 4 (ZO sd i),false,0):=by
    rw [hR];unfold ZX;rw [if_neg (by omega),hP];rfl
   refine zK (wd:=1) (Q:=qH (qY g0)) (by decide) zN (zb (zY g0)) zP ?_;repeat' (first | (apply And.intro<;>intro hc<;>(first | exact Bool.noConfusion hc | (exfalso;first | exact absurd rfl hc | omega) | (simp only [zl] at hc<;>first | exact absurd rfl hc | (exfalso;first | exact absurd rfl hc | omega) | skip) | skip)) | (refine And.intro zj ?_) | (apply And.intro) | (intro s hs;(first | (have q:=qj hs (zT zd _) hP;clear hs;subst q) | (have q:=zAM hs (Nat.zero_add i);clear hs;subst q))) | (refine Exists.intro _ (And.intro ⟨rfl,rfl,rfl⟩ ?_)))
   . exact λ_ _=>⟨rfl,ZG _⟩
   . exact Eq.mpr (congrArg (λz : List Hel=>z.length <= 9223372036854775807) (zT zd _)) (by omega)
   conv=>whnf
   have hLh : (ZO sd i).held.length = sd.held.length:=List.length_set;refine ZC (s:=ZO sd i) (d:=2) hR2 ha rfl (λp h j=>zc h) rfl rfl (by rw [hLh];rfl) rfl rfl hLh.symm rfl λq hq j hj=>zAO hil hj
 | false=>
   clear hle2;refine zK (wd:=1) (Q:=qH (qY g0)) (by decide) zN (zb (zY g0)) zP ?_;repeat' (first | (apply And.intro<;>intro hc<;>(first | exact Bool.noConfusion hc | (exfalso;first | exact absurd rfl hc | omega) | (simp only [zl] at hc<;>first | exact absurd rfl hc | (exfalso;first | exact absurd rfl hc | omega) | skip) | skip)) | (refine And.intro zj ?_) | (apply And.intro) | (intro s hs;(first | (have q:=qj hs (zT zd _) hP;clear hs;subst q))) | (refine Exists.intro _ (And.intro ⟨rfl,rfl,rfl⟩ ?_)))
   . exact λ_ _=>⟨rfl,ZG _⟩
   . exact Eq.mpr (congrArg (λz : List Hel=>z.length <= 9223372036854775807) (zT zd _)) (by omega)
   change Sem _ _ _ _ _ _ _ _;refine Zb (wd:=1024) (Q:=qH (qY g0)) (by decide) zN (zb (zY g0)) (zV (zY g0)) zP (SB L 4 (ze sd (c.num - 31)) now c deaf draw) (by intro _;rfl) ?_ ?_
   . repeat' (first | (simp only [w1]) | (apply And.intro<;>intro hc<;>(first | exact Bool.noConfusion hc | (exfalso;first | exact absurd rfl hc | omega) | (simp only [zl] at hc<;>first | exact absurd rfl hc | (exfalso;first | exact absurd rfl hc | omega) | skip) | skip)) | (refine And.intro zj ?_) | (apply And.intro) | (intro s hs;skip) | (refine Exists.intro _ (And.intro ⟨rfl,rfl,rfl⟩ ?_)))
     . exact rfl
     . conv=>whnf
       rw [show ze sd (c.num - 31) = sd from if_pos hc];exact ⟨(),[],rfl,⟨zB rfl,zG rfl,zB rfl,zF rfl,zD (zH rfl rfl),zF rfl,trivial⟩,⟨⟨rfl,zE λj hj=>(qo.sh _ j hj).le⟩,⟨rfl,⟨rfl,rfl,rfl,rfl,λp hp j hj=>Zm hj rfl⟩⟩,⟨rfl,zA⟩,trivial⟩⟩
     . exact ⟨rfl,ZG _⟩
     . exact Eq.mpr (congrArg KpI (zT zd _)) hk
     . conv=>whnf
       have q : sd.held.filter (qU (some (c.num - 31))) = s:=(hs.trans (by rw [zT zd])).symm;clear hs;rw [show ze sd (c.num - 31) = ⟨sd.id,c.num - 31,s⟩ from (if_neg hc).trans (by rw [q])];refine ⟨(),[(2,some 4141)],rfl,⟨zB rfl,zG rfl,zB rfl,zF rfl,zD (zH rfl rfl),zF rfl,trivial⟩,⟨⟨rfl,zE λj hj=>(qo.sh _ j hj).le⟩,⟨rfl,⟨rfl,rfl,rfl,rfl,λp hp j hj=>?_⟩⟩,⟨rfl,zA⟩,trivial⟩⟩;have hj : j < 3:=hj;refine zAN hj (λh=>(ZJ h).trans ((ZJ h).trans (zc h))) λh=>?_;subst h;rcases j with _ | _ | _ | j
       . exact zC rfl
       . exact zC rfl
       . exact zH rfl rfl
       . omega
   . intro _;refine acc3 g0 L 4 (ze sd (c.num - 31)) now c deaf draw ⟨ha,hn,zAP hk,zAQ hh,hnum,hd,hnow,hdr⟩ R ?_;rw [hR];unfold ZX;rw [if_neg hge,hP];cases deaf<;>rfl
theorem acc2_5 (g0 : Nat) (L : List Sed) (a : Nat) (now : Int) (c : Cas) (deaf : Bool) (draw : Int) (hI : AcI L a now c draw) (R : List Sed × Bool × Int) (hR : R = (L.set a (ZX (L.getD a default) now c deaf draw).1,(ZX (L.getD a default) now c deaf draw).2,0)) (a3 : a = 5) :
 Sem Try.prog Try.f11.ntmps 0 (Zc 7 (Try.f11.body.getD Code.ret)) (SA L a now c deaf draw ()).fr (SA L a now c deaf draw ()).H (SA L a now c deaf draw ()).nx (qQ T Try.f11.results.toList λx H _=>FinN (some R.1.length) (Zz R) (Zj ZB 78 R.1) x H):=by
 obtain ⟨ha,hn,hk,hh,hmn,hnum,hd,hnow,hdr⟩:=hI;unfold SA;rw [zBD];obtain ⟨sd,es⟩ : ∃ s,L.getD a default = s:=⟨_,rfl⟩;rw [es] at hk hh hmn hR ⊢;subst a3;refine zK (wd:=1) (Q:=qH (qY g0)) (by decide) zN (zb (zY g0)) zP ?_;repeat' (first | (apply And.intro<;>intro hc<;>(first | exact Bool.noConfusion hc | (exfalso;first | exact absurd rfl hc | omega) | (simp only [zl] at hc<;>first | exact absurd rfl hc | (exfalso;first | exact absurd rfl hc | omega) | skip) | skip)) | (refine And.intro zj ?_) | (apply And.intro) | (intro s hs;skip) | (refine Exists.intro _ (And.intro ⟨rfl,rfl,rfl⟩ ?_)))
 refine zK (wd:=1) (Q:=qH (qY g0)) (by decide) zN (zb (zY g0)) zP ?_;repeat' (first | (apply And.intro<;>intro hc<;>(first | exact Bool.noConfusion hc | (exfalso;first | exact absurd rfl hc | omega) | (simp only [zl] at hc<;>first | exact absurd rfl hc | (exfalso;first | exact absurd rfl hc | omega) | skip) | skip)) | (refine And.intro zj ?_) | (apply And.intro) | (intro s hs;skip) | (refine Exists.intro _ (And.intro ⟨rfl,rfl,rfl⟩ ?_)))
 . refine ZC (s:=sd) (d:=2) (hR.trans ?_) ha rfl (λp h j=>zc h) rfl rfl rfl rfl rfl rfl rfl λq hq j hj=>(zm.sh _ j hj).le;unfold ZX;rw [if_pos hc]
 have hge:=hc;have w1 : IntKind.i64.wrap (c.num - 31) = c.num - 31:=IntWalk.i64_in _ (by omega);obtain ⟨⟨i,b⟩,hP⟩ : ∃ P,ZM c.num sd.held 0 = P:=⟨_,rfl⟩;have hle:=QC (id:=c.num) (L:=sd.held) (k:=0);rw [hP,Nat.zero_add] at hle;dsimp only at hle;obtain ⟨hle1,hle2,_⟩:=hle;cases b with
 | true=>
   have hil:=hle2 rfl;clear hle2;have hR2 : R = (L.set 5 (ZO sd i),false,0):=by
    rw [hR];unfold ZX;rw [if_neg (by omega),hP];rfl
   refine zK (wd:=1) (Q:=qH (qY g0)) (by decide) zN (zb (zY g0)) zP ?_;repeat' (first | (apply And.intro<;>intro hc<;>(first | exact Bool.noConfusion hc | (exfalso;first | exact absurd rfl hc | omega) | (simp only [zl] at hc<;>first | exact absurd rfl hc | (exfalso;first | exact absurd rfl hc | omega) | skip) | skip)) | (refine And.intro zj ?_) | (apply And.intro) | (intro s hs;(first | (have q:=qj hs (zT zd _) hP;clear hs;subst q) | (have q:=zAM hs (Nat.zero_add i);clear hs;subst q))) | (refine Exists.intro _ (And.intro ⟨rfl,rfl,rfl⟩ ?_)))
   . exact λ_ _=>⟨rfl,ZG _⟩
   . exact Eq.mpr (congrArg (λz : List Hel=>z.length <= 9223372036854775807) (zT zd _)) (by omega)
   conv=>whnf
   have hLh : (ZO sd i).held.length = sd.held.length:=List.length_set;refine ZC (s:=ZO sd i) (d:=2) hR2 ha rfl (λp h j=>zc h) rfl rfl (by rw [hLh];rfl) rfl rfl hLh.symm rfl λq hq j hj=>zAO hil hj
 | false=>
   clear hle2;refine zK (wd:=1) (Q:=qH (qY g0)) (by decide) zN (zb (zY g0)) zP ?_;repeat' (first | (apply And.intro<;>intro hc<;>(first | exact Bool.noConfusion hc | (exfalso;first | exact absurd rfl hc | omega) | (simp only [zl] at hc<;>first | exact absurd rfl hc | (exfalso;first | exact absurd rfl hc | omega) | skip) | skip)) | (refine And.intro zj ?_) | (apply And.intro) | (intro s hs;(first | (have q:=qj hs (zT zd _) hP;clear hs;subst q))) | (refine Exists.intro _ (And.intro ⟨rfl,rfl,rfl⟩ ?_)))
   . exact λ_ _=>⟨rfl,ZG _⟩
   . exact Eq.mpr (congrArg (λz : List Hel=>z.length <= 9223372036854775807) (zT zd _)) (by omega)
   change Sem _ _ _ _ _ _ _ _;refine Zb (wd:=1024) (Q:=qH (qY g0)) (by decide) zN (zb (zY g0)) (zV (zY g0)) zP (SB L 5 (ze sd (c.num - 31)) now c deaf draw) (by intro _;rfl) ?_ ?_
   . repeat' (first | (simp only [w1]) | (apply And.intro<;>intro hc<;>(first | exact Bool.noConfusion hc | (exfalso;first | exact absurd rfl hc | omega) | (simp only [zl] at hc<;>first | exact absurd rfl hc | (exfalso;first | exact absurd rfl hc | omega) | skip) | skip)) | (refine And.intro zj ?_) | (apply And.intro) | (intro s hs;skip) | (refine Exists.intro _ (And.intro ⟨rfl,rfl,rfl⟩ ?_)))
     . exact rfl
     . conv=>whnf
       rw [show ze sd (c.num - 31) = sd from if_pos hc];exact ⟨(),[],rfl,⟨zB rfl,zG rfl,zB rfl,zF rfl,zD (zH rfl rfl),zF rfl,trivial⟩,⟨⟨rfl,zE λj hj=>(qo.sh _ j hj).le⟩,⟨rfl,⟨rfl,rfl,rfl,rfl,λp hp j hj=>Zm hj rfl⟩⟩,⟨rfl,zA⟩,trivial⟩⟩
     . exact ⟨rfl,ZG _⟩
     . exact Eq.mpr (congrArg KpI (zT zd _)) hk
     . conv=>whnf
       have q : sd.held.filter (qU (some (c.num - 31))) = s:=(hs.trans (by rw [zT zd])).symm;clear hs;rw [show ze sd (c.num - 31) = ⟨sd.id,c.num - 31,s⟩ from (if_neg hc).trans (by rw [q])];refine ⟨(),[(2,some 4141)],rfl,⟨zB rfl,zG rfl,zB rfl,zF rfl,zD (zH rfl rfl),zF rfl,trivial⟩,⟨⟨rfl,zE λj hj=>(qo.sh _ j hj).le⟩,⟨rfl,⟨rfl,rfl,rfl,rfl,λp hp j hj=>?_⟩⟩,⟨rfl,zA⟩,trivial⟩⟩;have hj : j < 3:=hj;refine zAN hj (λh=>(ZJ h).trans ((ZJ h).trans (zc h))) λh=>?_;subst h;rcases j with _ | _ | _ | j
       . exact zC rfl
       . exact zC rfl
       . exact zH rfl rfl
       . omega
   . intro _;refine acc3 g0 L 5 (ze sd (c.num - 31)) now c deaf draw ⟨ha,hn,zAP hk,zAQ hh,hnum,hd,hnow,hdr⟩ R ?_;rw [hR];unfold ZX;rw [if_neg hge,hP];cases deaf<;>rfl
theorem acc2_6 (g0 : Nat) (L : List Sed) (a : Nat) (now : Int) (c : Cas) (deaf : Bool) (draw : Int) (hI : AcI L a now c draw) (R : List Sed × Bool × Int) (hR : R = (L.set a (ZX (L.getD a default) now c deaf draw).1,(ZX (L.getD a default) now c deaf draw).2,0)) (a3 : a = 6) :
 Sem Try.prog Try.f11.ntmps 0 (Zc 7 (Try.f11.body.getD Code.ret)) (SA L a now c deaf draw ()).fr (SA L a now c deaf draw ()).H (SA L a now c deaf draw ()).nx (qQ T Try.f11.results.toList λx H _=>FinN (some R.1.length) (Zz R) (Zj ZB 78 R.1) x H):=by
 obtain ⟨ha,hn,hk,hh,hmn,hnum,hd,hnow,hdr⟩:=hI;unfold SA;rw [zBD];obtain ⟨sd,es⟩ : ∃ s,L.getD a default = s:=⟨_,rfl⟩;rw [es] at hk hh hmn hR ⊢;subst a3;refine zK (wd:=1) (Q:=qH (qY g0)) (by decide) zN (zb (zY g0)) zP ?_;repeat' (first | (apply And.intro<;>intro hc<;>(first | exact Bool.noConfusion hc | (exfalso;first | exact absurd rfl hc | omega) | (simp only [zl] at hc<;>first | exact absurd rfl hc | (exfalso;first | exact absurd rfl hc | omega) | skip) | skip)) | (refine And.intro zj ?_) | (apply And.intro) | (intro s hs;skip) | (refine Exists.intro _ (And.intro ⟨rfl,rfl,rfl⟩ ?_)))
 refine zK (wd:=1) (Q:=qH (qY g0)) (by decide) zN (zb (zY g0)) zP ?_;repeat' (first | (apply And.intro<;>intro hc<;>(first | exact Bool.noConfusion hc | (exfalso;first | exact absurd rfl hc | omega) | (simp only [zl] at hc<;>first | exact absurd rfl hc | (exfalso;first | exact absurd rfl hc | omega) | skip) | skip)) | (refine And.intro zj ?_) | (apply And.intro) | (intro s hs;skip) | (refine Exists.intro _ (And.intro ⟨rfl,rfl,rfl⟩ ?_)))
 . refine ZC (s:=sd) (d:=2) (hR.trans ?_) ha rfl (λp h j=>zc h) rfl rfl rfl rfl rfl rfl rfl λq hq j hj=>(zm.sh _ j hj).le;unfold ZX;rw [if_pos hc]
 have hge:=hc;have w1 : IntKind.i64.wrap (c.num - 31) = c.num - 31:=IntWalk.i64_in _ (by omega);obtain ⟨⟨i,b⟩,hP⟩ : ∃ P,ZM c.num sd.held 0 = P:=⟨_,rfl⟩;have hle:=QC (id:=c.num) (L:=sd.held) (k:=0);rw [hP,Nat.zero_add] at hle;dsimp only at hle;obtain ⟨hle1,hle2,_⟩:=hle;cases b with
 | true=>
   have hil:=hle2 rfl;clear hle2;have hR2 : R = (L.set 6 (ZO sd i),false,0):=by
    rw [hR];unfold ZX;rw [if_neg (by omega),hP];rfl
   refine zK (wd:=1) (Q:=qH (qY g0)) (by decide) zN (zb (zY g0)) zP ?_;repeat' (first | (apply And.intro<;>intro hc<;>(first | exact Bool.noConfusion hc | (exfalso;first | exact absurd rfl hc | omega) | (simp only [zl] at hc<;>first | exact absurd rfl hc | (exfalso;first | exact absurd rfl hc | omega) | skip) | skip)) | (refine And.intro zj ?_) | (apply And.intro) | (intro s hs;(first | (have q:=qj hs (zT zd _) hP;clear hs;subst q) | (have q:=zAM hs (Nat.zero_add i);clear hs;subst q))) | (refine Exists.intro _ (And.intro ⟨rfl,rfl,rfl⟩ ?_)))
   . exact λ_ _=>⟨rfl,ZG _⟩
   . exact Eq.mpr (congrArg (λz : List Hel=>z.length <= 9223372036854775807) (zT zd _)) (by omega)
   conv=>whnf
   have hLh : (ZO sd i).held.length = sd.held.length:=List.length_set;refine ZC (s:=ZO sd i) (d:=2) hR2 ha rfl (λp h j=>zc h) rfl rfl (by rw [hLh];rfl) rfl rfl hLh.symm rfl λq hq j hj=>zAO hil hj
 | false=>
   clear hle2;refine zK (wd:=1) (Q:=qH (qY g0)) (by decide) zN (zb (zY g0)) zP ?_;repeat' (first | (apply And.intro<;>intro hc<;>(first | exact Bool.noConfusion hc | (exfalso;first | exact absurd rfl hc | omega) | (simp only [zl] at hc<;>first | exact absurd rfl hc | (exfalso;first | exact absurd rfl hc | omega) | skip) | skip)) | (refine And.intro zj ?_) | (apply And.intro) | (intro s hs;(first | (have q:=qj hs (zT zd _) hP;clear hs;subst q))) | (refine Exists.intro _ (And.intro ⟨rfl,rfl,rfl⟩ ?_)))
   . exact λ_ _=>⟨rfl,ZG _⟩
   . exact Eq.mpr (congrArg (λz : List Hel=>z.length <= 9223372036854775807) (zT zd _)) (by omega)
   change Sem _ _ _ _ _ _ _ _;refine Zb (wd:=1024) (Q:=qH (qY g0)) (by decide) zN (zb (zY g0)) (zV (zY g0)) zP (SB L 6 (ze sd (c.num - 31)) now c deaf draw) (by intro _;rfl) ?_ ?_
   . repeat' (first | (simp only [w1]) | (apply And.intro<;>intro hc<;>(first | exact Bool.noConfusion hc | (exfalso;first | exact absurd rfl hc | omega) | (simp only [zl] at hc<;>first | exact absurd rfl hc | (exfalso;first | exact absurd rfl hc | omega) | skip) | skip)) | (refine And.intro zj ?_) | (apply And.intro) | (intro s hs;skip) | (refine Exists.intro _ (And.intro ⟨rfl,rfl,rfl⟩ ?_)))
     . exact rfl
     . conv=>whnf
       rw [show ze sd (c.num - 31) = sd from if_pos hc];exact ⟨(),[],rfl,⟨zB rfl,zG rfl,zB rfl,zF rfl,zD (zH rfl rfl),zF rfl,trivial⟩,⟨⟨rfl,zE λj hj=>(qo.sh _ j hj).le⟩,⟨rfl,⟨rfl,rfl,rfl,rfl,λp hp j hj=>Zm hj rfl⟩⟩,⟨rfl,zA⟩,trivial⟩⟩
     . exact ⟨rfl,ZG _⟩
     . exact Eq.mpr (congrArg KpI (zT zd _)) hk
     . conv=>whnf
       have q : sd.held.filter (qU (some (c.num - 31))) = s:=(hs.trans (by rw [zT zd])).symm;clear hs;rw [show ze sd (c.num - 31) = ⟨sd.id,c.num - 31,s⟩ from (if_neg hc).trans (by rw [q])];refine ⟨(),[(2,some 4141)],rfl,⟨zB rfl,zG rfl,zB rfl,zF rfl,zD (zH rfl rfl),zF rfl,trivial⟩,⟨⟨rfl,zE λj hj=>(qo.sh _ j hj).le⟩,⟨rfl,⟨rfl,rfl,rfl,rfl,λp hp j hj=>?_⟩⟩,⟨rfl,zA⟩,trivial⟩⟩;have hj : j < 3:=hj;refine zAN hj (λh=>(ZJ h).trans ((ZJ h).trans (zc h))) λh=>?_;subst h;rcases j with _ | _ | _ | j
       . exact zC rfl
       . exact zC rfl
       . exact zH rfl rfl
       . omega
   . intro _;refine acc3 g0 L 6 (ze sd (c.num - 31)) now c deaf draw ⟨ha,hn,zAP hk,zAQ hh,hnum,hd,hnow,hdr⟩ R ?_;rw [hR];unfold ZX;rw [if_neg hge,hP];cases deaf<;>rfl
theorem acc2_7 (g0 : Nat) (L : List Sed) (a : Nat) (now : Int) (c : Cas) (deaf : Bool) (draw : Int) (hI : AcI L a now c draw) (R : List Sed × Bool × Int) (hR : R = (L.set a (ZX (L.getD a default) now c deaf draw).1,(ZX (L.getD a default) now c deaf draw).2,0)) (a3 : a = 7) :
 Sem Try.prog Try.f11.ntmps 0 (Zc 7 (Try.f11.body.getD Code.ret)) (SA L a now c deaf draw ()).fr (SA L a now c deaf draw ()).H (SA L a now c deaf draw ()).nx (qQ T Try.f11.results.toList λx H _=>FinN (some R.1.length) (Zz R) (Zj ZB 78 R.1) x H):=by
 obtain ⟨ha,hn,hk,hh,hmn,hnum,hd,hnow,hdr⟩:=hI;unfold SA;rw [zBD];obtain ⟨sd,es⟩ : ∃ s,L.getD a default = s:=⟨_,rfl⟩;rw [es] at hk hh hmn hR ⊢;subst a3;refine zK (wd:=1) (Q:=qH (qY g0)) (by decide) zN (zb (zY g0)) zP ?_;repeat' (first | (apply And.intro<;>intro hc<;>(first | exact Bool.noConfusion hc | (exfalso;first | exact absurd rfl hc | omega) | (simp only [zl] at hc<;>first | exact absurd rfl hc | (exfalso;first | exact absurd rfl hc | omega) | skip) | skip)) | (refine And.intro zj ?_) | (apply And.intro) | (intro s hs;skip) | (refine Exists.intro _ (And.intro ⟨rfl,rfl,rfl⟩ ?_)))
 refine zK (wd:=1) (Q:=qH (qY g0)) (by decide) zN (zb (zY g0)) zP ?_;repeat' (first | (apply And.intro<;>intro hc<;>(first | exact Bool.noConfusion hc | (exfalso;first | exact absurd rfl hc | omega) | (simp only [zl] at hc<;>first | exact absurd rfl hc | (exfalso;first | exact absurd rfl hc | omega) | skip) | skip)) | (refine And.intro zj ?_) | (apply And.intro) | (intro s hs;skip) | (refine Exists.intro _ (And.intro ⟨rfl,rfl,rfl⟩ ?_)))
 . refine ZC (s:=sd) (d:=2) (hR.trans ?_) ha rfl (λp h j=>zc h) rfl rfl rfl rfl rfl rfl rfl λq hq j hj=>(zm.sh _ j hj).le;unfold ZX;rw [if_pos hc]
 have hge:=hc;have w1 : IntKind.i64.wrap (c.num - 31) = c.num - 31:=IntWalk.i64_in _ (by omega);obtain ⟨⟨i,b⟩,hP⟩ : ∃ P,ZM c.num sd.held 0 = P:=⟨_,rfl⟩;have hle:=QC (id:=c.num) (L:=sd.held) (k:=0);rw [hP,Nat.zero_add] at hle;dsimp only at hle;obtain ⟨hle1,hle2,_⟩:=hle;cases b with
 | true=>
   have hil:=hle2 rfl;clear hle2;have hR2 : R = (L.set 7 (ZO sd i),false,0):=by
    rw [hR];unfold ZX;rw [if_neg (by omega),hP];rfl
   refine zK (wd:=1) (Q:=qH (qY g0)) (by decide) zN (zb (zY g0)) zP ?_;repeat' (first | (apply And.intro<;>intro hc<;>(first | exact Bool.noConfusion hc | (exfalso;first | exact absurd rfl hc | omega) | (simp only [zl] at hc<;>first | exact absurd rfl hc | (exfalso;first | exact absurd rfl hc | omega) | skip) | skip)) | (refine And.intro zj ?_) | (apply And.intro) | (intro s hs;(first | (have q:=qj hs (zT zd _) hP;clear hs;subst q) | (have q:=zAM hs (Nat.zero_add i);clear hs;subst q))) | (refine Exists.intro _ (And.intro ⟨rfl,rfl,rfl⟩ ?_)))
   . exact λ_ _=>⟨rfl,ZG _⟩
   . exact Eq.mpr (congrArg (λz : List Hel=>z.length <= 9223372036854775807) (zT zd _)) (by omega)
   conv=>whnf
   have hLh : (ZO sd i).held.length = sd.held.length:=List.length_set;refine ZC (s:=ZO sd i) (d:=2) hR2 ha rfl (λp h j=>zc h) rfl rfl (by rw [hLh];rfl) rfl rfl hLh.symm rfl λq hq j hj=>zAO hil hj
 | false=>
   clear hle2;refine zK (wd:=1) (Q:=qH (qY g0)) (by decide) zN (zb (zY g0)) zP ?_;repeat' (first | (apply And.intro<;>intro hc<;>(first | exact Bool.noConfusion hc | (exfalso;first | exact absurd rfl hc | omega) | (simp only [zl] at hc<;>first | exact absurd rfl hc | (exfalso;first | exact absurd rfl hc | omega) | skip) | skip)) | (refine And.intro zj ?_) | (apply And.intro) | (intro s hs;(first | (have q:=qj hs (zT zd _) hP;clear hs;subst q))) | (refine Exists.intro _ (And.intro ⟨rfl,rfl,rfl⟩ ?_)))
   . exact λ_ _=>⟨rfl,ZG _⟩
   . exact Eq.mpr (congrArg (λz : List Hel=>z.length <= 9223372036854775807) (zT zd _)) (by omega)
   change Sem _ _ _ _ _ _ _ _;refine Zb (wd:=1024) (Q:=qH (qY g0)) (by decide) zN (zb (zY g0)) (zV (zY g0)) zP (SB L 7 (ze sd (c.num - 31)) now c deaf draw) (by intro _;rfl) ?_ ?_
   . repeat' (first | (simp only [w1]) | (apply And.intro<;>intro hc<;>(first | exact Bool.noConfusion hc | (exfalso;first | exact absurd rfl hc | omega) | (simp only [zl] at hc<;>first | exact absurd rfl hc | (exfalso;first | exact absurd rfl hc | omega) | skip) | skip)) | (refine And.intro zj ?_) | (apply And.intro) | (intro s hs;skip) | (refine Exists.intro _ (And.intro ⟨rfl,rfl,rfl⟩ ?_)))
     . exact rfl
     . conv=>whnf
       rw [show ze sd (c.num - 31) = sd from if_pos hc];exact ⟨(),[],rfl,⟨zB rfl,zG rfl,zB rfl,zF rfl,zD (zH rfl rfl),zF rfl,trivial⟩,⟨⟨rfl,zE λj hj=>(qo.sh _ j hj).le⟩,⟨rfl,⟨rfl,rfl,rfl,rfl,λp hp j hj=>Zm hj rfl⟩⟩,⟨rfl,zA⟩,trivial⟩⟩
     . exact ⟨rfl,ZG _⟩
     . exact Eq.mpr (congrArg KpI (zT zd _)) hk
     . conv=>whnf
       have q : sd.held.filter (qU (some (c.num - 31))) = s:=(hs.trans (by rw [zT zd])).symm;clear hs;rw [show ze sd (c.num - 31) = ⟨sd.id,c.num - 31,s⟩ from (if_neg hc).trans (by rw [q])];refine ⟨(),[(2,some 4141)],rfl,⟨zB rfl,zG rfl,zB rfl,zF rfl,zD (zH rfl rfl),zF rfl,trivial⟩,⟨⟨rfl,zE λj hj=>(qo.sh _ j hj).le⟩,⟨rfl,⟨rfl,rfl,rfl,rfl,λp hp j hj=>?_⟩⟩,⟨rfl,zA⟩,trivial⟩⟩;have hj : j < 3:=hj;refine zAN hj (λh=>(ZJ h).trans ((ZJ h).trans (zc h))) λh=>?_;subst h;rcases j with _ | _ | _ | j
       . exact zC rfl
       . exact zC rfl
       . exact zH rfl rfl
       . omega
   . intro _;refine acc3 g0 L 7 (ze sd (c.num - 31)) now c deaf draw ⟨ha,hn,zAP hk,zAQ hh,hnum,hd,hnow,hdr⟩ R ?_;rw [hR];unfold ZX;rw [if_neg hge,hP];cases deaf<;>rfl
theorem acc2_8 (g0 : Nat) (L : List Sed) (a : Nat) (now : Int) (c : Cas) (deaf : Bool) (draw : Int) (hI : AcI L a now c draw) (R : List Sed × Bool × Int) (hR : R = (L.set a (ZX (L.getD a default) now c deaf draw).1,(ZX (L.getD a default) now c deaf draw).2,0)) (a3 : a = 8) :
 Sem Try.prog Try.f11.ntmps 0 (Zc 7 (Try.f11.body.getD Code.ret)) (SA L a now c deaf draw ()).fr (SA L a now c deaf draw ()).H (SA L a now c deaf draw ()).nx (qQ T Try.f11.results.toList λx H _=>FinN (some R.1.length) (Zz R) (Zj ZB 78 R.1) x H):=by
 obtain ⟨ha,hn,hk,hh,hmn,hnum,hd,hnow,hdr⟩:=hI;unfold SA;rw [zBD];obtain ⟨sd,es⟩ : ∃ s,L.getD a default = s:=⟨_,rfl⟩;rw [es] at hk hh hmn hR ⊢;subst a3;refine zK (wd:=1) (Q:=qH (qY g0)) (by decide) zN (zb (zY g0)) zP ?_;repeat' (first | (apply And.intro<;>intro hc<;>(first | exact Bool.noConfusion hc | (exfalso;first | exact absurd rfl hc | omega) | (simp only [zl] at hc<;>first | exact absurd rfl hc | (exfalso;first | exact absurd rfl hc | omega) | skip) | skip)) | (refine And.intro zj ?_) | (apply And.intro) | (intro s hs;skip) | (refine Exists.intro _ (And.intro ⟨rfl,rfl,rfl⟩ ?_)))
 refine zK (wd:=1) (Q:=qH (qY g0)) (by decide) zN (zb (zY g0)) zP ?_;repeat' (first | (apply And.intro<;>intro hc<;>(first | exact Bool.noConfusion hc | (exfalso;first | exact absurd rfl hc | omega) | (simp only [zl] at hc<;>first | exact absurd rfl hc | (exfalso;first | exact absurd rfl hc | omega) | skip) | skip)) | (refine And.intro zj ?_) | (apply And.intro) | (intro s hs;skip) | (refine Exists.intro _ (And.intro ⟨rfl,rfl,rfl⟩ ?_)))
 . refine ZC (s:=sd) (d:=2) (hR.trans ?_) ha rfl (λp h j=>zc h) rfl rfl rfl rfl rfl rfl rfl λq hq j hj=>(zm.sh _ j hj).le;unfold ZX;rw [if_pos hc]
 have hge:=hc;have w1 : IntKind.i64.wrap (c.num - 31) = c.num - 31:=IntWalk.i64_in _ (by omega);obtain ⟨⟨i,b⟩,hP⟩ : ∃ P,ZM c.num sd.held 0 = P:=⟨_,rfl⟩;have hle:=QC (id:=c.num) (L:=sd.held) (k:=0);rw [hP,Nat.zero_add] at hle;dsimp only at hle;obtain ⟨hle1,hle2,_⟩:=hle;cases b with
 | true=>
   have hil:=hle2 rfl;clear hle2;have hR2 : R = (L.set 8 (ZO sd i),false,0):=by
    rw [hR];unfold ZX;rw [if_neg (by omega),hP];rfl
   refine zK (wd:=1) (Q:=qH (qY g0)) (by decide) zN (zb (zY g0)) zP ?_;repeat' (first | (apply And.intro<;>intro hc<;>(first | exact Bool.noConfusion hc | (exfalso;first | exact absurd rfl hc | omega) | (simp only [zl] at hc<;>first | exact absurd rfl hc | (exfalso;first | exact absurd rfl hc | omega) | skip) | skip)) | (refine And.intro zj ?_) | (apply And.intro) | (intro s hs;(first | (have q:=qj hs (zT zd _) hP;clear hs;subst q) | (have q:=zAM hs (Nat.zero_add i);clear hs;subst q))) | (refine Exists.intro _ (And.intro ⟨rfl,rfl,rfl⟩ ?_)))
   . exact λ_ _=>⟨rfl,ZG _⟩
   . exact Eq.mpr (congrArg (λz : List Hel=>z.length <= 9223372036854775807) (zT zd _)) (by omega)
   conv=>whnf
   have hLh : (ZO sd i).held.length = sd.held.length:=List.length_set;refine ZC (s:=ZO sd i) (d:=2) hR2 ha rfl (λp h j=>zc h) rfl rfl (by rw [hLh];rfl) rfl rfl hLh.symm rfl λq hq j hj=>zAO hil hj
 | false=>
   clear hle2;refine zK (wd:=1) (Q:=qH (qY g0)) (by decide) zN (zb (zY g0)) zP ?_;repeat' (first | (apply And.intro<;>intro hc<;>(first | exact Bool.noConfusion hc | (exfalso;first | exact absurd rfl hc | omega) | (simp only [zl] at hc<;>first | exact absurd rfl hc | (exfalso;first | exact absurd rfl hc | omega) | skip) | skip)) | (refine And.intro zj ?_) | (apply And.intro) | (intro s hs;(first | (have q:=qj hs (zT zd _) hP;clear hs;subst q))) | (refine Exists.intro _ (And.intro ⟨rfl,rfl,rfl⟩ ?_)))
   . exact λ_ _=>⟨rfl,ZG _⟩
   . exact Eq.mpr (congrArg (λz : List Hel=>z.length <= 9223372036854775807) (zT zd _)) (by omega)
   change Sem _ _ _ _ _ _ _ _;refine Zb (wd:=1024) (Q:=qH (qY g0)) (by decide) zN (zb (zY g0)) (zV (zY g0)) zP (SB L 8 (ze sd (c.num - 31)) now c deaf draw) (by intro _;rfl) ?_ ?_
   . repeat' (first | (simp only [w1]) | (apply And.intro<;>intro hc<;>(first | exact Bool.noConfusion hc | (exfalso;first | exact absurd rfl hc | omega) | (simp only [zl] at hc<;>first | exact absurd rfl hc | (exfalso;first | exact absurd rfl hc | omega) | skip) | skip)) | (refine And.intro zj ?_) | (apply And.intro) | (intro s hs;skip) | (refine Exists.intro _ (And.intro ⟨rfl,rfl,rfl⟩ ?_)))
     . exact rfl
     . conv=>whnf
       rw [show ze sd (c.num - 31) = sd from if_pos hc];exact ⟨(),[],rfl,⟨zB rfl,zG rfl,zB rfl,zF rfl,zD (zH rfl rfl),zF rfl,trivial⟩,⟨⟨rfl,zE λj hj=>(qo.sh _ j hj).le⟩,⟨rfl,⟨rfl,rfl,rfl,rfl,λp hp j hj=>Zm hj rfl⟩⟩,⟨rfl,zA⟩,trivial⟩⟩
     . exact ⟨rfl,ZG _⟩
     . exact Eq.mpr (congrArg KpI (zT zd _)) hk
     . conv=>whnf
       have q : sd.held.filter (qU (some (c.num - 31))) = s:=(hs.trans (by rw [zT zd])).symm;clear hs;rw [show ze sd (c.num - 31) = ⟨sd.id,c.num - 31,s⟩ from (if_neg hc).trans (by rw [q])];refine ⟨(),[(2,some 4141)],rfl,⟨zB rfl,zG rfl,zB rfl,zF rfl,zD (zH rfl rfl),zF rfl,trivial⟩,⟨⟨rfl,zE λj hj=>(qo.sh _ j hj).le⟩,⟨rfl,⟨rfl,rfl,rfl,rfl,λp hp j hj=>?_⟩⟩,⟨rfl,zA⟩,trivial⟩⟩;have hj : j < 3:=hj;refine zAN hj (λh=>(ZJ h).trans ((ZJ h).trans (zc h))) λh=>?_;subst h;rcases j with _ | _ | _ | j
       . exact zC rfl
       . exact zC rfl
       . exact zH rfl rfl
       . omega
   . intro _;refine acc3 g0 L 8 (ze sd (c.num - 31)) now c deaf draw ⟨ha,hn,zAP hk,zAQ hh,hnum,hd,hnow,hdr⟩ R ?_;rw [hR];unfold ZX;rw [if_neg hge,hP];cases deaf<;>rfl
theorem acc2 (g0 : Nat) (L : List Sed) (a : Nat) (now : Int) (c : Cas) (deaf : Bool) (draw : Int) (hI : AcI L a now c draw) (R : List Sed × Bool × Int) (hR : R = (L.set a (ZX (L.getD a default) now c deaf draw).1,(ZX (L.getD a default) now c deaf draw).2,0)) :
 Sem Try.prog Try.f11.ntmps 0 (Zc 7 (Try.f11.body.getD Code.ret)) (SA L a now c deaf draw ()).fr (SA L a now c deaf draw ()).H (SA L a now c deaf draw ()).nx (qQ T Try.f11.results.toList λx H _=>FinN (some R.1.length) (Zz R) (Zj ZB 78 R.1) x H):=by
 have h : a = 0 \/ a = 1 \/ a = 2 \/ a = 3 \/ a = 4 \/ a = 5 \/ a = 6 \/ a = 7 \/ a = 8:=by have:=hI.lt;have:=hI.n;omega
 rcases h with h | h | h | h | h | h | h | h | h
 . exact acc2_0 g0 L a now c deaf draw hI R hR h
 . exact acc2_1 g0 L a now c deaf draw hI R hR h
 . exact acc2_2 g0 L a now c deaf draw hI R hR h
 . exact acc2_3 g0 L a now c deaf draw hI R hR h
 . exact acc2_4 g0 L a now c deaf draw hI R hR h
 . exact acc2_5 g0 L a now c deaf draw hI R hR h
 . exact acc2_6 g0 L a now c deaf draw hI R hR h
 . exact acc2_7 g0 L a now c deaf draw hI R hR h
 . exact acc2_8 g0 L a now c deaf draw hI R hR h
theorem zCV {t : Int} (h : ZD t = true) : 0 <= t /\ t <= 1099511627776:=by
 unfold ZD at h;simp only [Bool.and_eq_true,decide_eq_true_eq] at h;omega
theorem zAT {s V : Bool} {M L : List Sed} (hs : s = ZA M) (h : M = L) (hV : ZA L = V) : V = s:=by rw [hs,h,hV]
theorem rd_fnd {s F : Nat × Bool} {id : Int} {M L : List Sed} (hs : s = Zf id M 0) (h : M = L) (hF : Zf id L 0 = F) : F = s:=by rw [hs,h,hF]
theorem acc1 (L : List Sed) (now : Int) (c : Cas) (deaf : Bool) (draw : Int) (hL : LHn L) (hdr : ZS draw) : zBG Try.prog 11 [(cNS ZB qA).enc L,(cI .i64).enc now,(cN qo).enc c,cB.enc deaf,(cI .u32).enc draw] (some (qD L now c deaf draw).1.length) (Zz (qD L now c deaf draw)) (Zj ZB 78 (qD L now c deaf draw).1):=by
 obtain ⟨R,hR⟩ : ∃ R,qD L now c deaf draw = R:=⟨_,rfl⟩;rw [hR];obtain ⟨g,hg⟩ : ∃ g,(if (Zf c.id L 0).2 = true then (Zf c.id L 0).1 else L.length) = g:=⟨_,rfl⟩;obtain ⟨V,hV⟩ : ∃ V,ZA L = V:=⟨_,rfl⟩;obtain ⟨F,hF⟩ : ∃ F,Zf c.id L 0 = F:=⟨_,rfl⟩;obtain ⟨B,hB⟩ : ∃ B,ZD now = B:=⟨_,rfl⟩;obtain ⟨g1,g2,g3⟩:=zg3;have hV0 : V = false -> R = ([],false,1):=λh=>by rw [<- hR];unfold qD;rw [if_pos (.inl (hV.trans h))]
 have hI0 : c.id = 0 -> R = ([],false,1):=λh=>by rw [<- hR];unfold qD;rw [if_pos (.inr (.inl h))]
 have hD0 : 64 < c.data.length -> R = ([],false,1):=λh=>by rw [<- hR];unfold qD;rw [if_pos (.inr (.inr h))]
 have h1 : V = true -> ¬ c.id = 0 -> ¬ 64 < c.data.length -> R = if ZD now = false \/ c.num < 0 \/ 1073741824 <= c.num then ([],false,2) else
  if F.2 = false /\ 8 <= L.length then ([],false,10) else
  ((Qn c L).set F.1 (ZX ((Qn c L).getD F.1 default) now c deaf draw).1,(ZX ((Qn c L).getD F.1 default) now c deaf draw).2,0):=λha hb hd=>by
  rw [<- hR];unfold qD;rw [if_neg (by rw [hV,ha];simp;omega),hF]
 clear hR;refine zBC zN Try.func11 rfl _ (by show 5 <= _;decide) (λi _ j hj=>zB4 _ hj) ?_;refine zK (wd:=1) (Q:=qH (qY g)) (by decide) zN (zb (zY g)) zP ?_;refine zK (wd:=1) (Q:=qH (qY g)) (by decide) zN (zb (zY g)) zP ?_;repeat' (first | (apply And.intro<;>intro hc<;>(first | exact Bool.noConfusion hc | (exfalso;first | exact absurd rfl hc) | (simp only [zl] at hc<;>first | exact absurd rfl hc | (exfalso;first | exact absurd rfl hc) | skip) | skip)) | (refine And.intro zj ?_) | (apply And.intro) | (intro s hs;(have q : V = s:=zAT hs (zr ZL _) hV;clear hs;subst q)) | (refine Exists.intro _ (And.intro ⟨rfl,rfl,rfl⟩ ?_)))
 . exact λ_ _=>⟨rfl,Zy _⟩
 . exact Eq.mpr (congrArg LHn (zr ZL _)) hL
 . exact qc (hV0 ‹_›)
 . exact qc (hI0 ‹_›)
 . exact qc (hD0 (by omega))
 rename_i hi;have h2:=h1 ‹_› hi (by omega);clear h1 hV0 hI0 hD0;refine zK (wd:=1) (Q:=qH (qY g)) (by decide) zN (zb (zY g)) zP ?_;repeat' (first | (apply And.intro<;>intro hc<;>(first | exact Bool.noConfusion hc | (exfalso;first | exact absurd rfl hc) | (simp only [zl] at hc<;>first | exact absurd rfl hc | (exfalso;first | exact absurd rfl hc) | skip) | skip)) | (refine And.intro zj ?_) | (apply And.intro) | (intro s hs;(have q : B = s:=hB.symm.trans hs.symm;clear hs;subst q)) | (refine Exists.intro _ (And.intro ⟨rfl,rfl,rfl⟩ ?_)))
 . exact qc (h2.trans (if_pos (.inl (hB.trans ‹_›))))
 . exact qc (h2.trans (if_pos (.inr (.inl ‹_›))))
 . exact qc (h2.trans (if_pos (.inr (.inr hc))))
 rename_i hn;have h3:=h2.trans (if_neg (by rw [hB,show B = true by assumption];simp;omega));clear h2;have hVt : ZA L = true:=hV.trans ‹_›;have hCl:=vl_cl hVt;have hl8:=Zv hVt;refine zK (wd:=1) (Q:=qH (qY g)) (by decide) zN (zb (zY g)) zP ?_;repeat' (first | (apply And.intro<;>intro hc<;>(first | exact Bool.noConfusion hc | (exfalso;first | exact absurd rfl hc) | (simp only [zl] at hc<;>first | exact absurd rfl hc | (exfalso;first | exact absurd rfl hc) | skip) | skip)) | (refine And.intro zj ?_) | (apply And.intro) | (intro s hs;(have q : F = s:=rd_fnd hs (zr ZL _) hF;clear hs;subst q)) | (refine Exists.intro _ (And.intro ⟨rfl,rfl,rfl⟩ ?_)))
 . exact λ_ _=>⟨rfl,Zy _⟩
 . exact Eq.mpr (congrArg (λz : List Sed=>z.length <= 9223372036854775807) (zr ZL _)) hL.n
 refine zK (wd:=1) (Q:=qH (qY g)) (by decide) zN (zb (zY g)) zP ?_;repeat' (first | (apply And.intro<;>intro hc<;>(first | exact Bool.noConfusion hc | (exfalso;first | exact absurd rfl hc) | (simp only [zl] at hc<;>first | exact absurd rfl hc | (exfalso;first | exact absurd rfl hc) | skip) | skip)) | (refine And.intro zj ?_) | (apply And.intro) | (intro s hs;skip) | (refine Exists.intro _ (And.intro ⟨rfl,rfl,rfl⟩ ?_)))
 . exact qc (h3.trans (if_pos ⟨by assumption,by omega⟩))
 . rename_i hu;have h4:=h3.trans (if_neg (by omega));clear h3;rw [hF,if_neg (by rw [hu];simp)] at hg;have eA : Qn c L = Zn F.1 ⟨c.id,c.num,[]⟩ L:=by
    unfold Qn;rw [hF,if_neg (by rw [hu];simp)]
   obtain ⟨f1,_,_⟩:=zAU (id:=c.id) (L:=L) (k:=0);rw [hF,Nat.zero_add] at f1;have w1 : IntKind.i64.wrap ((F.1 : Int) + 1) = ((F.1 + 1 : Nat) : Int):=(IntWalk.i64_in _ (by omega)).trans (by omega);refine zK (wd:=2) (Q:=qH (qY g)) (by decide) zN (zb (zY g)) zP ?_;repeat' (first | (apply And.intro<;>intro hc<;>(first | exact Bool.noConfusion hc | (exfalso;first | exact absurd rfl hc) | (simp only [zl] at hc<;>first | exact absurd rfl hc | (exfalso;first | exact absurd rfl hc) | skip) | skip)) | (refine And.intro zj ?_) | (apply And.intro) | (intro s hs;(have q : L = s:=(hs.trans (zr ZL _)).symm;clear hs;subst q)) | (refine Exists.intro _ (And.intro ⟨rfl,rfl,rfl⟩ ?_)))
   . exact λ_ _=>⟨rfl,Zy _⟩
   . exact Eq.mpr (congrArg ClI (zr ZL _)) hCl
   change Sem _ _ _ _ _ _ _ _;refine Zb (wd:=1) (Q:=qH (qY g)) (by decide) zN (zb (zY g)) (zV (zY g)) zP (SA (Qn c L) F.1 now c deaf draw) (by intro _;rfl) ?_ ?_
   . repeat' (first | (simp only [w1]) | (apply And.intro<;>intro hc<;>(first | exact Bool.noConfusion hc | (exfalso;first | exact absurd rfl hc | (rw [hu] at hc;exact Bool.noConfusion hc)) | (simp only [zl] at hc<;>first | exact absurd rfl hc | (exfalso;first | exact absurd rfl hc | (rw [hu] at hc;exact Bool.noConfusion hc)) | skip) | skip)) | (refine And.intro zj ?_) | (apply And.intro) | (intro s hs;skip) | (refine Exists.intro _ (And.intro ⟨rfl,rfl,rfl⟩ ?_)))
     conv=>whnf
     refine ⟨(),[(1,some 58),(2,none)],rfl,⟨zB rfl,zG rfl,zB rfl,zF rfl,zB rfl,zD (zH rfl (by rw [eA,qf f1])),trivial⟩,⟨⟨rfl,zE λj hj=>(qo.sh _ j hj).le⟩,⟨rfl,⟨rfl,by show L.length + 1 = (Qn c L).length;rw [eA,qf f1],rfl,rfl,λp hp j hj=>?_⟩⟩,?_,trivial⟩⟩
     . have hj : j < 3:=hj;have hp : p < L.length + 1:=hp;show Zu _ _ (zBs 2 F.1 (Qn c L) p j);refine YD (r:=zBs 50 g L) f1 ?_ hp (λh=>?_) (λh=>?_) (λh=>?_)
       . show min (L.length + 1 - F.1) (L.length + 1 - (F.1 + 1)) = _;omega
       . rw [Yd (.inl (by omega)),Yd (.inl (by omega)),eA,show zo ZB (Zn F.1 ⟨c.id,c.num,[]⟩ L) p j = zo ZB L p j from congrArg (λz=>ZB.cell z j) (Yb f1 h)];exact (ZB.sh _ j hj).le
       . subst h;rcases j with _ | _ | _ | j
         . rw [Yd (.inr (by decide)),eA,show zo ZB (Zn F.1 ⟨c.id,c.num,[]⟩ L) F.1 0 = _ from congrArg (λz=>ZB.cell z 0) (QD f1)];exact zC rfl
         . rw [Yd (.inr (by decide)),eA,show zo ZB (Zn F.1 ⟨c.id,c.num,[]⟩ L) F.1 1 = _ from congrArg (λz=>ZB.cell z 1) (QD f1)];exact zC rfl
         . rw [zCX,eA,QD f1];exact Zh rfl
         . omega
       . rw [Yd (.inl (by omega)),Yd (.inl (by omega)),eA,show zo ZB (Zn F.1 ⟨c.id,c.num,[]⟩ L) p j = zo ZB L (p - 1) j from congrArg (λz=>ZB.cell z j) (Yc f1 h)];exact (ZB.sh _ j hj).le
     . rw [eA,QD f1];exact ⟨rfl,rfl,rfl,Nat.le_of_ble_eq_true rfl⟩
   . intro _;refine acc2 g (Qn c L) F.1 now c deaf draw ⟨?_,?_,?_,?_,?_,⟨by omega,by omega⟩,by omega,zCV (hB.trans ‹_›),hdr⟩ R h4
     . rw [eA,qf f1];omega
     . rw [eA,qf f1];omega
     . rw [eA,QD f1];exact ⟨Nat.zero_le _,λx hx=>by cases hx⟩
     . rw [eA,QD f1];exact Nat.zero_le _
     . rw [eA,QD f1];exact ⟨by dsimp only;omega,by dsimp only;omega⟩
 . rename_i hu;have h4:=h3.trans (if_neg (by rw [hu];simp));clear h3;rw [hF,if_pos hu] at hg;have eA : Qn c L = L:=by
    unfold Qn;rw [hF,if_pos hu]
   obtain ⟨_,f2,_⟩:=zAU (id:=c.id) (L:=L) (k:=0);rw [hF,Nat.zero_add] at f2;have hlt:=f2 hu;refine zK (wd:=2) (Q:=qH (qY g)) (by decide) zN (zb (zY g)) zP ?_;repeat' (first | (apply And.intro<;>intro hc<;>(first | exact Bool.noConfusion hc | (exfalso;first | exact absurd rfl hc) | (simp only [zl] at hc<;>first | exact absurd rfl hc | (exfalso;first | exact absurd rfl hc) | skip) | skip)) | (refine And.intro zj ?_) | (apply And.intro) | (intro s hs;(have q : L = s:=(hs.trans (zr ZL _)).symm;clear hs;subst q)) | (refine Exists.intro _ (And.intro ⟨rfl,rfl,rfl⟩ ?_)))
   . exact λ_ _=>⟨rfl,Zy _⟩
   . exact Eq.mpr (congrArg ClI (zr ZL _)) hCl
   change Sem _ _ _ _ _ _ _ _;refine Zb (wd:=1) (Q:=qH (qY g)) (by decide) zN (zb (zY g)) (zV (zY g)) zP (SA (Qn c L) F.1 now c deaf draw) (by intro _;rfl) ?_ ?_
   . repeat' (first | (apply And.intro<;>intro hc<;>(first | exact Bool.noConfusion hc | (exfalso;first | exact absurd rfl hc | (rw [hu] at hc;exact Bool.noConfusion hc)) | (simp only [zl] at hc<;>first | exact absurd rfl hc | (exfalso;first | exact absurd rfl hc | (rw [hu] at hc;exact Bool.noConfusion hc)) | skip) | skip)) | (refine And.intro zj ?_) | (apply And.intro) | (intro s hs;skip) | (refine Exists.intro _ (And.intro ⟨rfl,rfl,rfl⟩ ?_)))
     conv=>whnf
     rw [eA];subst hg;exact ⟨(),[(1,some 49),(2,some 50)],rfl,⟨zB rfl,zG rfl,zB rfl,zF rfl,zB rfl,zD (zH rfl rfl),trivial⟩,⟨⟨rfl,zE λj hj=>(qo.sh _ j hj).le⟩,⟨rfl,⟨rfl,rfl,rfl,rfl,λp hp j hj=>zDG hj λ_=>rfl⟩⟩,⟨rfl,zA⟩,trivial⟩⟩
   . intro _;have hS:=(qq hVt _ (QV hlt)).2;refine acc2 g (Qn c L) F.1 now c deaf draw ⟨?_,?_,?_,?_,?_,⟨by omega,by omega⟩,by omega,zCV (hB.trans ‹_›),hdr⟩ R h4
     . rw [eA];exact hlt
     . rw [eA];omega
     . rw [eA];exact hS.k
     . rw [eA];exact hS.n
     . rw [eA];exact hS.mn
structure AccP (L : List Sed) (d : Int) : Prop where
 h : LHn L
 d : ZS d
abbrev acceptE : Zk:=newE (AC.cons (cNS ZB qA) (AC.cons (cI .i64) (AC.cons (cN qo) (AC.cons cB (AC.cons (cI .u32) AC.nil))))) (λa=>AccP a.1 a.2.2.2.2.1) (λa=>qD a.1 a.2.1 a.2.2.1 a.2.2.2.1 a.2.2.2.2.1) (λs=>some s.1.length) Zz (λs=>Zj ZB 78 s.1)
theorem zGL : EntOk Try.prog 11 acceptE:=zA2 ⟨_,Try.func11,rfl,by kernel_rfl⟩ (λs l h x hx=>by
 injection h with h;subst h;rcases List.mem_cons.1 hx with rfl | hx
 . exact zCy zB7
 . rcases List.mem_cons.1 hx with rfl | hx
   . exact zCy zA1
   . cases hx) λa h=>acc1 a.1 a.2.1 a.2.2.1 a.2.2.2.1 a.2.2.2.2.1 h.h h.d
theorem vl_hn {L : List Sed} (h : ZA L = true) : LHn L:=⟨λx hx=>by have:=(qq h x hx).2.n;omega,by have:=Zv h;omega⟩
theorem okD_nil : okD .nils:=by first | exact trivial | exact .nils | exact .inl rfl | exact rfl
def kc35 : Cas:=⟨7,5,[1]⟩
def ka35 : List Sed × Bool × Int:=qD [] 3 kc35 false 0
def kb35 : List Sed × Bool × Int:=qD ka35.1 4 kc35 false 0
def kd35 : List Sed × Bool × Int:=qD kb35.1 4 ⟨7,4,[]⟩ false 0
theorem kn35 : ka35.2 = (true,0) /\ kb35.2 = (false,0) /\ kd35.2 = (false,0) /\ kb35.1.length = 1 /\ (kb35.1.getD 0 default).held.length = 1 /\ ((kb35.1.getD 0 default).held.getD 0 default).tm.heard = 1:=by decide +kernel
theorem rd_acc {s K : List Sed × Bool × Int} {M L : List Sed} {now : Int} {c c' : Cas} {deaf : Bool} {draw : Int} (hs : s = qD M now c' deaf draw) (h : M = L) (hc : c' = c) (hK : qD L now c deaf draw = K) : K = s:=by rw [hs,h,hc,hK]
def LMd : CsL:=(11,some acceptE) :: []
theorem zE8 : qV Try.prog LMd:=⟨zGL,trivial⟩
def SKn (_ : Unit) : Hd:=⟨[(1,zL (.ptr 0 0 0 false))],[(0,some ⟨32,1,3,true,λ_=>qo.cell kc35⟩)],1⟩
theorem dr0 : ZS 0:=by unfold ZS;omega
theorem zGK : Ze Try.prog 12 [] (cB.enc true):=by
 obtain ⟨k1,k2,k3,k4,k5,k6⟩:=kn35;have v1 : LHn ka35.1:=vl_hn (zBy (by decide) (congrArg Prod.snd k1));have v2 : LHn kb35.1:=vl_hn (zBy (by decide) (congrArg Prod.snd k2));obtain ⟨A,eA⟩ : ∃ A,ka35 = A:=⟨_,rfl⟩;obtain ⟨B,eB'⟩ : ∃ A,kb35 = A:=⟨_,rfl⟩;obtain ⟨D,eD⟩ : ∃ A,kd35 = A:=⟨_,rfl⟩;have hA : qD [] 3 kc35 false 0 = A:=eA;have hB : qD A.1 4 kc35 false 0 = B:=by rw [<- eA];exact eB'
 have hD : qD B.1 4 ⟨7,4,[]⟩ false 0 = D:=by rw [<- eB'];exact eD
 rw [eA] at k1 v1;rw [eB'] at k2 k4 k5 k6 v2;rw [eD] at k3;clear eA eB' eD;obtain ⟨a1,a2,a3⟩:=A;obtain ⟨b1,b2,b3⟩:=B;obtain ⟨d1,d2,d3⟩:=D;dsimp only at k1 k2 k3 k4 k5 k6 v1 v2;injection k1 with k1 k1';injection k2 with k2 k2';injection k3 with k3 k3';subst k1 k1' k2 k2' k3 k3';refine zC7 zN Try.func12 rfl _ (by show 0 <= _;decide) _ ?_;refine zK (wd:=1) (by decide) zN (zb zE8) zP ?_;change Sem _ _ _ _ _ _ _ _;refine Zb (wd:=1) (by decide) zN (zb zE8) (zV zE8) zP SKn (by intro _;rfl) ?_ ?_
 . conv=>whnf
   refine ⟨(),[(0,some 3)],rfl,⟨zF rfl,trivial⟩,⟨⟨rfl,zE λj hj=>?_⟩,trivial⟩⟩;rcases j with _ | _ | _ | j
   . exact zC rfl
   . exact zC rfl
   . refine ZQ rfl rfl rfl rfl (Nat.le_refl _) λq hq j hj=>?_;rcases q with _ | q
     . rcases j with _ | j
       . exact zC rfl
       . exact absurd hj (by show ¬ _ < 1;omega)
     . exact absurd hq (by omega)
   . exact absurd hj (by show ¬ _ < 3;omega)
 intro _;refine QB (wd:=1) (by decide) zN (zb zE8) zP ?_;repeat' (first | (apply And.intro<;>intro hc<;>(first | exact Bool.noConfusion hc | (exfalso;first | exact absurd rfl hc | omega) | (simp only [zl] at hc<;>first | exact absurd rfl hc | (exfalso;first | exact absurd rfl hc | omega) | skip) | skip)) | (refine And.intro zj ?_) | (apply And.intro) | (intro s hs;(first | (have q:=rd_acc hs rfl (zEi _) hA;clear hs;subst q) | (have q:=rd_acc hs (zT ZL _) (zEi _) hB;clear hs;subst q) | (have q:=rd_acc hs (zT ZL _) rfl hD;clear hs;subst q))) | (refine Exists.intro _ (And.intro ⟨rfl,rfl,rfl⟩ ?_)))
 . exact ⟨rfl,ZG _⟩
 . exact ⟨⟨λx hx=>(List.not_mem_nil hx).elim,Nat.zero_le _⟩,dr0⟩
 . exact λ_ _=>⟨rfl,Zy _⟩
 . exact ⟨rfl,ZG _⟩
 . exact ⟨Eq.mpr (congrArg LHn (zT ZL _)) v1,dr0⟩
 . exact λ_ _=>⟨rfl,Zy _⟩
 . exact ⟨rfl,okD_nil⟩
 . exact ⟨Eq.mpr (congrArg LHn (zT ZL _)) v2,dr0⟩
 . conv=>whnf
   exact Done.mk (zG (decide_eq_true k6))
 . exact absurd (congrArg (λn : Nat=>(n : Int)) k5) hc
abbrev zFh : Zk:=qr AC.nil (λ_=>True) (λ_=>true) cB.enc
theorem zFi : EntOk Try.prog 12 zFh:=zx ⟨_,Try.func12,rfl,by kernel_rfl⟩ λa _=>zGK
structure LHp (L : List Sed) : Prop where
 h : LHn L
 i : ∀ x ∈ L,0 <= x.id
def zAF (L : List Sed) (i : Nat) : Int:=if i = 0 then 0 else (L.getD (i - 1) default).id
def zCu (mn : Int) (L : List Hel) (k : Nat) : Int:=if k = 0 then mn - 1 else (L.getD (k - 1) default).num
structure RvI (L : List Hel) (mn : Int) (V : Bool) where
 k : Nat
 hk : k <= L.length
 hV : ZY mn (zCu mn L k) (L.drop k) = V
 hg : k ≠ 0 -> mn <= (L.getD (k - 1) default).num
def LRa : CsL:=(69,some zCo) :: (63,some zC5) :: []
theorem zEf : qV Try.prog LRa:=⟨zx ⟨_,Try.func69,rfl,by kernel_rfl⟩ λa h=>TkR.valid_ok _,zx ⟨_,Try.func63,rfl,by kernel_rfl⟩ λa _=>TkR.tkTime_ok a.1,trivial⟩
structure RvN (L : List Hel) (mn : Int) (k : Nat) (V : Bool) : Prop where
 n1 : (L.getD k default).num < mn -> false = V
 n2 : mn + 31 < (L.getD k default).num -> false = V
 n3 : 1073741824 <= (L.getD k default).num -> false = V
 n4 : 64 < (L.getD k default).data.length -> false = V
 n5 : ZN (L.getD k default).tm = false -> false = V
 n6 : ZD (L.getD k default).til = false -> false = V
 n7 : k ≠ 0 -> (L.getD k default).num <= (L.getD (k - 1) default).num -> false = V
 y : ¬ (L.getD k default).num < mn -> ¬ mn + 31 < (L.getD k default).num -> ¬ 1073741824 <= (L.getD k default).num -> ¬ 64 < (L.getD k default).data.length -> ZN (L.getD k default).tm = true -> ZD (L.getD k default).til = true -> (k = 0 \/ ¬ (L.getD k default).num <= (L.getD (k - 1) default).num) -> ZY mn (zCu mn L (k + 1)) (L.drop (k + 1)) = V
theorem rv_step {L : List Hel} {mn : Int} {V : Bool} {k : Nat} (hk : k < L.length) (hV : ZY mn (zCu mn L k) (L.drop k) = V) (hg : k ≠ 0 -> mn <= (L.getD (k - 1) default).num) : RvN L mn k V:=by
 have hs:=vh_step hk hV;have hp : mn - 1 <= zCu mn L k:=by
  unfold zCu;split
  . exact Int.le_refl _
  . have:=hg ‹_›;omega
 have e : ∀ {a b c d e f g : Bool},V = (a && b && c && d && e && f && g) -> (a = false \/ b = false \/ c = false \/ d = false \/ e = false \/ f = false) -> false = V:=by
  intro a b c d e f g h h2;rw [h];rcases h2 with rfl | rfl | rfl | rfl | rfl | rfl<;>simp
 refine ⟨λg=>e hs (.inl (decide_eq_false (by omega))),λg=>e hs (.inr (.inl (decide_eq_false (by omega)))),λg=>e hs (.inr (.inr (.inl (decide_eq_false (by omega))))),λg=>e hs (.inr (.inr (.inr (.inl (decide_eq_false (by omega)))))),λg=>e hs (.inr (.inr (.inr (.inr (.inl g))))),λg=>e hs (.inr (.inr (.inr (.inr (.inr g))))),λg1 g2=>e hs (.inl (decide_eq_false (by unfold zCu;rw [if_neg g1];omega))),λg1 g2 g3 g4 g5 g6 g7=>?_⟩;rw [hs];show ZY mn (L.getD k default).num (L.drop (k + 1)) = _;rw [decide_eq_true (p:=zCu mn L k < (L.getD k default).num) (by
  unfold zCu;split
  . omega
  . rcases g7 with g7 | g7
    . exact absurd g7 ‹_›
    . omega),decide_eq_true (p:=(L.getD k default).num < mn + 32) (by omega),decide_eq_true (p:=(L.getD k default).num < 1073741824) (by omega),decide_eq_true (p:=(L.getD k default).data.length <= 64) (by omega),g5,g6]
 simp
theorem prevI_nn {L : List Sed} (hL : LHp L) {i : Nat} (hi : i <= L.length) : 0 <= zAF L i:=by
 unfold zAF;split
 . exact Int.le_refl _
 . exact hL.i _ (zw (by omega))
theorem zBf (L : List Sed) (hL : LHp L) : Ze Try.prog 40 [(cNS ZB qA).enc L] (cB.enc (ZA L)):=by
 have hn:=hL.h.n;unfold ZA;obtain ⟨V,hV⟩ : ∃ V,qE 0 L = V:=⟨_,rfl⟩;rw [hV];refine zt (wd:=1) (by decide) zN (zb zEf) zP Try.func40 rfl _ (by show 1 <= _;decide) _ ?_;repeat' (first | (apply And.intro<;>intro hc<;>(first | exact Bool.noConfusion hc | (exfalso;first | exact absurd rfl hc | omega) | (simp only [zl] at hc<;>first | exact absurd rfl hc | (exfalso;first | exact absurd rfl hc | omega) | skip) | skip)) | (refine And.intro zj ?_) | (apply And.intro) | (intro s hs;skip))
 . refine Done.mk (zG ?_);rw [decide_eq_false (p:=L.length <= 8) (by omega)];rfl
 have hl8 : L.length <= 8:=by omega
 rw [decide_eq_true (p:=L.length <= 8) hl8,Bool.true_and];conv=>whnf
 refine zU (zV zEf) (λs : {i : Nat // i <= L.length /\ qE (zAF L i) (L.drop i) = V}=>(⟨[(0,zL (ZT ZB L)),(10,zL (ZT ZB L)),(11,zL (.int .i64 (L.length : Int))),(12,zL (.int .i64 (s.1 : Int)))],[],1⟩ : Hd)) (λs=>L.length - s.1) (λ_=>rfl) ?_ ⟨0,Nat.zero_le _,hV⟩ [] ⟨rfl,⟨zD (zJ (zI L)),zD (zJ (zI L)),zB rfl,zB rfl,trivial⟩,trivial⟩;rintro ⟨i,hi,hVi⟩;dsimp only at hi hVi ⊢;unfold ZT;by_cases hil : i < L.length
 . have hst:=vs_step hil hVi;obtain ⟨x,ex⟩ : ∃ x,L.getD i default = x:=⟨_,rfl⟩;have hx0 : 0 <= x.id:=by rw [<- ex];exact hL.i _ (zw hil)
   have hxn : x.held.length <= 9223372036854775807:=by rw [<- ex];exact hL.h.h _ (zw hil)
   rw [ex] at hst;have z0 : (i : Int).toNat = i:=rfl;have zi : ((i : Int) - 1).toNat = i - 1:=by omega
   have ec : zo ZB L i = ZB.cell x:=congrArg ZB.cell ex;have w3 : IntKind.i64.wrap ((i : Int) + 1) = ((i + 1 : Nat) : Int):=(IntWalk.i64_in _ (by omega)).trans (by omega);have w4 : IntKind.i64.wrap ((i : Int) - 1) = (i : Int) - 1:=IntWalk.i64_in _ (by omega);repeat' (first | (simp only [z0,ec,w4]) | (apply And.intro<;>intro hc<;>(first | exact Bool.noConfusion hc | (exfalso;first | exact absurd rfl hc | omega) | (simp only [zl] at hc<;>first | exact absurd rfl hc | (exfalso;first | exact absurd rfl hc | omega) | skip) | skip)) | (refine And.intro zj ?_) | (apply And.intro) | (intro s hs;skip))
   . refine Done.mk (zG ?_);have : x.id = 0:=by assumption
     rw [hst,decide_eq_false (p:=zAF L i < x.id) (by have:=prevI_nn hL (by omega : i <= L.length);omega)];rfl
   . refine Done.mk (zG ?_);rw [hst];unfold qb;rw [decide_eq_false (p:=0 <= x.mn) (by omega)];simp
   . refine Done.mk (zG ?_);rw [hst];unfold qb;rw [decide_eq_false (p:=x.mn <= 1073741824) (by omega)];simp
   . refine Done.mk (zG ?_);rw [hst];unfold qb;rw [decide_eq_false (p:=x.held.length <= 32) (by omega)];simp
   . refine Done.mk (zG ?_);rw [hst,decide_eq_false (p:=zAF L i < x.id) (by unfold zAF;rw [if_neg (by omega)];have h:=hc;rw [zi] at h;omega)];rfl
   . have hle2 : zAF L i < x.id:=by unfold zAF;rw [if_neg (by omega)];have h:=hc;rw [zi] at h;omega
     have hVe : V = (ZY x.mn (x.mn - 1) x.held && qE x.id (L.drop (i + 1))):=by
      rw [hst,decide_eq_true (p:=zAF L i < x.id) hle2];unfold qb;rw [decide_eq_true (p:=0 <= x.mn) (by omega),decide_eq_true (p:=x.mn <= 1073741824) (by omega),decide_eq_true (p:=x.held.length <= 32) (by omega)];simp
     obtain ⟨U,hU⟩ : ∃ U,ZY x.mn (x.mn - 1) x.held = U:=⟨_,rfl⟩;rw [hU] at hVe;have hUf : false = U -> false = V:=λh=>by rw [hVe,<- h];rfl
     have hx32 : x.held.length <= 32:=by omega
     have hm0 : 0 <= x.mn:=by omega
     have hm1 : x.mn <= 1073741824:=by omega
     conv=>whnf
     refine zU (zV zEf) (λs : RvI x.held x.mn U=>(⟨[(0,zL (ZT ZB L)),(10,zL (ZT ZB L)),(11,zL (.int .i64 (L.length : Int))),(12,zL (.int .i64 (i : Int))),(4,zL (.ptr 1 0 0 false)),(52,zL (slN zm x.held)),(53,zL (.int .i64 (x.held.length : Int))),(54,zL (.int .i64 (s.k : Int)))],[(1,some ⟨78,1,3,true,λ_=>ZB.cell x⟩)],2⟩ : Hd)) (λs=>x.held.length - s.k) (λ_=>rfl) ?_ ⟨0,Nat.zero_le _,hU,λh=>absurd rfl h⟩ [(1,some 5)] ⟨rfl,⟨zD (zJ (zI L)),zD (zJ (zI L)),zB rfl,zB rfl,zF rfl,zD (qK _).le,zB rfl,zB rfl,trivial⟩,⟨rfl,zE λj hj=>(ZB.sh _ j hj).le⟩,trivial⟩;rintro ⟨k,hk,hVk,hgk⟩;dsimp only at hk hVk hgk ⊢;by_cases hkl : k < x.held.length
     . have hr:=rv_step hkl hVk hgk;have zk : (k : Int).toNat = k:=rfl;have w5 : IntKind.i64.wrap ((k : Int) + 1) = ((k + 1 : Nat) : Int):=(IntWalk.i64_in _ (by omega)).trans (by omega);have w6 : IntKind.i64.wrap ((k : Int) - 1) = (k : Int) - 1:=IntWalk.i64_in _ (by omega);have w7 : IntKind.i64.wrap (x.mn + 31) = x.mn + 31:=IntWalk.i64_in _ (by omega);have zp : ((k : Int) - 1).toNat = k - 1:=by omega
       obtain ⟨h,eh⟩ : ∃ h,x.held.getD k default = h:=⟨_,rfl⟩;have eck : zo zm x.held k = zm.cell h:=congrArg zm.cell eh;obtain ⟨n1,n2,n3,n4,n5,n6,n7,ny⟩:=hr;rw [eh] at n1 n2 n3 n4 n5 n6 n7 ny;obtain ⟨A,eA⟩ : ∃ A,ZN h.tm = A:=⟨_,rfl⟩;obtain ⟨B,eB'⟩ : ∃ A,ZD h.til = A:=⟨_,rfl⟩;rw [eA] at n5 ny;rw [eB'] at n6 ny;repeat' (first | (simp only [zk,eck,w6,w7,zp]) | (apply And.intro<;>intro hc<;>(first | exact Bool.noConfusion hc | (exfalso;first | exact absurd rfl hc | omega) | (simp only [zl] at hc<;>first | exact absurd rfl hc | (exfalso;first | exact absurd rfl hc | omega) | skip) | skip)) | (refine And.intro zj ?_) | (apply And.intro) | (intro s hs;(first | (have q : A = s:=eA.symm.trans hs.symm;clear hs;subst q) | (have q : B = s:=eB'.symm.trans hs.symm;clear hs;subst q))))
       . exact Done.mk (zG (hUf (n1 (by omega))))
       . exact Done.mk (zG (hUf (n2 (by omega))))
       . exact Done.mk (zG (hUf (n3 (by omega))))
       . exact Done.mk (zG (hUf (n4 (by omega))))
       . exact Done.mk (zG (hUf (n5 ‹_›)))
       . exact Done.mk (zG (hUf (n6 ‹_›)))
       . exact Done.mk (zG (hUf (n7 (by omega) (by omega))))
       . conv=>whnf
         exact ⟨⟨k + 1,hkl,ny (by omega) (by omega) (by omega) (by omega) ‹_› ‹_› (.inr (by omega)),λ_=>by show x.mn <= (x.held.getD k default).num;rw [eh];omega⟩,[],by dsimp only;omega,rfl,⟨zD (zJ (zI L)),zD (zJ (zI L)),zB rfl,zB rfl,zF rfl,zD (qK _).le,zB rfl,zB w5,trivial⟩,⟨rfl,zE λj hj=>(ZB.sh _ j hj).le⟩,trivial⟩
       . conv=>whnf
         exact ⟨⟨k + 1,hkl,ny (by omega) (by omega) (by omega) (by omega) ‹_› ‹_› (.inl (by omega)),λ_=>by show x.mn <= (x.held.getD k default).num;rw [eh];omega⟩,[],by dsimp only;omega,rfl,⟨zD (zJ (zI L)),zD (zJ (zI L)),zB rfl,zB rfl,zF rfl,zD (qK _).le,zB rfl,zB w5,trivial⟩,⟨rfl,zE λj hj=>(ZB.sh _ j hj).le⟩,trivial⟩
     . have hUt : U = true:=by rw [<- hVk,List.drop_of_length_le (by omega)];rfl
       have hnx : qE (zAF L (i + 1)) (L.drop (i + 1)) = V:=by rw [hVe,hUt,Bool.true_and];unfold zAF;rw [if_neg (Nat.succ_ne_zero i),Nat.add_sub_cancel,ex]
       repeat' (first | (apply And.intro<;>intro hc<;>(first | exact Bool.noConfusion hc | (exfalso;first | exact absurd rfl hc | omega) | (simp only [zl] at hc<;>first | exact absurd rfl hc | (exfalso;first | exact absurd rfl hc | omega) | skip) | skip)) | (refine And.intro zj ?_) | (apply And.intro) | (intro s hs;skip))
       conv=>whnf
       exact ⟨⟨i + 1,hil,hnx⟩,[],by dsimp only;omega,rfl,⟨zD (zJ (zI L)),zD (zJ (zI L)),zB rfl,zB w3,trivial⟩,trivial⟩
   . have hle2 : zAF L i < x.id:=by unfold zAF;rw [if_pos (by omega)];omega
     have hVe : V = (ZY x.mn (x.mn - 1) x.held && qE x.id (L.drop (i + 1))):=by
      rw [hst,decide_eq_true (p:=zAF L i < x.id) hle2];unfold qb;rw [decide_eq_true (p:=0 <= x.mn) (by omega),decide_eq_true (p:=x.mn <= 1073741824) (by omega),decide_eq_true (p:=x.held.length <= 32) (by omega)];simp
     obtain ⟨U,hU⟩ : ∃ U,ZY x.mn (x.mn - 1) x.held = U:=⟨_,rfl⟩;rw [hU] at hVe;have hUf : false = U -> false = V:=λh=>by rw [hVe,<- h];rfl
     have hx32 : x.held.length <= 32:=by omega
     have hm0 : 0 <= x.mn:=by omega
     have hm1 : x.mn <= 1073741824:=by omega
     conv=>whnf
     refine zU (zV zEf) (λs : RvI x.held x.mn U=>(⟨[(0,zL (ZT ZB L)),(10,zL (ZT ZB L)),(11,zL (.int .i64 (L.length : Int))),(12,zL (.int .i64 (i : Int))),(4,zL (.ptr 1 0 0 false)),(52,zL (slN zm x.held)),(53,zL (.int .i64 (x.held.length : Int))),(54,zL (.int .i64 (s.k : Int)))],[(1,some ⟨78,1,3,true,λ_=>ZB.cell x⟩)],2⟩ : Hd)) (λs=>x.held.length - s.k) (λ_=>rfl) ?_ ⟨0,Nat.zero_le _,hU,λh=>absurd rfl h⟩ [(1,some 5)] ⟨rfl,⟨zD (zJ (zI L)),zD (zJ (zI L)),zB rfl,zB rfl,zF rfl,zD (qK _).le,zB rfl,zB rfl,trivial⟩,⟨rfl,zE λj hj=>(ZB.sh _ j hj).le⟩,trivial⟩;rintro ⟨k,hk,hVk,hgk⟩;dsimp only at hk hVk hgk ⊢;by_cases hkl : k < x.held.length
     . have hr:=rv_step hkl hVk hgk;have zk : (k : Int).toNat = k:=rfl;have w5 : IntKind.i64.wrap ((k : Int) + 1) = ((k + 1 : Nat) : Int):=(IntWalk.i64_in _ (by omega)).trans (by omega);have w6 : IntKind.i64.wrap ((k : Int) - 1) = (k : Int) - 1:=IntWalk.i64_in _ (by omega);have w7 : IntKind.i64.wrap (x.mn + 31) = x.mn + 31:=IntWalk.i64_in _ (by omega);have zp : ((k : Int) - 1).toNat = k - 1:=by omega
       obtain ⟨h,eh⟩ : ∃ h,x.held.getD k default = h:=⟨_,rfl⟩;have eck : zo zm x.held k = zm.cell h:=congrArg zm.cell eh;obtain ⟨n1,n2,n3,n4,n5,n6,n7,ny⟩:=hr;rw [eh] at n1 n2 n3 n4 n5 n6 n7 ny;obtain ⟨A,eA⟩ : ∃ A,ZN h.tm = A:=⟨_,rfl⟩;obtain ⟨B,eB'⟩ : ∃ A,ZD h.til = A:=⟨_,rfl⟩;rw [eA] at n5 ny;rw [eB'] at n6 ny;repeat' (first | (simp only [zk,eck,w6,w7,zp]) | (apply And.intro<;>intro hc<;>(first | exact Bool.noConfusion hc | (exfalso;first | exact absurd rfl hc | omega) | (simp only [zl] at hc<;>first | exact absurd rfl hc | (exfalso;first | exact absurd rfl hc | omega) | skip) | skip)) | (refine And.intro zj ?_) | (apply And.intro) | (intro s hs;(first | (have q : A = s:=eA.symm.trans hs.symm;clear hs;subst q) | (have q : B = s:=eB'.symm.trans hs.symm;clear hs;subst q))))
       . exact Done.mk (zG (hUf (n1 (by omega))))
       . exact Done.mk (zG (hUf (n2 (by omega))))
       . exact Done.mk (zG (hUf (n3 (by omega))))
       . exact Done.mk (zG (hUf (n4 (by omega))))
       . exact Done.mk (zG (hUf (n5 ‹_›)))
       . exact Done.mk (zG (hUf (n6 ‹_›)))
       . exact Done.mk (zG (hUf (n7 (by omega) (by omega))))
       . conv=>whnf
         exact ⟨⟨k + 1,hkl,ny (by omega) (by omega) (by omega) (by omega) ‹_› ‹_› (.inr (by omega)),λ_=>by show x.mn <= (x.held.getD k default).num;rw [eh];omega⟩,[],by dsimp only;omega,rfl,⟨zD (zJ (zI L)),zD (zJ (zI L)),zB rfl,zB rfl,zF rfl,zD (qK _).le,zB rfl,zB w5,trivial⟩,⟨rfl,zE λj hj=>(ZB.sh _ j hj).le⟩,trivial⟩
       . conv=>whnf
         exact ⟨⟨k + 1,hkl,ny (by omega) (by omega) (by omega) (by omega) ‹_› ‹_› (.inl (by omega)),λ_=>by show x.mn <= (x.held.getD k default).num;rw [eh];omega⟩,[],by dsimp only;omega,rfl,⟨zD (zJ (zI L)),zD (zJ (zI L)),zB rfl,zB rfl,zF rfl,zD (qK _).le,zB rfl,zB w5,trivial⟩,⟨rfl,zE λj hj=>(ZB.sh _ j hj).le⟩,trivial⟩
     . have hUt : U = true:=by rw [<- hVk,List.drop_of_length_le (by omega)];rfl
       have hnx : qE (zAF L (i + 1)) (L.drop (i + 1)) = V:=by rw [hVe,hUt,Bool.true_and];unfold zAF;rw [if_neg (Nat.succ_ne_zero i),Nat.add_sub_cancel,ex]
       repeat' (first | (apply And.intro<;>intro hc<;>(first | exact Bool.noConfusion hc | (exfalso;first | exact absurd rfl hc | omega) | (simp only [zl] at hc<;>first | exact absurd rfl hc | (exfalso;first | exact absurd rfl hc | omega) | skip) | skip)) | (refine And.intro zj ?_) | (apply And.intro) | (intro s hs;skip))
       conv=>whnf
       exact ⟨⟨i + 1,hil,hnx⟩,[],by dsimp only;omega,rfl,⟨zD (zJ (zI L)),zD (zJ (zI L)),zB rfl,zB w3,trivial⟩,trivial⟩
 . have hVt : V = true:=by rw [<- hVi,List.drop_of_length_le (by omega)];rfl
   rw [hVt];repeat' (first | (apply And.intro<;>intro hc<;>(first | exact Bool.noConfusion hc | (exfalso;first | exact absurd rfl hc | omega) | (simp only [zl] at hc<;>first | exact absurd rfl hc | (exfalso;first | exact absurd rfl hc | omega) | skip) | skip)) | (refine And.intro zj ?_) | (apply And.intro) | (intro s hs;skip))
   exact Done.mk (zG rfl)
abbrev zDF : Zk:=qr (AC.cons (cNS ZB qA) AC.nil) (λa=>LHp a.1) (λa=>ZA a.1) cB.enc
def smH (n : Int) : List Hel -> Int
 | []=>n
 | h :: t=>smH (IntKind.i64.wrap (n + IntKind.i64.wrap ((h.data.length : Int).tdiv 8))) t
def smS (n : Int) : List Sed -> Int
 | []=>n
 | s :: t=>smS (smH (IntKind.i64.wrap (n + (s.held.length : Int))) s.held) t
def smallF (L : List Sed) : Bool:=decide (smS L.length L <= 120)
theorem smH_step {n : Int} {H : List Hel} {p : Nat} (h : p < H.length) : smH n (H.drop p) = smH (IntKind.i64.wrap (n + IntKind.i64.wrap (((H.getD p default).data.length : Int).tdiv 8))) (H.drop (p + 1)):=by rw [qL h];rfl
theorem smS_step {n : Int} {L : List Sed} {p : Nat} (h : p < L.length) : smS n (L.drop p) = smS (smH (IntKind.i64.wrap (n + ((L.getD p default).held.length : Int))) (L.getD p default).held) (L.drop (p + 1)):=by rw [qL h];rfl
theorem small_ok (L : List Sed) (hL : LHn L) : Ze Try.prog 13 [(cNS ZB qA).enc L] (cB.enc (smallF L)):=by
 have hn:=hL.n;obtain ⟨R,hR⟩ : ∃ R,smS L.length L = R:=⟨_,rfl⟩;have hRe : smallF L = decide (R <= 120):=by rw [<- hR];rfl
 rw [hRe];refine zt (wd:=1) (by decide) zN (zb qC) zP Try.func13 rfl _ (by show 1 <= _;decide) _ ?_;repeat' (first | (apply And.intro<;>intro hc<;>(first | exact Bool.noConfusion hc | (exfalso;first | exact absurd rfl hc | omega) | (simp only [zl] at hc<;>first | exact absurd rfl hc | (exfalso;first | exact absurd rfl hc | omega) | skip) | skip)) | (refine And.intro zj ?_) | (apply And.intro) | (intro s hs;subst hs))
 conv=>whnf
 refine zU (zV qC) (λs : {s : Nat × Int // s.1 <= L.length /\ smS s.2 (L.drop s.1) = R}=>(⟨[(3,zL (.int .i64 s.1.2)),(10,zL (ZT ZB L)),(11,zL (.int .i64 (L.length : Int))),(12,zL (.int .i64 (s.1.1 : Int)))],[],0⟩ : Hd)) (λs=>L.length - s.1.1) (λ_=>rfl) ?_ ⟨(0,L.length),Nat.zero_le _,hR⟩ [] ⟨rfl,⟨zB rfl,zD (zJ (zI L)),zB rfl,zB rfl,trivial⟩,trivial⟩;rintro ⟨⟨p,n⟩,hp,hV⟩;dsimp only at hp hV ⊢;unfold ZT;by_cases hpl : p < L.length
 . have w4 : IntKind.i64.wrap ((p : Int) + 1) = ((p + 1 : Nat) : Int):=(IntWalk.i64_in _ (by omega)).trans (by omega);rw [smS_step hpl] at hV;have hh:=hL.h _ (zw hpl);obtain ⟨x,ex⟩ : ∃ x,L.getD p default = x:=⟨_,rfl⟩;have ec : zo ZB L p = ZB.cell x:=congrArg ZB.cell ex;have zp : (p : Int).toNat = p:=rfl;rw [ex] at hV hh;obtain ⟨W,eW⟩ : ∃ W,smH (IntKind.i64.wrap (n + (x.held.length : Int))) x.held = W:=⟨_,rfl⟩;rw [eW] at hV;repeat' (first | (simp only [zp,ec]) | (apply And.intro<;>intro hc<;>(first | exact Bool.noConfusion hc | (exfalso;first | exact absurd rfl hc | omega) | (simp only [zl] at hc<;>first | exact absurd rfl hc | (exfalso;first | exact absurd rfl hc | omega) | skip) | skip)) | (refine And.intro zj ?_) | (apply And.intro) | (intro s hs;subst hs))
   conv=>whnf
   refine zU (zV qC) (λs : {s : Nat × Int // s.1 <= x.held.length /\ smH s.2 (x.held.drop s.1) = W}=>(⟨[(3,zL (.int .i64 s.1.2)),(10,zL (ZT ZB L)),(11,zL (.int .i64 (L.length : Int))),(12,zL (.int .i64 (p : Int))),(22,zL (slN zm x.held)),(23,zL (.int .i64 (x.held.length : Int))),(24,zL (.int .i64 (s.1.1 : Int)))],[],0⟩ : Hd)) (λs=>x.held.length - s.1.1) (λ_=>rfl) ?_ ⟨(0,_),Nat.zero_le _,eW⟩ [] ⟨rfl,⟨zB rfl,zD (zJ (zI L)),zB rfl,zB rfl,zD (qK _).le,zB rfl,zB rfl,trivial⟩,trivial⟩;rintro ⟨⟨k,m⟩,hk,hW⟩;dsimp only at hk hW ⊢;unfold ZT;by_cases hkl : k < x.held.length
   . have w5 : IntKind.i64.wrap ((k : Int) + 1) = ((k + 1 : Nat) : Int):=(IntWalk.i64_in _ (by omega)).trans (by omega);rw [smH_step hkl] at hW;obtain ⟨h,eh⟩ : ∃ h,x.held.getD k default = h:=⟨_,rfl⟩;have ech : zo zm x.held k = zm.cell h:=congrArg zm.cell eh;have zk : (k : Int).toNat = k:=rfl;rw [eh] at hW;repeat' (first | (simp only [zk,ech]) | (apply And.intro<;>intro hc<;>(first | exact Bool.noConfusion hc | (exfalso;first | exact absurd rfl hc | omega) | (simp only [zl] at hc<;>first | exact absurd rfl hc | (exfalso;first | exact absurd rfl hc | omega) | skip) | skip)) | (refine And.intro zj ?_) | (apply And.intro) | (intro s hs;subst hs))
     conv=>whnf
     exact ⟨⟨(k + 1,_),hkl,hW⟩,[],by dsimp only;omega,rfl,⟨zB rfl,zD (zJ (zI L)),zB rfl,zB rfl,zD (qK _).le,zB rfl,zB w5,trivial⟩,trivial⟩
   . obtain rfl : m = W:=by rw [<- hW,List.drop_of_length_le (by omega)];rfl
     repeat' (first | (apply And.intro<;>intro hc<;>(first | exact Bool.noConfusion hc | (exfalso;first | exact absurd rfl hc | omega) | (simp only [zl] at hc<;>first | exact absurd rfl hc | (exfalso;first | exact absurd rfl hc | omega) | skip) | skip)) | (refine And.intro zj ?_) | (apply And.intro) | (intro s hs;subst hs))
     conv=>whnf
     exact ⟨⟨(p + 1,m),hpl,hV⟩,[],by dsimp only;omega,rfl,⟨zB rfl,zD (zJ (zI L)),zB rfl,zB w4,trivial⟩,trivial⟩
 . obtain rfl : n = R:=by rw [<- hV,List.drop_of_length_le (by omega)];rfl
   repeat' (first | (apply And.intro<;>intro hc<;>(first | exact Bool.noConfusion hc | (exfalso;first | exact absurd rfl hc | omega) | (simp only [zl] at hc<;>first | exact absurd rfl hc | (exfalso;first | exact absurd rfl hc | omega) | skip) | skip)) | (refine And.intro zj ?_) | (apply And.intro) | (intro s hs;subst hs))
   conv=>whnf
   exact Done.mk (zG rfl)
abbrev smallE : Zk:=qr (AC.cons (cNS ZB qA) AC.nil) (λa=>LHn a.1) (λa=>smallF a.1) cB.enc
theorem smallE_ok : EntOk Try.prog 13 smallE:=zx ⟨_,Try.func13,rfl,by kernel_rfl⟩ λa h=>small_ok a.1 h
def neI : NElem Int where
 sz:=3
 cell a j:=bif Nat.beq j 0 then .int .u64 a else .top
 rd g:=Ya (g 0)
 ok g:=isK .u64 (g 0) = true
 ok_rel g h j hj r X W w v hv:=by
  rcases j with _ | j
  . rw [Qc h] at hv;exact hv
  . exact Yr hv
 sh a j hj:=by
  rcases j with _ | j
  . exact .int _ _
  . exact .top
theorem neI_sz : 0 < neI.sz:=by decide
def zBK (id : Int) : List Int -> Nat -> Int
 | [],_=>-1
 | s :: t,k=>if s = id then (k : Int) else zBK id t (k + 1)
theorem zFs (L : List Int) (id : Int) (hn : L.length <= 9223372036854775807) : Ze Try.prog 64 [(cNS neI neI_sz).enc L,(cI .u64).enc id] ((cI .i64).enc (zBK id L 0)):=by
 obtain ⟨R,hR⟩ : ∃ R,zBK id L 0 = R:=⟨_,rfl⟩;rw [hR];refine zt (wd:=1) (by decide) zN (zb qC) zP Try.func64 rfl _ (by show 2 <= _;decide) _ ?_;repeat' (first | (apply And.intro<;>intro hc<;>(first | exact Bool.noConfusion hc | (exfalso;first | exact absurd rfl hc | omega) | (simp only [zl] at hc<;>first | exact absurd rfl hc | (exfalso;first | exact absurd rfl hc | omega) | skip) | skip)) | (refine And.intro zj ?_) | (apply And.intro) | (intro s hs;skip))
 conv=>whnf
 refine zU (zV qC) (λs : {i : Nat // i <= L.length /\ zBK id (L.drop i) i = R}=>(⟨[(1,zL (.int .u64 id)),(7,zL (ZT neI L)),(8,zL (.int .i64 (L.length : Int))),(9,zL (.int .i64 (s.1 : Int)))],[],1⟩ : Hd)) (λs=>L.length - s.1) (λ_=>rfl) ?_ ⟨0,Nat.zero_le _,hR⟩ [] ⟨rfl,⟨zB rfl,zD (zJ (zI L)),zB rfl,zB rfl,trivial⟩,trivial⟩;rintro ⟨i,hi,hV⟩;dsimp only at hi hV ⊢;unfold ZT;by_cases hil : i < L.length
 . have w3 : IntKind.i64.wrap ((i : Int) + 1) = ((i + 1 : Nat) : Int):=(IntWalk.i64_in _ (by omega)).trans (by omega);rw [qL hil] at hV;have ny : L.getD ((i : Int).toNat) default = id -> R = (i : Int):=λg=>by rw [<- hV];exact if_pos g
   have nn : ¬ L.getD ((i : Int).toNat) default = id -> zBK id (L.drop (i + 1)) (i + 1) = R:=λg=>by rw [<- hV];exact (if_neg g).symm
   clear hV;repeat' (first | (apply And.intro<;>intro hc<;>(first | exact Bool.noConfusion hc | (exfalso;first | exact absurd rfl hc | omega) | (simp only [zl] at hc<;>first | exact absurd rfl hc | (exfalso;first | exact absurd rfl hc | omega) | skip) | skip)) | (refine And.intro zj ?_) | (apply And.intro) | (intro s hs;skip))
   . rw [ny ‹_›];exact Done.mk (zB rfl)
   . refine ⟨⟨i + 1,by omega,nn ‹_›⟩,[],by dsimp only;omega,rfl,⟨zB rfl,zD (zJ (zI L)),zB rfl,zB w3,trivial⟩,trivial⟩
 . have hi2 : i = L.length:=by omega
   rw [List.drop_of_length_le (by omega)] at hV;have hV : (-1 : Int) = R:=hV;rw [<- hV];repeat' (first | (apply And.intro<;>intro hc<;>(first | exact Bool.noConfusion hc | (exfalso;first | exact absurd rfl hc | omega) | (simp only [zl] at hc<;>first | exact absurd rfl hc | (exfalso;first | exact absurd rfl hc | omega) | skip) | skip)) | (refine And.intro zj ?_) | (apply And.intro) | (intro s hs;skip))
   exact Done.mk (zB rfl)
abbrev rfindE : Zk:=qr (AC.cons (cNS neI neI_sz) (AC.cons (cI .u64) AC.nil)) (λa=>a.1.length <= 9223372036854775807) (λa=>zBK a.2.1 a.1 0) (cI .i64).enc
theorem zDP {id : Int} : ∀ {L : List Sed} {last : Int} {k : Nat},qE last L = true -> zBK id (L.map Sed.id) k = if (Zf id L k).2 = true then ((Zf id L k).1 : Int) else -1:=by
 intro L;induction L with
 | nil=>intro _ _ _;rfl
 | cons a t ih=>
   intro last k hv;have hv':=YF.1 hv;show (if a.id = id then (k : Int) else zBK id (t.map Sed.id) (k + 1)) = _;by_cases h : id <= a.id
   . have e : Zf id (a :: t) k = (k,decide (a.id = id)):=if_pos h;rw [e];by_cases h2 : a.id = id
     . rw [if_pos h2,decide_eq_true h2,if_pos rfl]
     . rw [if_neg h2,decide_eq_false h2,if_neg (by simp)];have : ∀ {t : List Sed} {last : Int} {k : Nat},qE last t = true -> id < last -> zBK id (t.map Sed.id) k = -1:=by
        intro t;induction t with
        | nil=>intro _ _ _ _;rfl
        | cons b t ih2=>
          intro last k hv hl;have hv':=YF.1 hv;show (if b.id = id then (k : Int) else zBK id (t.map Sed.id) (k + 1)) = -1;rw [if_neg (by omega)];exact ih2 hv'.2.2 (by omega)
       exact this hv'.2.2 (by omega)
   . have e : Zf id (a :: t) k = Zf id t (k + 1):=if_neg h;rw [e,if_neg (by omega)];exact ih hv'.2.2
theorem Zr {P : Nat -> Prop} (h : P 0 /\ P 1 /\ P 2) : ∀ j,j < 3 -> P j:=λj hj=>by
 rcases (show j = 0 \/ j = 1 \/ j = 2 by omega) with rfl | rfl | rfl
 . exact h.1
 . exact h.2.1
 . exact h.2.2
structure SySt (L : List Sed) (R : List Smy) where
 i : Nat
 O : List Smy
 hi : i <= L.length
 h : O ++ (L.drop i).map sumS = R
 n : O.length = i
def Zg (d : Nat) (L : List Sed) (i j : Nat) : CV:=bif Nat.beq j 2 then .os (d + i) 0 (L.getD i default).held.length else sedC (L.getD i default) j
def qp (d : Nat) (n : Nat) (L : List Sed) : Ent:=⟨78,n,3,false,Zg d L⟩
def Zx (L : List Sed) (i k : Nat) : List Hel:=bif Nat.blt k i then (L.getD k default).held else []
abbrev zS (l : List Hel) : Ent:=Zj zm 85 l
theorem hldP_n {L : List Sed} {k : Nat} : Zx L L.length k = (L.getD k default).held:=by
 unfold Zx;cases hb : Nat.blt k L.length with
 | true=>rfl
 | false=>
   have : ¬ k < L.length:=λh=>by
    have h1 : Nat.blt k L.length = true:=Nat.ble_eq_true_of_le h;rw [h1] at hb;cases hb
   rw [List.getD_eq_getElem?_getD,List.getElem?_eq_none (by omega)];rfl
def hepP (b : Nat) (L : List Sed) : List (Nat × Option Ent):=[(b + 0,some (zS (L.getD 0 default).held)),(b + 1,some (zS (L.getD 1 default).held)),(b + 2,some (zS (L.getD 2 default).held)),(b + 3,some (zS (L.getD 3 default).held)),(b + 4,some (zS (L.getD 4 default).held)),(b + 5,some (zS (L.getD 5 default).held)),(b + 6,some (zS (L.getD 6 default).held)),(b + 7,some (zS (L.getD 7 default).held))]
theorem qm {c : Wc} {d d' : Nat} {L : List Sed} {i j : Nat} (hj : j < 3) (h : c.src (d' + i) = some (d + i)) : Zu c (Zg d L i j) (Zg d' L i j):=by
 rcases j with _ | _ | _ | j
 . exact zC rfl
 . exact zC rfl
 . exact zH h rfl
 . omega
theorem zFt {nm : Nat} {L : List Sed} {i j : Nat} (hj : j < 3) (hi : i < 8) : Sft 9 nm (Zg (0 + 1) L i j) (Zg (nm + 1) L i j):=by
 rcases j with _ | _ | _ | j
 . exact zDO
 . exact zDO
 . have h : Sft 9 nm (.os (0 + 1 + i) 0 (L.getD i default).held.length) (.os (nm + (0 + 1 + i)) 0 (L.getD i default).held.length):=zCp (by omega);rw [show nm + (0 + 1 + i) = nm + 1 + i by omega] at h;exact h
 . omega
def LMl8 : CsL:=(56,some keepE) :: []
theorem LMl8_ok : qV Try.prog LMl8:=⟨zDT,trivial⟩
structure Cl8 (L : List Sed) : Prop where
 n : L.length <= 8
 k : ∀ x ∈ L,KpI x.held
theorem vl_c8 {L : List Sed} (h : ZA L = true) : Cl8 L:=⟨Zv h,(vl_cl h).k⟩
def Ents8 (d : Nat) (L : List Sed) : List Ent:=qp d L.length L :: [zS (L.getD 0 default).held,zS (L.getD 1 default).held,zS (L.getD 2 default).held,zS (L.getD 3 default).held,zS (L.getD 4 default).held,zS (L.getD 5 default).held,zS (L.getD 6 default).held,zS (L.getD 7 default).held]
theorem clone8_ok (L : List Sed) (hL : Cl8 L) : zB2 Try.prog 34 [(cNS ZB qA).enc L] (zL (.os 0 0 L.length)) (Ents8 1 L):=by
 have hn:=hL.n;refine zBB (wd:=1) (by decide) zN (zb LMl8_ok) zP Try.func34 rfl _ (by show 1 <= _;decide) ?_;have w0 : IntKind.i64.wrap ((L.length : Int) + 1) = ((L.length + 1 : Nat) : Int):=(IntWalk.i64_in _ (by omega)).trans (by omega);repeat' (first | (simp only [w0]) | (apply And.intro<;>intro hc<;>(first | exact Bool.noConfusion hc | (exfalso;first | exact absurd rfl hc | omega) | (simp only [zl] at hc<;>first | exact absurd rfl hc | (exfalso;first | exact absurd rfl hc | omega) | skip) | skip)) | (refine And.intro zj ?_) | (apply And.intro) | (intro s hs;skip) | (refine Exists.intro _ (And.intro ⟨rfl,rfl,rfl⟩ ?_)))
 conv=>whnf
 refine zU (zV LMl8_ok) (λs : {i : Nat // i <= L.length}=>(⟨[(3,zL (.os 50 0 s.1)),(10,zL (ZT ZB L)),(11,zL (.int .i64 (L.length : Int))),(12,zL (.int .i64 (s.1 : Int)))],[(50,some (qp 51 s.1 L)),(51,some (zS (Zx L s.1 0))),(52,some (zS (Zx L s.1 1))),(53,some (zS (Zx L s.1 2))),(54,some (zS (Zx L s.1 3))),(55,some (zS (Zx L s.1 4))),(56,some (zS (Zx L s.1 5))),(57,some (zS (Zx L s.1 6))),(58,some (zS (Zx L s.1 7)))],59⟩ : Hd)) (λs=>L.length - s.1) (λ_=>rfl) ?_ ⟨0,Nat.zero_le _⟩ [(50,some 4),(51,none),(52,none),(53,none),(54,none),(55,none),(56,none),(57,none),(58,none)] ⟨rfl,⟨zD (zH rfl rfl),zD (zJ (zI L)),zB rfl,zB rfl,trivial⟩,⟨rfl,⟨rfl,rfl,rfl,rfl,λi hi=>absurd hi (Nat.not_lt_zero i)⟩⟩,⟨rfl,rfl,rfl,Nat.le_of_ble_eq_true rfl⟩,⟨rfl,rfl,rfl,Nat.le_of_ble_eq_true rfl⟩,⟨rfl,rfl,rfl,Nat.le_of_ble_eq_true rfl⟩,⟨rfl,rfl,rfl,Nat.le_of_ble_eq_true rfl⟩,⟨rfl,rfl,rfl,Nat.le_of_ble_eq_true rfl⟩,⟨rfl,rfl,rfl,Nat.le_of_ble_eq_true rfl⟩,⟨rfl,rfl,rfl,Nat.le_of_ble_eq_true rfl⟩,⟨rfl,rfl,rfl,Nat.le_of_ble_eq_true rfl⟩,trivial⟩;rintro ⟨i,hi⟩;dsimp only at hi ⊢;unfold ZT;by_cases hil : i < L.length
 . have w3 : IntKind.i64.wrap ((i : Int) + 1) = ((i + 1 : Nat) : Int):=(IntWalk.i64_in _ (by omega)).trans (by omega);have hk:=hL.k _ (QV hil);rcases (show i = 0 \/ i = 1 \/ i = 2 \/ i = 3 \/ i = 4 \/ i = 5 \/ i = 6 \/ i = 7 by omega) with rfl | rfl | rfl | rfl | rfl | rfl | rfl | rfl
   . repeat' (first | (apply And.intro<;>intro hc<;>(first | exact Bool.noConfusion hc | (exfalso;first | exact absurd rfl hc | omega) | (simp only [zl] at hc<;>first | exact absurd rfl hc | (exfalso;first | exact absurd rfl hc | omega) | skip) | skip)) | (refine And.intro zj ?_) | (apply And.intro) | (intro s hs;(have q : s = (L.getD 0 default).held:=hs.trans (by show (Ys zm _ _).filter (qU none) = _;rw [Qu];exact zr zd _);clear hs;subst q)) | (refine Exists.intro _ (And.intro ⟨rfl,rfl,rfl⟩ ?_)))
     . exact λ_ _=>⟨rfl,ZG _⟩
     . exact Eq.mpr (congrArg KpI (zr zd _)) hk
     . refine ⟨⟨1,hil⟩,[(50,some 72),(51,some 66)],by dsimp only;omega,rfl,⟨zD (zH rfl rfl),zD (zJ (zI L)),zB rfl,zB w3,trivial⟩,⟨⟨rfl,⟨rfl,rfl,rfl,rfl,λp hp j hj=>?_⟩⟩,⟨rfl,zA⟩,⟨rfl,zA⟩,⟨rfl,zA⟩,⟨rfl,zA⟩,⟨rfl,zA⟩,⟨rfl,zA⟩,⟨rfl,zA⟩,⟨rfl,zA⟩,trivial⟩⟩;have hp' : p < 1:=hp;have hj' : j < 3:=hj;show Zu _ (Zp (Nat.blt p 0) (Zg 51 L p j) _) (Zg 51 L p j);by_cases hpi : p < 0
       . refine ZU (Nat.ble_eq_true_of_le hpi) ?_;exact absurd hpi (Nat.not_lt_zero p)
       . obtain rfl : p = 0:=by omega
         refine Zd (Zt _) ?_;rcases j with _ | _ | _ | j
         . exact zC rfl
         . exact zC rfl
         . exact zH rfl rfl
         . omega
   . repeat' (first | (apply And.intro<;>intro hc<;>(first | exact Bool.noConfusion hc | (exfalso;first | exact absurd rfl hc | omega) | (simp only [zl] at hc<;>first | exact absurd rfl hc | (exfalso;first | exact absurd rfl hc | omega) | skip) | skip)) | (refine And.intro zj ?_) | (apply And.intro) | (intro s hs;(have q : s = (L.getD 1 default).held:=hs.trans (by show (Ys zm _ _).filter (qU none) = _;rw [Qu];exact zr zd _);clear hs;subst q)) | (refine Exists.intro _ (And.intro ⟨rfl,rfl,rfl⟩ ?_)))
     . exact λ_ _=>⟨rfl,ZG _⟩
     . exact Eq.mpr (congrArg KpI (zr zd _)) hk
     . refine ⟨⟨2,hil⟩,[(50,some 72),(52,some 66)],by dsimp only;omega,rfl,⟨zD (zH rfl rfl),zD (zJ (zI L)),zB rfl,zB w3,trivial⟩,⟨⟨rfl,⟨rfl,rfl,rfl,rfl,λp hp j hj=>?_⟩⟩,⟨rfl,zA⟩,⟨rfl,zA⟩,⟨rfl,zA⟩,⟨rfl,zA⟩,⟨rfl,zA⟩,⟨rfl,zA⟩,⟨rfl,zA⟩,⟨rfl,zA⟩,trivial⟩⟩;have hp' : p < 2:=hp;have hj' : j < 3:=hj;show Zu _ (Zp (Nat.blt p 1) (Zg 51 L p j) _) (Zg 51 L p j);by_cases hpi : p < 1
       . refine ZU (Nat.ble_eq_true_of_le hpi) ?_;rcases (show p = 0 by omega) with rfl<;>exact qm hj' rfl
       . obtain rfl : p = 1:=by omega
         refine Zd (Zt _) ?_;rcases j with _ | _ | _ | j
         . exact zC rfl
         . exact zC rfl
         . exact zH rfl rfl
         . omega
   . repeat' (first | (apply And.intro<;>intro hc<;>(first | exact Bool.noConfusion hc | (exfalso;first | exact absurd rfl hc | omega) | (simp only [zl] at hc<;>first | exact absurd rfl hc | (exfalso;first | exact absurd rfl hc | omega) | skip) | skip)) | (refine And.intro zj ?_) | (apply And.intro) | (intro s hs;(have q : s = (L.getD 2 default).held:=hs.trans (by show (Ys zm _ _).filter (qU none) = _;rw [Qu];exact zr zd _);clear hs;subst q)) | (refine Exists.intro _ (And.intro ⟨rfl,rfl,rfl⟩ ?_)))
     . exact λ_ _=>⟨rfl,ZG _⟩
     . exact Eq.mpr (congrArg KpI (zr zd _)) hk
     . refine ⟨⟨3,hil⟩,[(50,some 72),(53,some 66)],by dsimp only;omega,rfl,⟨zD (zH rfl rfl),zD (zJ (zI L)),zB rfl,zB w3,trivial⟩,⟨⟨rfl,⟨rfl,rfl,rfl,rfl,λp hp j hj=>?_⟩⟩,⟨rfl,zA⟩,⟨rfl,zA⟩,⟨rfl,zA⟩,⟨rfl,zA⟩,⟨rfl,zA⟩,⟨rfl,zA⟩,⟨rfl,zA⟩,⟨rfl,zA⟩,trivial⟩⟩;have hp' : p < 3:=hp;have hj' : j < 3:=hj;show Zu _ (Zp (Nat.blt p 2) (Zg 51 L p j) _) (Zg 51 L p j);by_cases hpi : p < 2
       . refine ZU (Nat.ble_eq_true_of_le hpi) ?_;rcases (show p = 0 \/ p = 1 by omega) with rfl | rfl<;>exact qm hj' rfl
       . obtain rfl : p = 2:=by omega
         refine Zd (Zt _) ?_;rcases j with _ | _ | _ | j
         . exact zC rfl
         . exact zC rfl
         . exact zH rfl rfl
         . omega
   . repeat' (first | (apply And.intro<;>intro hc<;>(first | exact Bool.noConfusion hc | (exfalso;first | exact absurd rfl hc | omega) | (simp only [zl] at hc<;>first | exact absurd rfl hc | (exfalso;first | exact absurd rfl hc | omega) | skip) | skip)) | (refine And.intro zj ?_) | (apply And.intro) | (intro s hs;(have q : s = (L.getD 3 default).held:=hs.trans (by show (Ys zm _ _).filter (qU none) = _;rw [Qu];exact zr zd _);clear hs;subst q)) | (refine Exists.intro _ (And.intro ⟨rfl,rfl,rfl⟩ ?_)))
     . exact λ_ _=>⟨rfl,ZG _⟩
     . exact Eq.mpr (congrArg KpI (zr zd _)) hk
     . refine ⟨⟨4,hil⟩,[(50,some 72),(54,some 66)],by dsimp only;omega,rfl,⟨zD (zH rfl rfl),zD (zJ (zI L)),zB rfl,zB w3,trivial⟩,⟨⟨rfl,⟨rfl,rfl,rfl,rfl,λp hp j hj=>?_⟩⟩,⟨rfl,zA⟩,⟨rfl,zA⟩,⟨rfl,zA⟩,⟨rfl,zA⟩,⟨rfl,zA⟩,⟨rfl,zA⟩,⟨rfl,zA⟩,⟨rfl,zA⟩,trivial⟩⟩;have hp' : p < 4:=hp;have hj' : j < 3:=hj;show Zu _ (Zp (Nat.blt p 3) (Zg 51 L p j) _) (Zg 51 L p j);by_cases hpi : p < 3
       . refine ZU (Nat.ble_eq_true_of_le hpi) ?_;rcases (show p = 0 \/ p = 1 \/ p = 2 by omega) with rfl | rfl | rfl<;>exact qm hj' rfl
       . obtain rfl : p = 3:=by omega
         refine Zd (Zt _) ?_;rcases j with _ | _ | _ | j
         . exact zC rfl
         . exact zC rfl
         . exact zH rfl rfl
         . omega
   . repeat' (first | (apply And.intro<;>intro hc<;>(first | exact Bool.noConfusion hc | (exfalso;first | exact absurd rfl hc | omega) | (simp only [zl] at hc<;>first | exact absurd rfl hc | (exfalso;first | exact absurd rfl hc | omega) | skip) | skip)) | (refine And.intro zj ?_) | (apply And.intro) | (intro s hs;(have q : s = (L.getD 4 default).held:=hs.trans (by show (Ys zm _ _).filter (qU none) = _;rw [Qu];exact zr zd _);clear hs;subst q)) | (refine Exists.intro _ (And.intro ⟨rfl,rfl,rfl⟩ ?_)))
     . exact λ_ _=>⟨rfl,ZG _⟩
     . exact Eq.mpr (congrArg KpI (zr zd _)) hk
     . refine ⟨⟨5,hil⟩,[(50,some 72),(55,some 66)],by dsimp only;omega,rfl,⟨zD (zH rfl rfl),zD (zJ (zI L)),zB rfl,zB w3,trivial⟩,⟨⟨rfl,⟨rfl,rfl,rfl,rfl,λp hp j hj=>?_⟩⟩,⟨rfl,zA⟩,⟨rfl,zA⟩,⟨rfl,zA⟩,⟨rfl,zA⟩,⟨rfl,zA⟩,⟨rfl,zA⟩,⟨rfl,zA⟩,⟨rfl,zA⟩,trivial⟩⟩;have hp' : p < 5:=hp;have hj' : j < 3:=hj;show Zu _ (Zp (Nat.blt p 4) (Zg 51 L p j) _) (Zg 51 L p j);by_cases hpi : p < 4
       . refine ZU (Nat.ble_eq_true_of_le hpi) ?_;rcases (show p = 0 \/ p = 1 \/ p = 2 \/ p = 3 by omega) with rfl | rfl | rfl | rfl<;>exact qm hj' rfl
       . obtain rfl : p = 4:=by omega
         refine Zd (Zt _) ?_;rcases j with _ | _ | _ | j
         . exact zC rfl
         . exact zC rfl
         . exact zH rfl rfl
         . omega
   . repeat' (first | (apply And.intro<;>intro hc<;>(first | exact Bool.noConfusion hc | (exfalso;first | exact absurd rfl hc | omega) | (simp only [zl] at hc<;>first | exact absurd rfl hc | (exfalso;first | exact absurd rfl hc | omega) | skip) | skip)) | (refine And.intro zj ?_) | (apply And.intro) | (intro s hs;(have q : s = (L.getD 5 default).held:=hs.trans (by show (Ys zm _ _).filter (qU none) = _;rw [Qu];exact zr zd _);clear hs;subst q)) | (refine Exists.intro _ (And.intro ⟨rfl,rfl,rfl⟩ ?_)))
     . exact λ_ _=>⟨rfl,ZG _⟩
     . exact Eq.mpr (congrArg KpI (zr zd _)) hk
     . refine ⟨⟨6,hil⟩,[(50,some 72),(56,some 66)],by dsimp only;omega,rfl,⟨zD (zH rfl rfl),zD (zJ (zI L)),zB rfl,zB w3,trivial⟩,⟨⟨rfl,⟨rfl,rfl,rfl,rfl,λp hp j hj=>?_⟩⟩,⟨rfl,zA⟩,⟨rfl,zA⟩,⟨rfl,zA⟩,⟨rfl,zA⟩,⟨rfl,zA⟩,⟨rfl,zA⟩,⟨rfl,zA⟩,⟨rfl,zA⟩,trivial⟩⟩;have hp' : p < 6:=hp;have hj' : j < 3:=hj;show Zu _ (Zp (Nat.blt p 5) (Zg 51 L p j) _) (Zg 51 L p j);by_cases hpi : p < 5
       . refine ZU (Nat.ble_eq_true_of_le hpi) ?_;rcases (show p = 0 \/ p = 1 \/ p = 2 \/ p = 3 \/ p = 4 by omega) with rfl | rfl | rfl | rfl | rfl<;>exact qm hj' rfl
       . obtain rfl : p = 5:=by omega
         refine Zd (Zt _) ?_;rcases j with _ | _ | _ | j
         . exact zC rfl
         . exact zC rfl
         . exact zH rfl rfl
         . omega
   . repeat' (first | (apply And.intro<;>intro hc<;>(first | exact Bool.noConfusion hc | (exfalso;first | exact absurd rfl hc | omega) | (simp only [zl] at hc<;>first | exact absurd rfl hc | (exfalso;first | exact absurd rfl hc | omega) | skip) | skip)) | (refine And.intro zj ?_) | (apply And.intro) | (intro s hs;(have q : s = (L.getD 6 default).held:=hs.trans (by show (Ys zm _ _).filter (qU none) = _;rw [Qu];exact zr zd _);clear hs;subst q)) | (refine Exists.intro _ (And.intro ⟨rfl,rfl,rfl⟩ ?_)))
     . exact λ_ _=>⟨rfl,ZG _⟩
     . exact Eq.mpr (congrArg KpI (zr zd _)) hk
     . refine ⟨⟨7,hil⟩,[(50,some 72),(57,some 66)],by dsimp only;omega,rfl,⟨zD (zH rfl rfl),zD (zJ (zI L)),zB rfl,zB w3,trivial⟩,⟨⟨rfl,⟨rfl,rfl,rfl,rfl,λp hp j hj=>?_⟩⟩,⟨rfl,zA⟩,⟨rfl,zA⟩,⟨rfl,zA⟩,⟨rfl,zA⟩,⟨rfl,zA⟩,⟨rfl,zA⟩,⟨rfl,zA⟩,⟨rfl,zA⟩,trivial⟩⟩;have hp' : p < 7:=hp;have hj' : j < 3:=hj;show Zu _ (Zp (Nat.blt p 6) (Zg 51 L p j) _) (Zg 51 L p j);by_cases hpi : p < 6
       . refine ZU (Nat.ble_eq_true_of_le hpi) ?_;rcases (show p = 0 \/ p = 1 \/ p = 2 \/ p = 3 \/ p = 4 \/ p = 5 by omega) with rfl | rfl | rfl | rfl | rfl | rfl<;>exact qm hj' rfl
       . obtain rfl : p = 6:=by omega
         refine Zd (Zt _) ?_;rcases j with _ | _ | _ | j
         . exact zC rfl
         . exact zC rfl
         . exact zH rfl rfl
         . omega
   . repeat' (first | (apply And.intro<;>intro hc<;>(first | exact Bool.noConfusion hc | (exfalso;first | exact absurd rfl hc | omega) | (simp only [zl] at hc<;>first | exact absurd rfl hc | (exfalso;first | exact absurd rfl hc | omega) | skip) | skip)) | (refine And.intro zj ?_) | (apply And.intro) | (intro s hs;(have q : s = (L.getD 7 default).held:=hs.trans (by show (Ys zm _ _).filter (qU none) = _;rw [Qu];exact zr zd _);clear hs;subst q)) | (refine Exists.intro _ (And.intro ⟨rfl,rfl,rfl⟩ ?_)))
     . exact λ_ _=>⟨rfl,ZG _⟩
     . exact Eq.mpr (congrArg KpI (zr zd _)) hk
     . refine ⟨⟨8,hil⟩,[(50,some 72),(58,some 66)],by dsimp only;omega,rfl,⟨zD (zH rfl rfl),zD (zJ (zI L)),zB rfl,zB w3,trivial⟩,⟨⟨rfl,⟨rfl,rfl,rfl,rfl,λp hp j hj=>?_⟩⟩,⟨rfl,zA⟩,⟨rfl,zA⟩,⟨rfl,zA⟩,⟨rfl,zA⟩,⟨rfl,zA⟩,⟨rfl,zA⟩,⟨rfl,zA⟩,⟨rfl,zA⟩,trivial⟩⟩;have hp' : p < 8:=hp;have hj' : j < 3:=hj;show Zu _ (Zp (Nat.blt p 7) (Zg 51 L p j) _) (Zg 51 L p j);by_cases hpi : p < 7
       . refine ZU (Nat.ble_eq_true_of_le hpi) ?_;rcases (show p = 0 \/ p = 1 \/ p = 2 \/ p = 3 \/ p = 4 \/ p = 5 \/ p = 6 by omega) with rfl | rfl | rfl | rfl | rfl | rfl | rfl<;>exact qm hj' rfl
       . obtain rfl : p = 7:=by omega
         refine Zd (Zt _) ?_;rcases j with _ | _ | _ | j
         . exact zC rfl
         . exact zC rfl
         . exact zH rfl rfl
         . omega
 . have hi2 : i = L.length:=by omega
   subst hi2;simp only [hldP_n];repeat' (first | (apply And.intro<;>intro hc<;>(first | exact Bool.noConfusion hc | (exfalso;first | exact absurd rfl hc | omega) | (simp only [zl] at hc<;>first | exact absurd rfl hc | (exfalso;first | exact absurd rfl hc | omega) | skip) | skip)) | (refine And.intro zj ?_) | (apply And.intro) | (intro s hs;skip) | (refine Exists.intro _ (And.intro ⟨rfl,rfl,rfl⟩ ?_)))
   conv=>whnf
   refine ⟨⟨[(0,some 50),(1,some 51),(2,some 52),(3,some 53),(4,some 54),(5,some 55),(6,some 56),(7,some 57),(8,some 58)],rfl,zD (zH rfl rfl),⟨rfl,⟨rfl,rfl,rfl,rfl,λp hp j hj=>?_⟩⟩,⟨rfl,zA⟩,⟨rfl,zA⟩,⟨rfl,zA⟩,⟨rfl,zA⟩,⟨rfl,zA⟩,⟨rfl,zA⟩,⟨rfl,zA⟩,⟨rfl,zA⟩,trivial⟩⟩
   . have hp' : p < L.length:=hp;have hj' : j < 3:=hj;rcases (show p = 0 \/ p = 1 \/ p = 2 \/ p = 3 \/ p = 4 \/ p = 5 \/ p = 6 \/ p = 7 by omega) with rfl | rfl | rfl | rfl | rfl | rfl | rfl | rfl<;>exact qm hj' rfl
abbrev clone8E : Zk:=zDy (AC.cons (cNS ZB qA) AC.nil) (λa=>Cl8 a.1) (λa=>a.1) 9 (λnm L=>zL (.os nm 0 L.length)) (λnm L=>Ents8 (nm + 1) L)
theorem zGO : EntOk Try.prog 34 clone8E:=zCT ⟨_,Try.func34,rfl,by kernel_rfl⟩ (λ_ _=>rfl) (λnm s=>sftF_c (by have h : Sft 9 nm (.os 0 0 s.length) (.os (nm + 0) 0 s.length):=zCp (by decide);exact h)) (λnm a ha k e e' h h'=>by
 iterate 9 (rcases k with _ | k;· (injection h with h;injection h' with h';subst h h';first | exact ⟨rfl,rfl,rfl,rfl,λi hi j hj=>zDS (zm.sh _ j hj)⟩ | exact ⟨rfl,rfl,rfl,rfl,λi hi j hj=>zFt hj (Nat.lt_of_lt_of_le hi ha.n)⟩))
 cases h) λa h=>clone8_ok a.1 h
structure SlI (L : List Sed) (now : Int) where
 i : Nat
 M : List Sed
 n : M.length = L.length
 hi : i <= L.length
 h1 : ∀ p,p < i -> M.getD p default = clsS now (L.getD p default)
 h2 : ∀ p,i <= p -> M.getD p default = L.getD p default
def Qg : Code -> Code
 | .loop c=>c
 | .block _ c=>Qg c
 | .seq a b=>match Qg a with
   | .skip=>Qg b
   | c=>c
 | _=>.skip
theorem zR {c : Wc} {t : TypeId} {l l' : List Hel} (h : l = l') : LeN c (Zj zm t l) (Zj zm t l'):=by subst h;exact zA
theorem zQ {c : Wc} {d : Nat} {M : List Sed} {n : Nat} (hn : n <= 8) (h : ∀ p,p < 8 -> c.src (d + p) = some (d + p)) : LeN c (qp d n M) (qp d n M):=⟨rfl,rfl,rfl,rfl,λp hp j hj=>qm hj (h p (Nat.lt_of_lt_of_le hp hn))⟩
theorem qJ {P : Nat -> Prop} (h0 : P 0) (h1 : P 1) (h2 : P 2) (h3 : P 3) (h4 : P 4) (h5 : P 5) (h6 : P 6) (h7 : P 7) : ∀ p,p < 8 -> P p:=λp hp=>by
 rcases (show p = 0 \/ p = 1 \/ p = 2 \/ p = 3 \/ p = 4 \/ p = 5 \/ p = 6 \/ p = 7 by omega) with rfl | rfl | rfl | rfl | rfl | rfl | rfl | rfl<;>assumption
theorem qF {c : Wc} {d p i j : Nat} {M : List Sed} {x : Sed} {y : CV} (hj : j < 3) (hp : p ≠ i) (hy : y = Zg d M p j) (hs : c.src (d + p) = some (d + p)) : Zu c y (Zg d (M.set i x) p j):=by
 subst hy;have e : Zg d (M.set i x) p j = Zg d M p j:=by unfold Zg;rw [zg hp]
 rw [e];exact qm hj hs
theorem qG {c : Wc} {d i j : Nat} {M : List Sed} {x : Sed} {y : CV} (hi : i < M.length) (h : Zu c y (bif Nat.beq j 2 then .os (d + i) 0 x.held.length else sedC x j)) : Zu c y (Zg d (M.set i x) i j):=by
 have e : Zg d (M.set i x) i j = bif Nat.beq j 2 then .os (d + i) 0 x.held.length else sedC x j:=by unfold Zg;rw [Qw hi]
 rw [e];exact h
theorem sl_step {L : List Sed} {now : Int} (s : SlI L now) (h : s.i < L.length) : ∀ p,p < s.i + 1 -> (s.M.set s.i (clsS now (s.M.getD s.i default))).getD p default = clsS now (L.getD p default):=λp hp=>by
 by_cases he : p = s.i
 . subst he;rw [Qw (by rw [s.n];exact h),s.h2 _ (Nat.le_refl _)]
 . rw [zg he];exact s.h1 p (by omega)
def SlI.next {L : List Sed} {now : Int} (s : SlI L now) (h : s.i < L.length) (M' : List Sed) (hM : s.M.set s.i (clsS now (s.M.getD s.i default)) = M') : SlI L now:=⟨s.i + 1,M',by rw [<- hM,List.length_set];exact s.n,h,by rw [<- hM];exact sl_step s h,λp hp=>by rw [<- hM,zg (by omega)];exact s.h2 p (by omega)⟩
end Go.Proofs.Ytfaibcgakcmhcaa.AX
namespace Go.Proofs.Ytfaibcgakcmhcaa.AX
theorem zFu {α : Type} {L : List α} {i : Nat} {x : α} (h : i < L.length) : (L.set i x).take (i + 1) = L.take i ++ [x]:=by
 induction L generalizing i with
 | nil=>exact absurd h (Nat.not_lt_zero _)
 | cons a t ih=>
   cases i with
   | zero=>rfl
   | succ i=>show a :: ((t.set i x).take (i + 1)) = a :: (t.take i ++ [x]);rw [ih (by simpa using h)]
theorem zD0 {α : Type} {L : List α} {d : α} {i : Nat} (h : i < L.length) : L.drop i = L.getD i d :: L.drop (i + 1):=by
 rw [List.drop_eq_getElem_cons h,List.getD_eq_getElem?_getD,List.getElem?_eq_getElem h];rfl
def oneH (id now draw : Int) (h : Hel) (b : Nat) : Hel × List Cas:=
 if h.tm.start <= now then ({ h with tm:=(Qr h.tm now (IntKind.u32.wrap (draw + (b : Int)))).1 },if (Qr h.tm now (IntKind.u32.wrap (draw + (b : Int)))).2.1 = true then [⟨id,h.num,h.data⟩] else []) else (h,[])
theorem zCs {id now draw : Int} {h : Hel} {t : List Hel} {b : Nat} : zAo id now draw (h :: t) b = ((oneH id now draw h b).1 :: (zAo id now draw t (b + 1)).1,(oneH id now draw h b).2 ++ (zAo id now draw t (b + 1)).2):=by
 unfold oneH;show (if h.tm.start <= now then _ else _) = _;split
 . split
   . rfl
   . rfl
 . rfl
theorem zFv {id now draw : Int} {h : Hel} {b : Nat} : (oneH id now draw h b).2.length <= 1:=by
 unfold oneH;split
 . split
   . exact Nat.le_refl _
   . exact Nat.zero_le _
 . exact Nat.zero_le _
theorem runH_len2 {id now draw : Int} : ∀ {L : List Hel} {b : Nat},(zAo id now draw L b).2.length <= L.length:=by
 intro L;induction L with
 | nil=>intro _;exact Nat.le_refl _
 | cons h t ih=>
   intro b;rw [zCs];have h1:=zFv (id:=id) (now:=now) (draw:=draw) (h:=h) (b:=b);have h2:=ih (b:=b + 1);show ((oneH id now draw h b).2 ++ (zAo id now draw t (b + 1)).2).length <= t.length + 1;rw [List.length_append];omega
structure StI (M0 : List Sed) (now draw : Int) where
 i : Nat
 M : List Sed
 Z : List Cas
 b : Nat
 n : M.length = M0.length
 hi : i <= M0.length
 hb : b <= 32 * i
 hz : Z.length <= b
 h2 : ∀ p,i <= p -> M.getD p default = M0.getD p default
 r1 : M.take i ++ (runL now draw (M0.drop i) b).1 = (runL now draw M0 0).1
 r2 : Z ++ (runL now draw (M0.drop i) b).2 = (runL now draw M0 0).2
def StI.next {M0 : List Sed} {now draw : Int} (s : StI M0 now draw) (h : s.i < M0.length) (h32 : (M0.getD s.i default).held.length <= 32) : StI M0 now draw where
 i:=s.i + 1
 M:=s.M.set s.i { M0.getD s.i default with held:=(zAo (M0.getD s.i default).id now draw (M0.getD s.i default).held s.b).1 }
 Z:=s.Z ++ (zAo (M0.getD s.i default).id now draw (M0.getD s.i default).held s.b).2
 b:=s.b + (M0.getD s.i default).held.length
 n:=by rw [List.length_set];exact s.n
 hi:=h
 hb:=by have:=s.hb;omega
 hz:=by
  have h1:=s.hz;have h2:=runH_len2 (id:=(M0.getD s.i default).id) (now:=now) (draw:=draw) (L:=(M0.getD s.i default).held) (b:=s.b);rw [List.length_append];omega
 h2 p hp:=by rw [List.getD_eq_getElem?_getD,List.getElem?_set,if_neg (by omega),<- List.getD_eq_getElem?_getD];exact s.h2 p (by omega)
 r1:=by
  have e:=s.r1;rw [zD0 (d:=default) h] at e;rw [zFu (by rw [s.n];exact h),List.append_assoc];exact e
 r2:=by
  have e:=s.r2;rw [zD0 (d:=default) h] at e;rw [List.append_assoc];exact e
structure InI (H0 : List Hel) (id now draw : Int) (b : Nat) (Z0 : List Cas) where
 k : Nat
 H : List Hel
 Z : List Cas
 n : H.length = H0.length
 hk : k <= H0.length
 hz : Z.length <= Z0.length + k
 h2 : ∀ p,k <= p -> H.getD p default = H0.getD p default
 r1 : H.take k ++ (zAo id now draw (H0.drop k) (b + k)).1 = (zAo id now draw H0 b).1
 r2 : Z ++ (zAo id now draw (H0.drop k) (b + k)).2 = Z0 ++ (zAo id now draw H0 b).2
def InI.next {H0 : List Hel} {id now draw : Int} {b : Nat} {Z0 : List Cas} (s : InI H0 id now draw b Z0) (h : s.k < H0.length) (H' : List Hel) (Z' : List Cas) (e1 : s.H.set s.k (oneH id now draw (H0.getD s.k default) (b + s.k)).1 = H') (e2 : s.Z ++ (oneH id now draw (H0.getD s.k default) (b + s.k)).2 = Z') : InI H0 id now draw b Z0 where
 k:=s.k + 1
 H:=H'
 Z:=Z'
 n:=by rw [<- e1,List.length_set];exact s.n
 hk:=h
 hz:=by
  have h1:=s.hz;have h2:=zFv (id:=id) (now:=now) (draw:=draw) (h:=H0.getD s.k default) (b:=b + s.k);rw [<- e2,List.length_append];omega
 h2 p hp:=by rw [<- e1,List.getD_eq_getElem?_getD,List.getElem?_set,if_neg (by omega),<- List.getD_eq_getElem?_getD];exact s.h2 p (by omega)
 r1:=by
  have e:=s.r1;rw [zD0 (d:=default) h,zCs] at e;rw [<- e1,zFu (by rw [s.n];exact h),List.append_assoc];exact e
 r2:=by
  have e:=s.r2;rw [zD0 (d:=default) h,zCs] at e;rw [<- e2,List.append_assoc];exact e
def InI.start (H0 : List Hel) (id now draw : Int) (b : Nat) (Z0 : List Cas) : InI H0 id now draw b Z0:=⟨0,H0,Z0,rfl,Nat.zero_le _,Nat.le_refl _,λ_ _=>rfl,rfl,rfl⟩
theorem InI.last {H0 : List Hel} {id now draw : Int} {b : Nat} {Z0 : List Cas} (s : InI H0 id now draw b Z0) (h : ¬ s.k < H0.length) : s.H = (zAo id now draw H0 b).1 /\ s.Z = Z0 ++ (zAo id now draw H0 b).2:=by
 have hk:=s.hk;have e1:=s.r1;have e2:=s.r2;rw [List.drop_of_length_le (by omega)] at e1 e2;rw [List.take_of_length_le (by rw [s.n];omega)] at e1;rw [<- e1,<- e2];exact ⟨(List.append_nil _).symm,(List.append_nil _).symm⟩
end Go.Proofs.Ytfaibcgakcmhcaa.AX
namespace Go.Proofs.Ytfaibcgakcmhcaa.AX
open Go.RowKit
theorem qI {c : Wc} {t : TypeId} {l : List Hel} {n : Nat} {f : Nat -> Nat -> CV} (h : n = l.length /\ ∀ q,q < l.length -> ∀ j,j < 11 -> Zu c (f q j) (zo zm l q j)) : LeN c ⟨t,n,11,false,f⟩ (Zj zm t l):=⟨rfl,h.1,rfl,rfl,λq hq j hj=>h.2 q (h.1 ▸ hq) j hj⟩
theorem Ym {c : Wc} {l : List Hel} {k : Nat} {t : Trk} {G : Nat -> CV} (hk : k < l.length) (hG : ∀ j,j < 8 -> Zu c (G j) (eTk.cell t j)) : l.length = (l.set k { l.getD k default with tm:=t }).length /\ ∀ q,q < (l.set k { l.getD k default with tm:=t }).length -> ∀ j,j < 11 -> Zu c (zBW false (zo zm l) k (ovw false zm.sz (zo zm l k) (0 + 2) 8 G) q j) (zo zm (l.set k { l.getD k default with tm:=t }) q j):=by
 refine ⟨(List.length_set).symm,λq hq j hj=>?_⟩;by_cases hqk : q = k
 . subst hqk;have e : zo zm (l.set q { l.getD q default with tm:=t }) q j = zm.cell { l.getD q default with tm:=t } j:=congrArg (λz=>zm.cell z j) (by rw [List.getD_eq_getElem?_getD,List.getElem?_set,if_pos rfl,if_pos hk];rfl);rw [e];refine ZU (QE _) ?_;rcases j with _ | j
   . exact zC rfl
   rcases j with _ | j
   . exact (zm.sh _ 1 (by decide)).le
   iterate 8 (rcases j with _ | j;· exact hG _ (by decide))
   rcases j with _ | j
   . exact zC rfl
   exact absurd hj (by omega)
 . have e : zo zm (l.set k { l.getD k default with tm:=t }) q j = zo zm l q j:=congrArg (λz=>zm.cell z j) (by simp only [List.getD_eq_getElem?_getD];rw [List.getElem?_set,if_neg (Ne.symm hqk)]);rw [e,ZJ hqk];exact (zm.sh _ j hj).le
end Go.Proofs.Ytfaibcgakcmhcaa.AX
namespace Go.Proofs.Ytfaibcgakcmhcaa.AX
open Go.RowKit
def StI.start (M0 : List Sed) (now draw : Int) : StI M0 now draw:=⟨0,M0,[],0,rfl,Nat.zero_le _,Nat.le_refl _,Nat.le_refl _,λ_ _=>rfl,rfl,rfl⟩
theorem StI.last {M0 : List Sed} {now draw : Int} (s : StI M0 now draw) (h : ¬ s.i < M0.length) : s.M = (runL now draw M0 0).1 /\ s.Z = (runL now draw M0 0).2:=by
 have hk:=s.hi;have e1:=s.r1;have e2:=s.r2;rw [List.drop_of_length_le (by omega)] at e1 e2;rw [List.take_of_length_le (by rw [s.n];omega)] at e1;rw [<- e1,<- e2];exact ⟨(List.append_nil _).symm,(List.append_nil _).symm⟩
theorem zh {c : Wc} {L : List Sed} {p : Nat} {t : TypeId} {k : Nat} (hd : zX c.H k = some (Zj zm t (L.getD p default).held)) (hk : c.dead k = true) : Zu c (.os k 0 (L.getD p default).held.length) (slN zm (L.getD p default).held):=by
 refine ZQ hd hk rfl rfl (Nat.le_of_eq (Nat.zero_add _)) λq hq j hj=>?_;show Zu c (zo zm (L.getD p default).held (0 + q) j) (zo zm (L.getD p default).held q j);rw [Nat.zero_add];exact (zm.sh _ j hj).le
theorem Qt {c : Wc} {d : Nat} {L : List Sed} {p j : Nat} {t : TypeId} (hj : j < 3) (hd : zX c.H (d + p) = some (Zj zm t (L.getD p default).held)) (hk : c.dead (d + p) = true) : Zu c (Zg d L p j) (zo ZB L p j):=by
 rcases j with _ | _ | _ | j
 . exact zC rfl
 . exact zC rfl
 . exact zh hd hk
 . omega
end Go.Proofs.Ytfaibcgakcmhcaa.AX
namespace Go.Proofs.Ytfaibcgakcmhcaa.AX
open Go.RowKit
structure MapI {α : Type} [Inhabited α] (f : α -> α) (L : List α) where
 i : Nat
 M : List α
 n : M.length = L.length
 hi : i <= L.length
 h1 : ∀ p,p < i -> M.getD p default = f (L.getD p default)
 h2 : ∀ p,i <= p -> M.getD p default = L.getD p default
theorem zFD {α : Type} [Inhabited α] {L : List α} {a p : Nat} {s : α} (h : p ≠ a) : (L.set a s).getD p default = L.getD p default:=by
 rw [List.getD_eq_getElem?_getD,List.getD_eq_getElem?_getD,List.getElem?_set,if_neg (Ne.symm h)]
theorem gset_at {α : Type} [Inhabited α] {L : List α} {a : Nat} {s : α} (h : a < L.length) : (L.set a s).getD a default = s:=by
 rw [List.getD_eq_getElem?_getD,List.getElem?_set,if_pos rfl,if_pos h];rfl
theorem ZH {α : Type} [Inhabited α] {L : List α} {i : Nat} (h : i < L.length) : L.set i (L.getD i default) = L:=by
 apply List.ext_getElem
 . rw [List.length_set]
 . intro k h1 h2;rw [List.getElem_set];split
   . rename_i e;subst e;rw [List.getD_eq_getElem?_getD,List.getElem?_eq_getElem h];rfl
   . rfl
def MapI.start {α : Type} [Inhabited α] (f : α -> α) (L : List α) : MapI f L:=⟨0,L,rfl,Nat.zero_le _,λp hp=>absurd hp (Nat.not_lt_zero p),λ_ _=>rfl⟩
def MapI.next {α : Type} [Inhabited α] {f : α -> α} {L : List α} (s : MapI f L) (h : s.i < L.length) (M' : List α) (hM : s.M.set s.i (f (L.getD s.i default)) = M') : MapI f L where
 i:=s.i + 1
 M:=M'
 n:=by rw [<- hM,List.length_set];exact s.n
 hi:=h
 h1 p hp:=by
  rw [<- hM];by_cases he : p = s.i
  . subst he;exact gset_at (by rw [s.n];exact h)
  . rw [zFD he];exact s.h1 p (by omega)
 h2 p hp:=by rw [<- hM,zFD (by omega)];exact s.h2 p (by omega)
theorem MapI.last {α : Type} [Inhabited α] {f : α -> α} {L : List α} (s : MapI f L) (h : ¬ s.i < L.length) : s.M = L.map f:=by
 apply List.ext_getElem
 . rw [List.length_map];exact s.n
 . intro k h1 h2;have hk : k < L.length:=by rw [<- s.n];exact h1
   have e:=s.h1 k (by omega);rw [List.getD_eq_getElem?_getD,List.getElem?_eq_getElem h1,List.getD_eq_getElem?_getD,List.getElem?_eq_getElem hk] at e;rw [List.getElem_map];exact e
abbrev lacksE : Zk:=qr (AC.cons (cNS ZB qA) (AC.cons (cE zu) AC.nil)) (λa=>LkI a.1 a.2.1) (λa=>qy a.1 a.2.1) cB.enc
def LMq : CsL:=(31,some zEh) :: (32,some zC5) :: (34,some clone8E) :: (51,some vsmsE) :: (52,some hasE) :: (54,some lacksE) :: LTk
theorem qz : qV Try.prog LMq:=⟨zx ⟨_,Try.func31,rfl,by kernel_rfl⟩ λa h=>zCY a.1 h,zx ⟨_,Try.func32,rfl,by kernel_rfl⟩ λa _=>zCZ a.1,zGO,zx ⟨_,Try.func51,rfl,by kernel_rfl⟩ λa h=>vsms_ok a.1 h,zx ⟨_,Try.func52,rfl,by kernel_rfl⟩ λa h=>has_ok a.1 a.2.1 h,zx ⟨_,Try.func54,rfl,by kernel_rfl⟩ λa h=>lacks_ok a.1 a.2.1 h,zCn⟩
def SC (L : List Sed) (S : List Smy) (now draw : Int) (s : MapI (QU S now draw) L) : Hd:=⟨[(0,zL (ZT ZB L)),(1,zL (.int .i64 now)),(2,zL (Qy zu S)),(3,zL (.int .u32 draw)),(11,zL (.os 1 0 s.M.length)),(35,zL (.int .i64 (L.length : Int))),(36,zL (.int .i64 (s.i : Int)))],(1,some (qp 2 s.M.length s.M)) :: hepP 2 s.M,10⟩
theorem qd {l : List Hel} {k : Nat} {h : Hel} {c : Wc} {g : Nat -> CV} (hk : k < l.length) (hg : ∀ j,j < 11 -> Zu c (g j) (zm.cell h j)) : l.length = (l.set k h).length /\ ∀ q,q < (l.set k h).length -> ∀ j,j < 11 -> Zu c (zBW false (zo zm l) k g q j) (zo zm (l.set k h) q j):=by
 refine ⟨(List.length_set).symm,λq hq j hj=>?_⟩;by_cases hqk : q = k
 . subst hqk;have e : zo zm (l.set q h) q j = zm.cell h j:=congrArg (λz=>zm.cell z j) (gset_at hk);rw [e];exact ZU (QE _) (hg j hj)
 . have e : zo zm (l.set k h) q j = zo zm l q j:=congrArg (λz=>zm.cell z j) (zFD hqk);rw [e,ZJ hqk];exact (zm.sh _ j hj).le
theorem qn {P : Nat -> Prop} (h : P 0 /\ P 1 /\ P 2 /\ P 3 /\ P 4 /\ P 5 /\ P 6 /\ P 7 /\ P 8 /\ P 9 /\ P 10) : ∀ j,j < 11 -> P j:=λj hj=>by
 obtain ⟨h0,h1,h2,h3,h4,h5,h6,h7,h8,h9,h10⟩:=h;rcases (show j = 0 \/ j = 1 \/ j = 2 \/ j = 3 \/ j = 4 \/ j = 5 \/ j = 6 \/ j = 7 \/ j = 8 \/ j = 9 \/ j = 10 by omega) with rfl | rfl | rfl | rfl | rfl | rfl | rfl | rfl | rfl | rfl | rfl<;>assumption
theorem Qa {m : Smy} {now draw : Int} {h : Hel} {T : Trk × Int} (h1 : m.mn <= h.num) (h2 : YC m h.num = false) (eT : Zq h.tm now draw = T) : zAC m now draw h = { h with tm:=T.1 }:=by
 subst eT;exact if_pos ⟨h1,h2⟩
theorem Ql {m : Smy} {now draw : Int} {h : Hel} (h1 : ¬ m.mn <= h.num) : zAC m now draw h = h:=if_neg λg=>h1 g.1
theorem Qm {m : Smy} {now draw : Int} {h : Hel} (h1 : YC m h.num = true) : zAC m now draw h = h:=if_neg λg=>by rw [h1] at g;cases g.2
theorem qh {c : Wc} {d n : Nat} {M : List Sed} (h : ∀ p,p < 8 -> c.src (d + p) = some (d + p)) (hn : n <= 8:=by decide) : LeN c (qp d n M) (qp d n M):=zQ hn h
theorem zAR {x : List Hel} {k : Nat} (h : k < x.length) : x.take (k + 1) = x.take k ++ [x.getD k default]:=by
 rw [List.take_add_one,List.getD_eq_getElem?_getD,List.getElem?_eq_getElem h];rfl
theorem QP {c : Wc} {t : TypeId} {Z : List Hel} {x : Hel} {n : Nat} {g z : Nat -> CV} (hn : n = Z.length) (h : ∀ j,j < 11 -> Zu c (g j) (zm.cell x j)) : LeN c ⟨t,n + 1,11,false,λk j=>Zp (Nat.blt k n) (zo zm Z k j) (Zp (Nat.beq (0 + (k - n)) 0) (g j) (z j))⟩ (Zj zm t (Z ++ [x])):=by
 subst hn;refine ⟨rfl,by show _ = (Z ++ [x]).length;rw [List.length_append];rfl,rfl,rfl,λk hk j hj=>?_⟩;have hk : k < Z.length + 1:=hk;by_cases hkz : k < Z.length
 . refine ZU (Nat.ble_eq_true_of_le hkz) ?_;have e : zo zm (Z ++ [x]) k j = zo zm Z k j:=congrArg (λz=>zm.cell z j) (by rw [List.getD_eq_getElem?_getD,List.getElem?_append_left hkz,<- List.getD_eq_getElem?_getD]);show Zu c _ (zo zm (Z ++ [x]) k j);rw [e];exact (zm.sh _ j hj).le
 . obtain rfl : k = Z.length:=by omega
   refine Zd (Zt _) (ZU (by rw [Nat.sub_self];rfl) ?_);have e : zo zm (Z ++ [x]) Z.length j = zm.cell x j:=congrArg (λz=>zm.cell z j) (by simp [List.getD_eq_getElem?_getD]);show Zu c _ (zo zm (Z ++ [x]) Z.length j);rw [e];exact h j hj
theorem zAm {c : Wc} {t : TypeId} {e : Ent} {l l' : List Hel} (h : LeN c e (Zj zm t l)) (hl : l' = l) : LeN c e (Zj zm t l'):=by subst hl;exact h
theorem rcopy_ok (L : List Sed) (hL : Cl8 L) : zB2 Try.prog 43 [(cNS ZB qA).enc L] (zL (.os 0 0 L.length)) (Ents8 1 L):=by
 have hn:=hL.n;refine zBB (wd:=1) (by decide) zN (zb qC) zP Try.func43 rfl _ (by show 1 <= _;decide) ?_;repeat' (first | (apply And.intro<;>intro hc<;>(first | exact Bool.noConfusion hc | (exfalso;first | exact absurd rfl hc | omega) | (simp only [zl] at hc<;>first | exact absurd rfl hc | (exfalso;first | exact absurd rfl hc | omega) | skip) | skip)) | (refine And.intro zj ?_) | (apply And.intro) | (intro s hs;skip) | (refine Exists.intro _ (And.intro ⟨rfl,rfl,rfl⟩ ?_)))
 conv=>whnf
 refine zU (zV qC) (λs : {i : Nat // i <= L.length}=>(⟨[(3,zL (.os 50 0 s.1)),(9,zL (ZT ZB L)),(10,zL (.int .i64 (L.length : Int))),(11,zL (.int .i64 (s.1 : Int)))],[(50,some (qp 51 s.1 L)),(51,some (zS (Zx L s.1 0))),(52,some (zS (Zx L s.1 1))),(53,some (zS (Zx L s.1 2))),(54,some (zS (Zx L s.1 3))),(55,some (zS (Zx L s.1 4))),(56,some (zS (Zx L s.1 5))),(57,some (zS (Zx L s.1 6))),(58,some (zS (Zx L s.1 7)))],59⟩ : Hd)) (λs=>L.length - s.1) (λ_=>rfl) ?_ ⟨0,Nat.zero_le _⟩ [(50,none),(51,none),(52,none),(53,none),(54,none),(55,none),(56,none),(57,none),(58,none)] ⟨rfl,⟨zD (Zh rfl),zD (zJ (zI L)),zB rfl,zB rfl,trivial⟩,⟨⟨rfl,rfl,rfl,Nat.le_of_ble_eq_true rfl⟩,⟨rfl,rfl,rfl,Nat.le_of_ble_eq_true rfl⟩,⟨rfl,rfl,rfl,Nat.le_of_ble_eq_true rfl⟩,⟨rfl,rfl,rfl,Nat.le_of_ble_eq_true rfl⟩,⟨rfl,rfl,rfl,Nat.le_of_ble_eq_true rfl⟩,⟨rfl,rfl,rfl,Nat.le_of_ble_eq_true rfl⟩,⟨rfl,rfl,rfl,Nat.le_of_ble_eq_true rfl⟩,⟨rfl,rfl,rfl,Nat.le_of_ble_eq_true rfl⟩,⟨rfl,rfl,rfl,Nat.le_of_ble_eq_true rfl⟩,trivial⟩⟩;rintro ⟨i,hi⟩;dsimp only at hi ⊢;unfold ZT;by_cases hil : i < L.length
 . have w3 : IntKind.i64.wrap ((i : Int) + 1) = ((i + 1 : Nat) : Int):=(IntWalk.i64_in _ (by omega)).trans (by omega);have hk:=hL.k _ (QV hil);rcases (show i = 0 \/ i = 1 \/ i = 2 \/ i = 3 \/ i = 4 \/ i = 5 \/ i = 6 \/ i = 7 by omega) with rfl | rfl | rfl | rfl | rfl | rfl | rfl | rfl
   . obtain ⟨x,ex⟩ : ∃ x,L.getD 0 default = x:=⟨_,rfl⟩;have ec : zo ZB L 0 = ZB.cell x:=congrArg ZB.cell ex;have zi : ((0 : Nat) : Int).toNat = 0:=rfl;rw [ex] at hk;repeat' (first | (simp only [zi,ec]) | (apply And.intro<;>intro hc<;>(first | exact Bool.noConfusion hc | (exfalso;first | exact absurd rfl hc | omega) | (simp only [zl] at hc<;>first | exact absurd rfl hc | (exfalso;first | exact absurd rfl hc | omega) | skip) | skip)) | (refine And.intro zj ?_) | (apply And.intro) | (intro s hs;skip) | (refine Exists.intro _ (And.intro ⟨rfl,rfl,rfl⟩ ?_)))
     conv=>whnf
     refine zU (zV qC) (λs : {k : Nat // k <= x.held.length}=>(⟨[(3,zL (.os 50 0 0)),(9,zL (ZT ZB L)),(10,zL (.int .i64 (L.length : Int))),(11,zL (.int .i64 ((0 : Nat) : Int))),(5,zL (.ptr 60 0 0 false)),(6,zL (.os 59 0 s.1)),(16,zL (slN zm x.held)),(17,zL (.int .i64 (x.held.length : Int))),(18,zL (.int .i64 (s.1 : Int)))],[(50,some (qp 51 0 L)),(51,some (zS (Zx L 0 0))),(52,some (zS (Zx L 0 1))),(53,some (zS (Zx L 0 2))),(54,some (zS (Zx L 0 3))),(55,some (zS (Zx L 0 4))),(56,some (zS (Zx L 0 5))),(57,some (zS (Zx L 0 6))),(58,some (zS (Zx L 0 7))),(59,some (zS (x.held.take s.1))),(60,some ⟨78,1,3,true,λ_=>ZB.cell x⟩)],61⟩ : Hd)) (λs=>x.held.length - s.1) (λ_=>rfl) ?_ ⟨0,Nat.zero_le _⟩ [(59,none),(60,some 62)] ⟨rfl,⟨zD (zH rfl rfl),zD (zJ (zI L)),zB rfl,zB rfl,zF rfl,zD (Zh rfl),zD (qK _).le,zB rfl,zB rfl,trivial⟩,⟨⟨rfl,qh (qJ rfl rfl rfl rfl rfl rfl rfl rfl)⟩,⟨rfl,zA⟩,⟨rfl,zA⟩,⟨rfl,zA⟩,⟨rfl,zA⟩,⟨rfl,zA⟩,⟨rfl,zA⟩,⟨rfl,zA⟩,⟨rfl,zA⟩,⟨rfl,rfl,rfl,Nat.le_of_ble_eq_true rfl⟩,⟨rfl,zE λj hj=>(ZB.sh _ j hj).le⟩,trivial⟩⟩;rintro ⟨k,hkx⟩;dsimp only at hkx ⊢;unfold ZT;by_cases hkl : k < x.held.length
     . have w5 : IntKind.i64.wrap ((k : Int) + 1) = ((k + 1 : Nat) : Int):=(IntWalk.i64_in _ (by have:=hk.n;omega)).trans (by omega);obtain ⟨h,eh⟩ : ∃ h,x.held.getD k default = h:=⟨_,rfl⟩;have eck : zo zm x.held k = zm.cell h:=congrArg zm.cell eh;have zk : (k : Int).toNat = k:=rfl;have hd:=hk.d _ (QV hkl);rw [eh] at hd;have hkn:=hk.n;repeat' (first | (simp only [zk,eck]) | (apply And.intro<;>intro hc<;>(first | exact Bool.noConfusion hc | (exfalso;first | exact absurd rfl hc | omega) | (simp only [zl] at hc<;>first | exact absurd rfl hc | (exfalso;first | exact absurd rfl hc | omega) | skip) | skip)) | (refine And.intro zj ?_) | (apply And.intro) | (intro s hs;skip) | (refine Exists.intro _ (And.intro ⟨rfl,rfl,rfl⟩ ?_)))
       . rw [List.length_take];omega
       . show k + 1 <= 9223372036854775807;omega
       conv=>whnf
       refine ⟨⟨k + 1,hkl⟩,[(59,some 74)],by dsimp only;omega,rfl,⟨zD (zH rfl rfl),zD (zJ (zI L)),zB rfl,zB rfl,zF rfl,zD (zH rfl rfl),zD (qK _).le,zB rfl,zB w5,trivial⟩,⟨⟨rfl,qh (qJ rfl rfl rfl rfl rfl rfl rfl rfl)⟩,⟨rfl,zA⟩,⟨rfl,zA⟩,⟨rfl,zA⟩,⟨rfl,zA⟩,⟨rfl,zA⟩,⟨rfl,zA⟩,⟨rfl,zA⟩,⟨rfl,zA⟩,⟨rfl,zAm (QP (Z:=x.held.take k) (x:=h) (by rw [List.length_take];omega) (qn ⟨zC rfl,ZQ rfl rfl rfl rfl (Nat.le_of_eq (Nat.zero_add _)) (λq hq j hj=>?_),zC rfl,zC rfl,zC rfl,zC rfl,zC rfl,zC rfl,zC rfl,zW rfl,zC rfl⟩)) (by rw [zAR hkl,eh])⟩,⟨rfl,zE λj hj=>(ZB.sh _ j hj).le⟩,trivial⟩⟩;show Zu _ (QG eB h.data (0 + q) j) (QG eB h.data q j);exact zC (congrArg (λz=>h.data.getD z default) (Nat.zero_add q))
     . obtain rfl : k = x.held.length:=by omega
       repeat' (first | (apply And.intro<;>intro hc<;>(first | exact Bool.noConfusion hc | (exfalso;first | exact absurd rfl hc | omega) | (simp only [zl] at hc<;>first | exact absurd rfl hc | (exfalso;first | exact absurd rfl hc | omega) | skip) | skip)) | (refine And.intro zj ?_) | (apply And.intro) | (intro s hs;skip) | (refine Exists.intro _ (And.intro ⟨rfl,rfl,rfl⟩ ?_)))
       conv=>whnf
       refine ⟨⟨1,hil⟩,[(50,some 68),(51,some 59)],by dsimp only;omega,rfl,⟨zD (zH rfl rfl),zD (zJ (zI L)),zB rfl,zB w3,trivial⟩,⟨⟨rfl,⟨rfl,rfl,rfl,rfl,λp hp j hj=>?_⟩⟩,⟨rfl,zR ((List.take_length).trans (congrArg Sed.held ex).symm)⟩,⟨rfl,zA⟩,⟨rfl,zA⟩,⟨rfl,zA⟩,⟨rfl,zA⟩,⟨rfl,zA⟩,⟨rfl,zA⟩,⟨rfl,zA⟩,trivial⟩⟩;have hp' : p < 1:=hp;have hj' : j < 3:=hj;show Zu _ (Zp (Nat.blt p 0) (Zg 51 L p j) _) (Zg 51 L p j);by_cases hpi : p < 0
       . refine ZU (Nat.ble_eq_true_of_le hpi) ?_;exact absurd hpi (Nat.not_lt_zero p)
       . obtain rfl : p = 0:=by omega
         refine Zd (Zt _) ?_;rcases j with _ | _ | _ | j
         . exact zC (congrArg Sed.id ex).symm
         . exact zC (congrArg Sed.mn ex).symm
         . exact zH rfl (congrArg (λz : Sed=>z.held.length) ex).symm
         . omega
   . obtain ⟨x,ex⟩ : ∃ x,L.getD 1 default = x:=⟨_,rfl⟩;have ec : zo ZB L 1 = ZB.cell x:=congrArg ZB.cell ex;have zi : ((1 : Nat) : Int).toNat = 1:=rfl;rw [ex] at hk;repeat' (first | (simp only [zi,ec]) | (apply And.intro<;>intro hc<;>(first | exact Bool.noConfusion hc | (exfalso;first | exact absurd rfl hc | omega) | (simp only [zl] at hc<;>first | exact absurd rfl hc | (exfalso;first | exact absurd rfl hc | omega) | skip) | skip)) | (refine And.intro zj ?_) | (apply And.intro) | (intro s hs;skip) | (refine Exists.intro _ (And.intro ⟨rfl,rfl,rfl⟩ ?_)))
     conv=>whnf
     refine zU (zV qC) (λs : {k : Nat // k <= x.held.length}=>(⟨[(3,zL (.os 50 0 1)),(9,zL (ZT ZB L)),(10,zL (.int .i64 (L.length : Int))),(11,zL (.int .i64 ((1 : Nat) : Int))),(5,zL (.ptr 60 0 0 false)),(6,zL (.os 59 0 s.1)),(16,zL (slN zm x.held)),(17,zL (.int .i64 (x.held.length : Int))),(18,zL (.int .i64 (s.1 : Int)))],[(50,some (qp 51 1 L)),(51,some (zS (Zx L 1 0))),(52,some (zS (Zx L 1 1))),(53,some (zS (Zx L 1 2))),(54,some (zS (Zx L 1 3))),(55,some (zS (Zx L 1 4))),(56,some (zS (Zx L 1 5))),(57,some (zS (Zx L 1 6))),(58,some (zS (Zx L 1 7))),(59,some (zS (x.held.take s.1))),(60,some ⟨78,1,3,true,λ_=>ZB.cell x⟩)],61⟩ : Hd)) (λs=>x.held.length - s.1) (λ_=>rfl) ?_ ⟨0,Nat.zero_le _⟩ [(59,none),(60,some 62)] ⟨rfl,⟨zD (zH rfl rfl),zD (zJ (zI L)),zB rfl,zB rfl,zF rfl,zD (Zh rfl),zD (qK _).le,zB rfl,zB rfl,trivial⟩,⟨⟨rfl,qh (qJ rfl rfl rfl rfl rfl rfl rfl rfl)⟩,⟨rfl,zA⟩,⟨rfl,zA⟩,⟨rfl,zA⟩,⟨rfl,zA⟩,⟨rfl,zA⟩,⟨rfl,zA⟩,⟨rfl,zA⟩,⟨rfl,zA⟩,⟨rfl,rfl,rfl,Nat.le_of_ble_eq_true rfl⟩,⟨rfl,zE λj hj=>(ZB.sh _ j hj).le⟩,trivial⟩⟩;rintro ⟨k,hkx⟩;dsimp only at hkx ⊢;unfold ZT;by_cases hkl : k < x.held.length
     . have w5 : IntKind.i64.wrap ((k : Int) + 1) = ((k + 1 : Nat) : Int):=(IntWalk.i64_in _ (by have:=hk.n;omega)).trans (by omega);obtain ⟨h,eh⟩ : ∃ h,x.held.getD k default = h:=⟨_,rfl⟩;have eck : zo zm x.held k = zm.cell h:=congrArg zm.cell eh;have zk : (k : Int).toNat = k:=rfl;have hd:=hk.d _ (QV hkl);rw [eh] at hd;have hkn:=hk.n;repeat' (first | (simp only [zk,eck]) | (apply And.intro<;>intro hc<;>(first | exact Bool.noConfusion hc | (exfalso;first | exact absurd rfl hc | omega) | (simp only [zl] at hc<;>first | exact absurd rfl hc | (exfalso;first | exact absurd rfl hc | omega) | skip) | skip)) | (refine And.intro zj ?_) | (apply And.intro) | (intro s hs;skip) | (refine Exists.intro _ (And.intro ⟨rfl,rfl,rfl⟩ ?_)))
       . rw [List.length_take];omega
       . show k + 1 <= 9223372036854775807;omega
       conv=>whnf
       refine ⟨⟨k + 1,hkl⟩,[(59,some 74)],by dsimp only;omega,rfl,⟨zD (zH rfl rfl),zD (zJ (zI L)),zB rfl,zB rfl,zF rfl,zD (zH rfl rfl),zD (qK _).le,zB rfl,zB w5,trivial⟩,⟨⟨rfl,qh (qJ rfl rfl rfl rfl rfl rfl rfl rfl)⟩,⟨rfl,zA⟩,⟨rfl,zA⟩,⟨rfl,zA⟩,⟨rfl,zA⟩,⟨rfl,zA⟩,⟨rfl,zA⟩,⟨rfl,zA⟩,⟨rfl,zA⟩,⟨rfl,zAm (QP (Z:=x.held.take k) (x:=h) (by rw [List.length_take];omega) (qn ⟨zC rfl,ZQ rfl rfl rfl rfl (Nat.le_of_eq (Nat.zero_add _)) (λq hq j hj=>?_),zC rfl,zC rfl,zC rfl,zC rfl,zC rfl,zC rfl,zC rfl,zW rfl,zC rfl⟩)) (by rw [zAR hkl,eh])⟩,⟨rfl,zE λj hj=>(ZB.sh _ j hj).le⟩,trivial⟩⟩;show Zu _ (QG eB h.data (0 + q) j) (QG eB h.data q j);exact zC (congrArg (λz=>h.data.getD z default) (Nat.zero_add q))
     . obtain rfl : k = x.held.length:=by omega
       repeat' (first | (apply And.intro<;>intro hc<;>(first | exact Bool.noConfusion hc | (exfalso;first | exact absurd rfl hc | omega) | (simp only [zl] at hc<;>first | exact absurd rfl hc | (exfalso;first | exact absurd rfl hc | omega) | skip) | skip)) | (refine And.intro zj ?_) | (apply And.intro) | (intro s hs;skip) | (refine Exists.intro _ (And.intro ⟨rfl,rfl,rfl⟩ ?_)))
       conv=>whnf
       refine ⟨⟨2,hil⟩,[(50,some 68),(52,some 59)],by dsimp only;omega,rfl,⟨zD (zH rfl rfl),zD (zJ (zI L)),zB rfl,zB w3,trivial⟩,⟨⟨rfl,⟨rfl,rfl,rfl,rfl,λp hp j hj=>?_⟩⟩,⟨rfl,zA⟩,⟨rfl,zR ((List.take_length).trans (congrArg Sed.held ex).symm)⟩,⟨rfl,zA⟩,⟨rfl,zA⟩,⟨rfl,zA⟩,⟨rfl,zA⟩,⟨rfl,zA⟩,⟨rfl,zA⟩,trivial⟩⟩;have hp' : p < 2:=hp;have hj' : j < 3:=hj;show Zu _ (Zp (Nat.blt p 1) (Zg 51 L p j) _) (Zg 51 L p j);by_cases hpi : p < 1
       . refine ZU (Nat.ble_eq_true_of_le hpi) ?_;rcases (show p = 0 by omega) with rfl<;>exact qm hj' rfl
       . obtain rfl : p = 1:=by omega
         refine Zd (Zt _) ?_;rcases j with _ | _ | _ | j
         . exact zC (congrArg Sed.id ex).symm
         . exact zC (congrArg Sed.mn ex).symm
         . exact zH rfl (congrArg (λz : Sed=>z.held.length) ex).symm
         . omega
   . obtain ⟨x,ex⟩ : ∃ x,L.getD 2 default = x:=⟨_,rfl⟩;have ec : zo ZB L 2 = ZB.cell x:=congrArg ZB.cell ex;have zi : ((2 : Nat) : Int).toNat = 2:=rfl;rw [ex] at hk;repeat' (first | (simp only [zi,ec]) | (apply And.intro<;>intro hc<;>(first | exact Bool.noConfusion hc | (exfalso;first | exact absurd rfl hc | omega) | (simp only [zl] at hc<;>first | exact absurd rfl hc | (exfalso;first | exact absurd rfl hc | omega) | skip) | skip)) | (refine And.intro zj ?_) | (apply And.intro) | (intro s hs;skip) | (refine Exists.intro _ (And.intro ⟨rfl,rfl,rfl⟩ ?_)))
     conv=>whnf
     refine zU (zV qC) (λs : {k : Nat // k <= x.held.length}=>(⟨[(3,zL (.os 50 0 2)),(9,zL (ZT ZB L)),(10,zL (.int .i64 (L.length : Int))),(11,zL (.int .i64 ((2 : Nat) : Int))),(5,zL (.ptr 60 0 0 false)),(6,zL (.os 59 0 s.1)),(16,zL (slN zm x.held)),(17,zL (.int .i64 (x.held.length : Int))),(18,zL (.int .i64 (s.1 : Int)))],[(50,some (qp 51 2 L)),(51,some (zS (Zx L 2 0))),(52,some (zS (Zx L 2 1))),(53,some (zS (Zx L 2 2))),(54,some (zS (Zx L 2 3))),(55,some (zS (Zx L 2 4))),(56,some (zS (Zx L 2 5))),(57,some (zS (Zx L 2 6))),(58,some (zS (Zx L 2 7))),(59,some (zS (x.held.take s.1))),(60,some ⟨78,1,3,true,λ_=>ZB.cell x⟩)],61⟩ : Hd)) (λs=>x.held.length - s.1) (λ_=>rfl) ?_ ⟨0,Nat.zero_le _⟩ [(59,none),(60,some 62)] ⟨rfl,⟨zD (zH rfl rfl),zD (zJ (zI L)),zB rfl,zB rfl,zF rfl,zD (Zh rfl),zD (qK _).le,zB rfl,zB rfl,trivial⟩,⟨⟨rfl,qh (qJ rfl rfl rfl rfl rfl rfl rfl rfl)⟩,⟨rfl,zA⟩,⟨rfl,zA⟩,⟨rfl,zA⟩,⟨rfl,zA⟩,⟨rfl,zA⟩,⟨rfl,zA⟩,⟨rfl,zA⟩,⟨rfl,zA⟩,⟨rfl,rfl,rfl,Nat.le_of_ble_eq_true rfl⟩,⟨rfl,zE λj hj=>(ZB.sh _ j hj).le⟩,trivial⟩⟩;rintro ⟨k,hkx⟩;dsimp only at hkx ⊢;unfold ZT;by_cases hkl : k < x.held.length
     . have w5 : IntKind.i64.wrap ((k : Int) + 1) = ((k + 1 : Nat) : Int):=(IntWalk.i64_in _ (by have:=hk.n;omega)).trans (by omega);obtain ⟨h,eh⟩ : ∃ h,x.held.getD k default = h:=⟨_,rfl⟩;have eck : zo zm x.held k = zm.cell h:=congrArg zm.cell eh;have zk : (k : Int).toNat = k:=rfl;have hd:=hk.d _ (QV hkl);rw [eh] at hd;have hkn:=hk.n;repeat' (first | (simp only [zk,eck]) | (apply And.intro<;>intro hc<;>(first | exact Bool.noConfusion hc | (exfalso;first | exact absurd rfl hc | omega) | (simp only [zl] at hc<;>first | exact absurd rfl hc | (exfalso;first | exact absurd rfl hc | omega) | skip) | skip)) | (refine And.intro zj ?_) | (apply And.intro) | (intro s hs;skip) | (refine Exists.intro _ (And.intro ⟨rfl,rfl,rfl⟩ ?_)))
       . rw [List.length_take];omega
       . show k + 1 <= 9223372036854775807;omega
       conv=>whnf
       refine ⟨⟨k + 1,hkl⟩,[(59,some 74)],by dsimp only;omega,rfl,⟨zD (zH rfl rfl),zD (zJ (zI L)),zB rfl,zB rfl,zF rfl,zD (zH rfl rfl),zD (qK _).le,zB rfl,zB w5,trivial⟩,⟨⟨rfl,qh (qJ rfl rfl rfl rfl rfl rfl rfl rfl)⟩,⟨rfl,zA⟩,⟨rfl,zA⟩,⟨rfl,zA⟩,⟨rfl,zA⟩,⟨rfl,zA⟩,⟨rfl,zA⟩,⟨rfl,zA⟩,⟨rfl,zA⟩,⟨rfl,zAm (QP (Z:=x.held.take k) (x:=h) (by rw [List.length_take];omega) (qn ⟨zC rfl,ZQ rfl rfl rfl rfl (Nat.le_of_eq (Nat.zero_add _)) (λq hq j hj=>?_),zC rfl,zC rfl,zC rfl,zC rfl,zC rfl,zC rfl,zC rfl,zW rfl,zC rfl⟩)) (by rw [zAR hkl,eh])⟩,⟨rfl,zE λj hj=>(ZB.sh _ j hj).le⟩,trivial⟩⟩;show Zu _ (QG eB h.data (0 + q) j) (QG eB h.data q j);exact zC (congrArg (λz=>h.data.getD z default) (Nat.zero_add q))
     . obtain rfl : k = x.held.length:=by omega
       repeat' (first | (apply And.intro<;>intro hc<;>(first | exact Bool.noConfusion hc | (exfalso;first | exact absurd rfl hc | omega) | (simp only [zl] at hc<;>first | exact absurd rfl hc | (exfalso;first | exact absurd rfl hc | omega) | skip) | skip)) | (refine And.intro zj ?_) | (apply And.intro) | (intro s hs;skip) | (refine Exists.intro _ (And.intro ⟨rfl,rfl,rfl⟩ ?_)))
       conv=>whnf
       refine ⟨⟨3,hil⟩,[(50,some 68),(53,some 59)],by dsimp only;omega,rfl,⟨zD (zH rfl rfl),zD (zJ (zI L)),zB rfl,zB w3,trivial⟩,⟨⟨rfl,⟨rfl,rfl,rfl,rfl,λp hp j hj=>?_⟩⟩,⟨rfl,zA⟩,⟨rfl,zA⟩,⟨rfl,zR ((List.take_length).trans (congrArg Sed.held ex).symm)⟩,⟨rfl,zA⟩,⟨rfl,zA⟩,⟨rfl,zA⟩,⟨rfl,zA⟩,⟨rfl,zA⟩,trivial⟩⟩;have hp' : p < 3:=hp;have hj' : j < 3:=hj;show Zu _ (Zp (Nat.blt p 2) (Zg 51 L p j) _) (Zg 51 L p j);by_cases hpi : p < 2
       . refine ZU (Nat.ble_eq_true_of_le hpi) ?_;rcases (show p = 0 \/ p = 1 by omega) with rfl | rfl<;>exact qm hj' rfl
       . obtain rfl : p = 2:=by omega
         refine Zd (Zt _) ?_;rcases j with _ | _ | _ | j
         . exact zC (congrArg Sed.id ex).symm
         . exact zC (congrArg Sed.mn ex).symm
         . exact zH rfl (congrArg (λz : Sed=>z.held.length) ex).symm
         . omega
   . obtain ⟨x,ex⟩ : ∃ x,L.getD 3 default = x:=⟨_,rfl⟩;have ec : zo ZB L 3 = ZB.cell x:=congrArg ZB.cell ex;have zi : ((3 : Nat) : Int).toNat = 3:=rfl;rw [ex] at hk;repeat' (first | (simp only [zi,ec]) | (apply And.intro<;>intro hc<;>(first | exact Bool.noConfusion hc | (exfalso;first | exact absurd rfl hc | omega) | (simp only [zl] at hc<;>first | exact absurd rfl hc | (exfalso;first | exact absurd rfl hc | omega) | skip) | skip)) | (refine And.intro zj ?_) | (apply And.intro) | (intro s hs;skip) | (refine Exists.intro _ (And.intro ⟨rfl,rfl,rfl⟩ ?_)))
     conv=>whnf
     refine zU (zV qC) (λs : {k : Nat // k <= x.held.length}=>(⟨[(3,zL (.os 50 0 3)),(9,zL (ZT ZB L)),(10,zL (.int .i64 (L.length : Int))),(11,zL (.int .i64 ((3 : Nat) : Int))),(5,zL (.ptr 60 0 0 false)),(6,zL (.os 59 0 s.1)),(16,zL (slN zm x.held)),(17,zL (.int .i64 (x.held.length : Int))),(18,zL (.int .i64 (s.1 : Int)))],[(50,some (qp 51 3 L)),(51,some (zS (Zx L 3 0))),(52,some (zS (Zx L 3 1))),(53,some (zS (Zx L 3 2))),(54,some (zS (Zx L 3 3))),(55,some (zS (Zx L 3 4))),(56,some (zS (Zx L 3 5))),(57,some (zS (Zx L 3 6))),(58,some (zS (Zx L 3 7))),(59,some (zS (x.held.take s.1))),(60,some ⟨78,1,3,true,λ_=>ZB.cell x⟩)],61⟩ : Hd)) (λs=>x.held.length - s.1) (λ_=>rfl) ?_ ⟨0,Nat.zero_le _⟩ [(59,none),(60,some 62)] ⟨rfl,⟨zD (zH rfl rfl),zD (zJ (zI L)),zB rfl,zB rfl,zF rfl,zD (Zh rfl),zD (qK _).le,zB rfl,zB rfl,trivial⟩,⟨⟨rfl,qh (qJ rfl rfl rfl rfl rfl rfl rfl rfl)⟩,⟨rfl,zA⟩,⟨rfl,zA⟩,⟨rfl,zA⟩,⟨rfl,zA⟩,⟨rfl,zA⟩,⟨rfl,zA⟩,⟨rfl,zA⟩,⟨rfl,zA⟩,⟨rfl,rfl,rfl,Nat.le_of_ble_eq_true rfl⟩,⟨rfl,zE λj hj=>(ZB.sh _ j hj).le⟩,trivial⟩⟩;rintro ⟨k,hkx⟩;dsimp only at hkx ⊢;unfold ZT;by_cases hkl : k < x.held.length
     . have w5 : IntKind.i64.wrap ((k : Int) + 1) = ((k + 1 : Nat) : Int):=(IntWalk.i64_in _ (by have:=hk.n;omega)).trans (by omega);obtain ⟨h,eh⟩ : ∃ h,x.held.getD k default = h:=⟨_,rfl⟩;have eck : zo zm x.held k = zm.cell h:=congrArg zm.cell eh;have zk : (k : Int).toNat = k:=rfl;have hd:=hk.d _ (QV hkl);rw [eh] at hd;have hkn:=hk.n;repeat' (first | (simp only [zk,eck]) | (apply And.intro<;>intro hc<;>(first | exact Bool.noConfusion hc | (exfalso;first | exact absurd rfl hc | omega) | (simp only [zl] at hc<;>first | exact absurd rfl hc | (exfalso;first | exact absurd rfl hc | omega) | skip) | skip)) | (refine And.intro zj ?_) | (apply And.intro) | (intro s hs;skip) | (refine Exists.intro _ (And.intro ⟨rfl,rfl,rfl⟩ ?_)))
       . rw [List.length_take];omega
       . show k + 1 <= 9223372036854775807;omega
       conv=>whnf
       refine ⟨⟨k + 1,hkl⟩,[(59,some 74)],by dsimp only;omega,rfl,⟨zD (zH rfl rfl),zD (zJ (zI L)),zB rfl,zB rfl,zF rfl,zD (zH rfl rfl),zD (qK _).le,zB rfl,zB w5,trivial⟩,⟨⟨rfl,qh (qJ rfl rfl rfl rfl rfl rfl rfl rfl)⟩,⟨rfl,zA⟩,⟨rfl,zA⟩,⟨rfl,zA⟩,⟨rfl,zA⟩,⟨rfl,zA⟩,⟨rfl,zA⟩,⟨rfl,zA⟩,⟨rfl,zA⟩,⟨rfl,zAm (QP (Z:=x.held.take k) (x:=h) (by rw [List.length_take];omega) (qn ⟨zC rfl,ZQ rfl rfl rfl rfl (Nat.le_of_eq (Nat.zero_add _)) (λq hq j hj=>?_),zC rfl,zC rfl,zC rfl,zC rfl,zC rfl,zC rfl,zC rfl,zW rfl,zC rfl⟩)) (by rw [zAR hkl,eh])⟩,⟨rfl,zE λj hj=>(ZB.sh _ j hj).le⟩,trivial⟩⟩;show Zu _ (QG eB h.data (0 + q) j) (QG eB h.data q j);exact zC (congrArg (λz=>h.data.getD z default) (Nat.zero_add q))
     . obtain rfl : k = x.held.length:=by omega
       repeat' (first | (apply And.intro<;>intro hc<;>(first | exact Bool.noConfusion hc | (exfalso;first | exact absurd rfl hc | omega) | (simp only [zl] at hc<;>first | exact absurd rfl hc | (exfalso;first | exact absurd rfl hc | omega) | skip) | skip)) | (refine And.intro zj ?_) | (apply And.intro) | (intro s hs;skip) | (refine Exists.intro _ (And.intro ⟨rfl,rfl,rfl⟩ ?_)))
       conv=>whnf
       refine ⟨⟨4,hil⟩,[(50,some 68),(54,some 59)],by dsimp only;omega,rfl,⟨zD (zH rfl rfl),zD (zJ (zI L)),zB rfl,zB w3,trivial⟩,⟨⟨rfl,⟨rfl,rfl,rfl,rfl,λp hp j hj=>?_⟩⟩,⟨rfl,zA⟩,⟨rfl,zA⟩,⟨rfl,zA⟩,⟨rfl,zR ((List.take_length).trans (congrArg Sed.held ex).symm)⟩,⟨rfl,zA⟩,⟨rfl,zA⟩,⟨rfl,zA⟩,⟨rfl,zA⟩,trivial⟩⟩;have hp' : p < 4:=hp;have hj' : j < 3:=hj;show Zu _ (Zp (Nat.blt p 3) (Zg 51 L p j) _) (Zg 51 L p j);by_cases hpi : p < 3
       . refine ZU (Nat.ble_eq_true_of_le hpi) ?_;rcases (show p = 0 \/ p = 1 \/ p = 2 by omega) with rfl | rfl | rfl<;>exact qm hj' rfl
       . obtain rfl : p = 3:=by omega
         refine Zd (Zt _) ?_;rcases j with _ | _ | _ | j
         . exact zC (congrArg Sed.id ex).symm
         . exact zC (congrArg Sed.mn ex).symm
         . exact zH rfl (congrArg (λz : Sed=>z.held.length) ex).symm
         . omega
   . obtain ⟨x,ex⟩ : ∃ x,L.getD 4 default = x:=⟨_,rfl⟩;have ec : zo ZB L 4 = ZB.cell x:=congrArg ZB.cell ex;have zi : ((4 : Nat) : Int).toNat = 4:=rfl;rw [ex] at hk;repeat' (first | (simp only [zi,ec]) | (apply And.intro<;>intro hc<;>(first | exact Bool.noConfusion hc | (exfalso;first | exact absurd rfl hc | omega) | (simp only [zl] at hc<;>first | exact absurd rfl hc | (exfalso;first | exact absurd rfl hc | omega) | skip) | skip)) | (refine And.intro zj ?_) | (apply And.intro) | (intro s hs;skip) | (refine Exists.intro _ (And.intro ⟨rfl,rfl,rfl⟩ ?_)))
     conv=>whnf
     refine zU (zV qC) (λs : {k : Nat // k <= x.held.length}=>(⟨[(3,zL (.os 50 0 4)),(9,zL (ZT ZB L)),(10,zL (.int .i64 (L.length : Int))),(11,zL (.int .i64 ((4 : Nat) : Int))),(5,zL (.ptr 60 0 0 false)),(6,zL (.os 59 0 s.1)),(16,zL (slN zm x.held)),(17,zL (.int .i64 (x.held.length : Int))),(18,zL (.int .i64 (s.1 : Int)))],[(50,some (qp 51 4 L)),(51,some (zS (Zx L 4 0))),(52,some (zS (Zx L 4 1))),(53,some (zS (Zx L 4 2))),(54,some (zS (Zx L 4 3))),(55,some (zS (Zx L 4 4))),(56,some (zS (Zx L 4 5))),(57,some (zS (Zx L 4 6))),(58,some (zS (Zx L 4 7))),(59,some (zS (x.held.take s.1))),(60,some ⟨78,1,3,true,λ_=>ZB.cell x⟩)],61⟩ : Hd)) (λs=>x.held.length - s.1) (λ_=>rfl) ?_ ⟨0,Nat.zero_le _⟩ [(59,none),(60,some 62)] ⟨rfl,⟨zD (zH rfl rfl),zD (zJ (zI L)),zB rfl,zB rfl,zF rfl,zD (Zh rfl),zD (qK _).le,zB rfl,zB rfl,trivial⟩,⟨⟨rfl,qh (qJ rfl rfl rfl rfl rfl rfl rfl rfl)⟩,⟨rfl,zA⟩,⟨rfl,zA⟩,⟨rfl,zA⟩,⟨rfl,zA⟩,⟨rfl,zA⟩,⟨rfl,zA⟩,⟨rfl,zA⟩,⟨rfl,zA⟩,⟨rfl,rfl,rfl,Nat.le_of_ble_eq_true rfl⟩,⟨rfl,zE λj hj=>(ZB.sh _ j hj).le⟩,trivial⟩⟩;rintro ⟨k,hkx⟩;dsimp only at hkx ⊢;unfold ZT;by_cases hkl : k < x.held.length
     . have w5 : IntKind.i64.wrap ((k : Int) + 1) = ((k + 1 : Nat) : Int):=(IntWalk.i64_in _ (by have:=hk.n;omega)).trans (by omega);obtain ⟨h,eh⟩ : ∃ h,x.held.getD k default = h:=⟨_,rfl⟩;have eck : zo zm x.held k = zm.cell h:=congrArg zm.cell eh;have zk : (k : Int).toNat = k:=rfl;have hd:=hk.d _ (QV hkl);rw [eh] at hd;have hkn:=hk.n;repeat' (first | (simp only [zk,eck]) | (apply And.intro<;>intro hc<;>(first | exact Bool.noConfusion hc | (exfalso;first | exact absurd rfl hc | omega) | (simp only [zl] at hc<;>first | exact absurd rfl hc | (exfalso;first | exact absurd rfl hc | omega) | skip) | skip)) | (refine And.intro zj ?_) | (apply And.intro) | (intro s hs;skip) | (refine Exists.intro _ (And.intro ⟨rfl,rfl,rfl⟩ ?_)))
       . rw [List.length_take];omega
       . show k + 1 <= 9223372036854775807;omega
       conv=>whnf
       refine ⟨⟨k + 1,hkl⟩,[(59,some 74)],by dsimp only;omega,rfl,⟨zD (zH rfl rfl),zD (zJ (zI L)),zB rfl,zB rfl,zF rfl,zD (zH rfl rfl),zD (qK _).le,zB rfl,zB w5,trivial⟩,⟨⟨rfl,qh (qJ rfl rfl rfl rfl rfl rfl rfl rfl)⟩,⟨rfl,zA⟩,⟨rfl,zA⟩,⟨rfl,zA⟩,⟨rfl,zA⟩,⟨rfl,zA⟩,⟨rfl,zA⟩,⟨rfl,zA⟩,⟨rfl,zA⟩,⟨rfl,zAm (QP (Z:=x.held.take k) (x:=h) (by rw [List.length_take];omega) (qn ⟨zC rfl,ZQ rfl rfl rfl rfl (Nat.le_of_eq (Nat.zero_add _)) (λq hq j hj=>?_),zC rfl,zC rfl,zC rfl,zC rfl,zC rfl,zC rfl,zC rfl,zW rfl,zC rfl⟩)) (by rw [zAR hkl,eh])⟩,⟨rfl,zE λj hj=>(ZB.sh _ j hj).le⟩,trivial⟩⟩;show Zu _ (QG eB h.data (0 + q) j) (QG eB h.data q j);exact zC (congrArg (λz=>h.data.getD z default) (Nat.zero_add q))
     . obtain rfl : k = x.held.length:=by omega
       repeat' (first | (apply And.intro<;>intro hc<;>(first | exact Bool.noConfusion hc | (exfalso;first | exact absurd rfl hc | omega) | (simp only [zl] at hc<;>first | exact absurd rfl hc | (exfalso;first | exact absurd rfl hc | omega) | skip) | skip)) | (refine And.intro zj ?_) | (apply And.intro) | (intro s hs;skip) | (refine Exists.intro _ (And.intro ⟨rfl,rfl,rfl⟩ ?_)))
       conv=>whnf
       refine ⟨⟨5,hil⟩,[(50,some 68),(55,some 59)],by dsimp only;omega,rfl,⟨zD (zH rfl rfl),zD (zJ (zI L)),zB rfl,zB w3,trivial⟩,⟨⟨rfl,⟨rfl,rfl,rfl,rfl,λp hp j hj=>?_⟩⟩,⟨rfl,zA⟩,⟨rfl,zA⟩,⟨rfl,zA⟩,⟨rfl,zA⟩,⟨rfl,zR ((List.take_length).trans (congrArg Sed.held ex).symm)⟩,⟨rfl,zA⟩,⟨rfl,zA⟩,⟨rfl,zA⟩,trivial⟩⟩;have hp' : p < 5:=hp;have hj' : j < 3:=hj;show Zu _ (Zp (Nat.blt p 4) (Zg 51 L p j) _) (Zg 51 L p j);by_cases hpi : p < 4
       . refine ZU (Nat.ble_eq_true_of_le hpi) ?_;rcases (show p = 0 \/ p = 1 \/ p = 2 \/ p = 3 by omega) with rfl | rfl | rfl | rfl<;>exact qm hj' rfl
       . obtain rfl : p = 4:=by omega
         refine Zd (Zt _) ?_;rcases j with _ | _ | _ | j
         . exact zC (congrArg Sed.id ex).symm
         . exact zC (congrArg Sed.mn ex).symm
         . exact zH rfl (congrArg (λz : Sed=>z.held.length) ex).symm
         . omega
   . obtain ⟨x,ex⟩ : ∃ x,L.getD 5 default = x:=⟨_,rfl⟩;have ec : zo ZB L 5 = ZB.cell x:=congrArg ZB.cell ex;have zi : ((5 : Nat) : Int).toNat = 5:=rfl;rw [ex] at hk;repeat' (first | (simp only [zi,ec]) | (apply And.intro<;>intro hc<;>(first | exact Bool.noConfusion hc | (exfalso;first | exact absurd rfl hc | omega) | (simp only [zl] at hc<;>first | exact absurd rfl hc | (exfalso;first | exact absurd rfl hc | omega) | skip) | skip)) | (refine And.intro zj ?_) | (apply And.intro) | (intro s hs;skip) | (refine Exists.intro _ (And.intro ⟨rfl,rfl,rfl⟩ ?_)))
     conv=>whnf
     refine zU (zV qC) (λs : {k : Nat // k <= x.held.length}=>(⟨[(3,zL (.os 50 0 5)),(9,zL (ZT ZB L)),(10,zL (.int .i64 (L.length : Int))),(11,zL (.int .i64 ((5 : Nat) : Int))),(5,zL (.ptr 60 0 0 false)),(6,zL (.os 59 0 s.1)),(16,zL (slN zm x.held)),(17,zL (.int .i64 (x.held.length : Int))),(18,zL (.int .i64 (s.1 : Int)))],[(50,some (qp 51 5 L)),(51,some (zS (Zx L 5 0))),(52,some (zS (Zx L 5 1))),(53,some (zS (Zx L 5 2))),(54,some (zS (Zx L 5 3))),(55,some (zS (Zx L 5 4))),(56,some (zS (Zx L 5 5))),(57,some (zS (Zx L 5 6))),(58,some (zS (Zx L 5 7))),(59,some (zS (x.held.take s.1))),(60,some ⟨78,1,3,true,λ_=>ZB.cell x⟩)],61⟩ : Hd)) (λs=>x.held.length - s.1) (λ_=>rfl) ?_ ⟨0,Nat.zero_le _⟩ [(59,none),(60,some 62)] ⟨rfl,⟨zD (zH rfl rfl),zD (zJ (zI L)),zB rfl,zB rfl,zF rfl,zD (Zh rfl),zD (qK _).le,zB rfl,zB rfl,trivial⟩,⟨⟨rfl,qh (qJ rfl rfl rfl rfl rfl rfl rfl rfl)⟩,⟨rfl,zA⟩,⟨rfl,zA⟩,⟨rfl,zA⟩,⟨rfl,zA⟩,⟨rfl,zA⟩,⟨rfl,zA⟩,⟨rfl,zA⟩,⟨rfl,zA⟩,⟨rfl,rfl,rfl,Nat.le_of_ble_eq_true rfl⟩,⟨rfl,zE λj hj=>(ZB.sh _ j hj).le⟩,trivial⟩⟩;rintro ⟨k,hkx⟩;dsimp only at hkx ⊢;unfold ZT;by_cases hkl : k < x.held.length
     . have w5 : IntKind.i64.wrap ((k : Int) + 1) = ((k + 1 : Nat) : Int):=(IntWalk.i64_in _ (by have:=hk.n;omega)).trans (by omega);obtain ⟨h,eh⟩ : ∃ h,x.held.getD k default = h:=⟨_,rfl⟩;have eck : zo zm x.held k = zm.cell h:=congrArg zm.cell eh;have zk : (k : Int).toNat = k:=rfl;have hd:=hk.d _ (QV hkl);rw [eh] at hd;have hkn:=hk.n;repeat' (first | (simp only [zk,eck]) | (apply And.intro<;>intro hc<;>(first | exact Bool.noConfusion hc | (exfalso;first | exact absurd rfl hc | omega) | (simp only [zl] at hc<;>first | exact absurd rfl hc | (exfalso;first | exact absurd rfl hc | omega) | skip) | skip)) | (refine And.intro zj ?_) | (apply And.intro) | (intro s hs;skip) | (refine Exists.intro _ (And.intro ⟨rfl,rfl,rfl⟩ ?_)))
       . rw [List.length_take];omega
       . show k + 1 <= 9223372036854775807;omega
       conv=>whnf
       refine ⟨⟨k + 1,hkl⟩,[(59,some 74)],by dsimp only;omega,rfl,⟨zD (zH rfl rfl),zD (zJ (zI L)),zB rfl,zB rfl,zF rfl,zD (zH rfl rfl),zD (qK _).le,zB rfl,zB w5,trivial⟩,⟨⟨rfl,qh (qJ rfl rfl rfl rfl rfl rfl rfl rfl)⟩,⟨rfl,zA⟩,⟨rfl,zA⟩,⟨rfl,zA⟩,⟨rfl,zA⟩,⟨rfl,zA⟩,⟨rfl,zA⟩,⟨rfl,zA⟩,⟨rfl,zA⟩,⟨rfl,zAm (QP (Z:=x.held.take k) (x:=h) (by rw [List.length_take];omega) (qn ⟨zC rfl,ZQ rfl rfl rfl rfl (Nat.le_of_eq (Nat.zero_add _)) (λq hq j hj=>?_),zC rfl,zC rfl,zC rfl,zC rfl,zC rfl,zC rfl,zC rfl,zW rfl,zC rfl⟩)) (by rw [zAR hkl,eh])⟩,⟨rfl,zE λj hj=>(ZB.sh _ j hj).le⟩,trivial⟩⟩;show Zu _ (QG eB h.data (0 + q) j) (QG eB h.data q j);exact zC (congrArg (λz=>h.data.getD z default) (Nat.zero_add q))
     . obtain rfl : k = x.held.length:=by omega
       repeat' (first | (apply And.intro<;>intro hc<;>(first | exact Bool.noConfusion hc | (exfalso;first | exact absurd rfl hc | omega) | (simp only [zl] at hc<;>first | exact absurd rfl hc | (exfalso;first | exact absurd rfl hc | omega) | skip) | skip)) | (refine And.intro zj ?_) | (apply And.intro) | (intro s hs;skip) | (refine Exists.intro _ (And.intro ⟨rfl,rfl,rfl⟩ ?_)))
       conv=>whnf
       refine ⟨⟨6,hil⟩,[(50,some 68),(56,some 59)],by dsimp only;omega,rfl,⟨zD (zH rfl rfl),zD (zJ (zI L)),zB rfl,zB w3,trivial⟩,⟨⟨rfl,⟨rfl,rfl,rfl,rfl,λp hp j hj=>?_⟩⟩,⟨rfl,zA⟩,⟨rfl,zA⟩,⟨rfl,zA⟩,⟨rfl,zA⟩,⟨rfl,zA⟩,⟨rfl,zR ((List.take_length).trans (congrArg Sed.held ex).symm)⟩,⟨rfl,zA⟩,⟨rfl,zA⟩,trivial⟩⟩;have hp' : p < 6:=hp;have hj' : j < 3:=hj;show Zu _ (Zp (Nat.blt p 5) (Zg 51 L p j) _) (Zg 51 L p j);by_cases hpi : p < 5
       . refine ZU (Nat.ble_eq_true_of_le hpi) ?_;rcases (show p = 0 \/ p = 1 \/ p = 2 \/ p = 3 \/ p = 4 by omega) with rfl | rfl | rfl | rfl | rfl<;>exact qm hj' rfl
       . obtain rfl : p = 5:=by omega
         refine Zd (Zt _) ?_;rcases j with _ | _ | _ | j
         . exact zC (congrArg Sed.id ex).symm
         . exact zC (congrArg Sed.mn ex).symm
         . exact zH rfl (congrArg (λz : Sed=>z.held.length) ex).symm
         . omega
   . obtain ⟨x,ex⟩ : ∃ x,L.getD 6 default = x:=⟨_,rfl⟩;have ec : zo ZB L 6 = ZB.cell x:=congrArg ZB.cell ex;have zi : ((6 : Nat) : Int).toNat = 6:=rfl;rw [ex] at hk;repeat' (first | (simp only [zi,ec]) | (apply And.intro<;>intro hc<;>(first | exact Bool.noConfusion hc | (exfalso;first | exact absurd rfl hc | omega) | (simp only [zl] at hc<;>first | exact absurd rfl hc | (exfalso;first | exact absurd rfl hc | omega) | skip) | skip)) | (refine And.intro zj ?_) | (apply And.intro) | (intro s hs;skip) | (refine Exists.intro _ (And.intro ⟨rfl,rfl,rfl⟩ ?_)))
     conv=>whnf
     refine zU (zV qC) (λs : {k : Nat // k <= x.held.length}=>(⟨[(3,zL (.os 50 0 6)),(9,zL (ZT ZB L)),(10,zL (.int .i64 (L.length : Int))),(11,zL (.int .i64 ((6 : Nat) : Int))),(5,zL (.ptr 60 0 0 false)),(6,zL (.os 59 0 s.1)),(16,zL (slN zm x.held)),(17,zL (.int .i64 (x.held.length : Int))),(18,zL (.int .i64 (s.1 : Int)))],[(50,some (qp 51 6 L)),(51,some (zS (Zx L 6 0))),(52,some (zS (Zx L 6 1))),(53,some (zS (Zx L 6 2))),(54,some (zS (Zx L 6 3))),(55,some (zS (Zx L 6 4))),(56,some (zS (Zx L 6 5))),(57,some (zS (Zx L 6 6))),(58,some (zS (Zx L 6 7))),(59,some (zS (x.held.take s.1))),(60,some ⟨78,1,3,true,λ_=>ZB.cell x⟩)],61⟩ : Hd)) (λs=>x.held.length - s.1) (λ_=>rfl) ?_ ⟨0,Nat.zero_le _⟩ [(59,none),(60,some 62)] ⟨rfl,⟨zD (zH rfl rfl),zD (zJ (zI L)),zB rfl,zB rfl,zF rfl,zD (Zh rfl),zD (qK _).le,zB rfl,zB rfl,trivial⟩,⟨⟨rfl,qh (qJ rfl rfl rfl rfl rfl rfl rfl rfl)⟩,⟨rfl,zA⟩,⟨rfl,zA⟩,⟨rfl,zA⟩,⟨rfl,zA⟩,⟨rfl,zA⟩,⟨rfl,zA⟩,⟨rfl,zA⟩,⟨rfl,zA⟩,⟨rfl,rfl,rfl,Nat.le_of_ble_eq_true rfl⟩,⟨rfl,zE λj hj=>(ZB.sh _ j hj).le⟩,trivial⟩⟩;rintro ⟨k,hkx⟩;dsimp only at hkx ⊢;unfold ZT;by_cases hkl : k < x.held.length
     . have w5 : IntKind.i64.wrap ((k : Int) + 1) = ((k + 1 : Nat) : Int):=(IntWalk.i64_in _ (by have:=hk.n;omega)).trans (by omega);obtain ⟨h,eh⟩ : ∃ h,x.held.getD k default = h:=⟨_,rfl⟩;have eck : zo zm x.held k = zm.cell h:=congrArg zm.cell eh;have zk : (k : Int).toNat = k:=rfl;have hd:=hk.d _ (QV hkl);rw [eh] at hd;have hkn:=hk.n;repeat' (first | (simp only [zk,eck]) | (apply And.intro<;>intro hc<;>(first | exact Bool.noConfusion hc | (exfalso;first | exact absurd rfl hc | omega) | (simp only [zl] at hc<;>first | exact absurd rfl hc | (exfalso;first | exact absurd rfl hc | omega) | skip) | skip)) | (refine And.intro zj ?_) | (apply And.intro) | (intro s hs;skip) | (refine Exists.intro _ (And.intro ⟨rfl,rfl,rfl⟩ ?_)))
       . rw [List.length_take];omega
       . show k + 1 <= 9223372036854775807;omega
       conv=>whnf
       refine ⟨⟨k + 1,hkl⟩,[(59,some 74)],by dsimp only;omega,rfl,⟨zD (zH rfl rfl),zD (zJ (zI L)),zB rfl,zB rfl,zF rfl,zD (zH rfl rfl),zD (qK _).le,zB rfl,zB w5,trivial⟩,⟨⟨rfl,qh (qJ rfl rfl rfl rfl rfl rfl rfl rfl)⟩,⟨rfl,zA⟩,⟨rfl,zA⟩,⟨rfl,zA⟩,⟨rfl,zA⟩,⟨rfl,zA⟩,⟨rfl,zA⟩,⟨rfl,zA⟩,⟨rfl,zA⟩,⟨rfl,zAm (QP (Z:=x.held.take k) (x:=h) (by rw [List.length_take];omega) (qn ⟨zC rfl,ZQ rfl rfl rfl rfl (Nat.le_of_eq (Nat.zero_add _)) (λq hq j hj=>?_),zC rfl,zC rfl,zC rfl,zC rfl,zC rfl,zC rfl,zC rfl,zW rfl,zC rfl⟩)) (by rw [zAR hkl,eh])⟩,⟨rfl,zE λj hj=>(ZB.sh _ j hj).le⟩,trivial⟩⟩;show Zu _ (QG eB h.data (0 + q) j) (QG eB h.data q j);exact zC (congrArg (λz=>h.data.getD z default) (Nat.zero_add q))
     . obtain rfl : k = x.held.length:=by omega
       repeat' (first | (apply And.intro<;>intro hc<;>(first | exact Bool.noConfusion hc | (exfalso;first | exact absurd rfl hc | omega) | (simp only [zl] at hc<;>first | exact absurd rfl hc | (exfalso;first | exact absurd rfl hc | omega) | skip) | skip)) | (refine And.intro zj ?_) | (apply And.intro) | (intro s hs;skip) | (refine Exists.intro _ (And.intro ⟨rfl,rfl,rfl⟩ ?_)))
       conv=>whnf
       refine ⟨⟨7,hil⟩,[(50,some 68),(57,some 59)],by dsimp only;omega,rfl,⟨zD (zH rfl rfl),zD (zJ (zI L)),zB rfl,zB w3,trivial⟩,⟨⟨rfl,⟨rfl,rfl,rfl,rfl,λp hp j hj=>?_⟩⟩,⟨rfl,zA⟩,⟨rfl,zA⟩,⟨rfl,zA⟩,⟨rfl,zA⟩,⟨rfl,zA⟩,⟨rfl,zA⟩,⟨rfl,zR ((List.take_length).trans (congrArg Sed.held ex).symm)⟩,⟨rfl,zA⟩,trivial⟩⟩;have hp' : p < 7:=hp;have hj' : j < 3:=hj;show Zu _ (Zp (Nat.blt p 6) (Zg 51 L p j) _) (Zg 51 L p j);by_cases hpi : p < 6
       . refine ZU (Nat.ble_eq_true_of_le hpi) ?_;rcases (show p = 0 \/ p = 1 \/ p = 2 \/ p = 3 \/ p = 4 \/ p = 5 by omega) with rfl | rfl | rfl | rfl | rfl | rfl<;>exact qm hj' rfl
       . obtain rfl : p = 6:=by omega
         refine Zd (Zt _) ?_;rcases j with _ | _ | _ | j
         . exact zC (congrArg Sed.id ex).symm
         . exact zC (congrArg Sed.mn ex).symm
         . exact zH rfl (congrArg (λz : Sed=>z.held.length) ex).symm
         . omega
   . obtain ⟨x,ex⟩ : ∃ x,L.getD 7 default = x:=⟨_,rfl⟩;have ec : zo ZB L 7 = ZB.cell x:=congrArg ZB.cell ex;have zi : ((7 : Nat) : Int).toNat = 7:=rfl;rw [ex] at hk;repeat' (first | (simp only [zi,ec]) | (apply And.intro<;>intro hc<;>(first | exact Bool.noConfusion hc | (exfalso;first | exact absurd rfl hc | omega) | (simp only [zl] at hc<;>first | exact absurd rfl hc | (exfalso;first | exact absurd rfl hc | omega) | skip) | skip)) | (refine And.intro zj ?_) | (apply And.intro) | (intro s hs;skip) | (refine Exists.intro _ (And.intro ⟨rfl,rfl,rfl⟩ ?_)))
     conv=>whnf
     refine zU (zV qC) (λs : {k : Nat // k <= x.held.length}=>(⟨[(3,zL (.os 50 0 7)),(9,zL (ZT ZB L)),(10,zL (.int .i64 (L.length : Int))),(11,zL (.int .i64 ((7 : Nat) : Int))),(5,zL (.ptr 60 0 0 false)),(6,zL (.os 59 0 s.1)),(16,zL (slN zm x.held)),(17,zL (.int .i64 (x.held.length : Int))),(18,zL (.int .i64 (s.1 : Int)))],[(50,some (qp 51 7 L)),(51,some (zS (Zx L 7 0))),(52,some (zS (Zx L 7 1))),(53,some (zS (Zx L 7 2))),(54,some (zS (Zx L 7 3))),(55,some (zS (Zx L 7 4))),(56,some (zS (Zx L 7 5))),(57,some (zS (Zx L 7 6))),(58,some (zS (Zx L 7 7))),(59,some (zS (x.held.take s.1))),(60,some ⟨78,1,3,true,λ_=>ZB.cell x⟩)],61⟩ : Hd)) (λs=>x.held.length - s.1) (λ_=>rfl) ?_ ⟨0,Nat.zero_le _⟩ [(59,none),(60,some 62)] ⟨rfl,⟨zD (zH rfl rfl),zD (zJ (zI L)),zB rfl,zB rfl,zF rfl,zD (Zh rfl),zD (qK _).le,zB rfl,zB rfl,trivial⟩,⟨⟨rfl,qh (qJ rfl rfl rfl rfl rfl rfl rfl rfl)⟩,⟨rfl,zA⟩,⟨rfl,zA⟩,⟨rfl,zA⟩,⟨rfl,zA⟩,⟨rfl,zA⟩,⟨rfl,zA⟩,⟨rfl,zA⟩,⟨rfl,zA⟩,⟨rfl,rfl,rfl,Nat.le_of_ble_eq_true rfl⟩,⟨rfl,zE λj hj=>(ZB.sh _ j hj).le⟩,trivial⟩⟩;rintro ⟨k,hkx⟩;dsimp only at hkx ⊢;unfold ZT;by_cases hkl : k < x.held.length
     . have w5 : IntKind.i64.wrap ((k : Int) + 1) = ((k + 1 : Nat) : Int):=(IntWalk.i64_in _ (by have:=hk.n;omega)).trans (by omega);obtain ⟨h,eh⟩ : ∃ h,x.held.getD k default = h:=⟨_,rfl⟩;have eck : zo zm x.held k = zm.cell h:=congrArg zm.cell eh;have zk : (k : Int).toNat = k:=rfl;have hd:=hk.d _ (QV hkl);rw [eh] at hd;have hkn:=hk.n;repeat' (first | (simp only [zk,eck]) | (apply And.intro<;>intro hc<;>(first | exact Bool.noConfusion hc | (exfalso;first | exact absurd rfl hc | omega) | (simp only [zl] at hc<;>first | exact absurd rfl hc | (exfalso;first | exact absurd rfl hc | omega) | skip) | skip)) | (refine And.intro zj ?_) | (apply And.intro) | (intro s hs;skip) | (refine Exists.intro _ (And.intro ⟨rfl,rfl,rfl⟩ ?_)))
       . rw [List.length_take];omega
       . show k + 1 <= 9223372036854775807;omega
       conv=>whnf
       refine ⟨⟨k + 1,hkl⟩,[(59,some 74)],by dsimp only;omega,rfl,⟨zD (zH rfl rfl),zD (zJ (zI L)),zB rfl,zB rfl,zF rfl,zD (zH rfl rfl),zD (qK _).le,zB rfl,zB w5,trivial⟩,⟨⟨rfl,qh (qJ rfl rfl rfl rfl rfl rfl rfl rfl)⟩,⟨rfl,zA⟩,⟨rfl,zA⟩,⟨rfl,zA⟩,⟨rfl,zA⟩,⟨rfl,zA⟩,⟨rfl,zA⟩,⟨rfl,zA⟩,⟨rfl,zA⟩,⟨rfl,zAm (QP (Z:=x.held.take k) (x:=h) (by rw [List.length_take];omega) (qn ⟨zC rfl,ZQ rfl rfl rfl rfl (Nat.le_of_eq (Nat.zero_add _)) (λq hq j hj=>?_),zC rfl,zC rfl,zC rfl,zC rfl,zC rfl,zC rfl,zC rfl,zW rfl,zC rfl⟩)) (by rw [zAR hkl,eh])⟩,⟨rfl,zE λj hj=>(ZB.sh _ j hj).le⟩,trivial⟩⟩;show Zu _ (QG eB h.data (0 + q) j) (QG eB h.data q j);exact zC (congrArg (λz=>h.data.getD z default) (Nat.zero_add q))
     . obtain rfl : k = x.held.length:=by omega
       repeat' (first | (apply And.intro<;>intro hc<;>(first | exact Bool.noConfusion hc | (exfalso;first | exact absurd rfl hc | omega) | (simp only [zl] at hc<;>first | exact absurd rfl hc | (exfalso;first | exact absurd rfl hc | omega) | skip) | skip)) | (refine And.intro zj ?_) | (apply And.intro) | (intro s hs;skip) | (refine Exists.intro _ (And.intro ⟨rfl,rfl,rfl⟩ ?_)))
       conv=>whnf
       refine ⟨⟨8,hil⟩,[(50,some 68),(58,some 59)],by dsimp only;omega,rfl,⟨zD (zH rfl rfl),zD (zJ (zI L)),zB rfl,zB w3,trivial⟩,⟨⟨rfl,⟨rfl,rfl,rfl,rfl,λp hp j hj=>?_⟩⟩,⟨rfl,zA⟩,⟨rfl,zA⟩,⟨rfl,zA⟩,⟨rfl,zA⟩,⟨rfl,zA⟩,⟨rfl,zA⟩,⟨rfl,zA⟩,⟨rfl,zR ((List.take_length).trans (congrArg Sed.held ex).symm)⟩,trivial⟩⟩;have hp' : p < 8:=hp;have hj' : j < 3:=hj;show Zu _ (Zp (Nat.blt p 7) (Zg 51 L p j) _) (Zg 51 L p j);by_cases hpi : p < 7
       . refine ZU (Nat.ble_eq_true_of_le hpi) ?_;rcases (show p = 0 \/ p = 1 \/ p = 2 \/ p = 3 \/ p = 4 \/ p = 5 \/ p = 6 by omega) with rfl | rfl | rfl | rfl | rfl | rfl | rfl<;>exact qm hj' rfl
       . obtain rfl : p = 7:=by omega
         refine Zd (Zt _) ?_;rcases j with _ | _ | _ | j
         . exact zC (congrArg Sed.id ex).symm
         . exact zC (congrArg Sed.mn ex).symm
         . exact zH rfl (congrArg (λz : Sed=>z.held.length) ex).symm
         . omega
 . have hi2 : i = L.length:=by omega
   subst hi2;simp only [hldP_n];repeat' (first | (apply And.intro<;>intro hc<;>(first | exact Bool.noConfusion hc | (exfalso;first | exact absurd rfl hc | omega) | (simp only [zl] at hc<;>first | exact absurd rfl hc | (exfalso;first | exact absurd rfl hc | omega) | skip) | skip)) | (refine And.intro zj ?_) | (apply And.intro) | (intro s hs;skip) | (refine Exists.intro _ (And.intro ⟨rfl,rfl,rfl⟩ ?_)))
   conv=>whnf
   refine ⟨⟨[(0,some 50),(1,some 51),(2,some 52),(3,some 53),(4,some 54),(5,some 55),(6,some 56),(7,some 57),(8,some 58)],rfl,zD (zH rfl rfl),⟨rfl,⟨rfl,rfl,rfl,rfl,λp hp j hj=>?_⟩⟩,⟨rfl,zA⟩,⟨rfl,zA⟩,⟨rfl,zA⟩,⟨rfl,zA⟩,⟨rfl,zA⟩,⟨rfl,zA⟩,⟨rfl,zA⟩,⟨rfl,zA⟩,trivial⟩⟩
   . have hp' : p < L.length:=hp;have hj' : j < 3:=hj;rcases (show p = 0 \/ p = 1 \/ p = 2 \/ p = 3 \/ p = 4 \/ p = 5 \/ p = 6 \/ p = 7 by omega) with rfl | rfl | rfl | rfl | rfl | rfl | rfl | rfl<;>exact qm hj' rfl
abbrev zFC : Zk:=zDy (AC.cons (cNS ZB qA) AC.nil) (λa=>Cl8 a.1) (λa=>a.1) 9 (λnm L=>zL (.os nm 0 L.length)) (λnm L=>Ents8 (nm + 1) L)
theorem zCr : EntOk Try.prog 43 zFC:=zCT ⟨_,Try.func43,rfl,by kernel_rfl⟩ (λ_ _=>rfl) (λnm s=>sftF_c (by have h : Sft 9 nm (.os 0 0 s.length) (.os (nm + 0) 0 s.length):=zCp (by decide);exact h)) (λnm a ha k e e' h h'=>by
 iterate 9 (rcases k with _ | k;· (injection h with h;injection h' with h';subst h h';first | exact ⟨rfl,rfl,rfl,rfl,λi hi j hj=>zDS (zm.sh _ j hj)⟩ | exact ⟨rfl,rfl,rfl,rfl,λi hi j hj=>zFt hj (Nat.lt_of_lt_of_le hi ha.n)⟩))
 cases h) λa h=>rcopy_ok a.1 h
def sdB (s : Sed) (j : Nat) : CV:=bif Nat.beq j 0 then .int .u64 s.id else bif Nat.beq j 1 then .int .i64 s.mn else .sl false s.held.length 11 (zo zm s.held)
structure OkSB (f : Nat -> CV) (n : Nat) (g : Nat -> Nat -> CV) : Prop where
 a : isK .u64 (f 0) = true
 b : isK .i64 (f 1) = true
 c : ∀ i,i < n -> zm.ok (g i)
def cSB : Codec Sed where
 enc s:=.e (.agg 3 (sdB s))
 dec H x:=(ga 3 x).bind λf=>match zAg H 11 (zL (f 2)) with
  | some ⟨n,g,p,rd⟩=>some (⟨Ya (f 0),Ya (f 1),Ys zm n g⟩,zBX p (some (OkSB f n g)),rd)
  | none=>none
 sound H H' x a p rd h hp hh:=by
  obtain ⟨f,h1,h⟩:=bind_some h;split at h
  . rename_i n g q rd' hs;injection h with h;injection h with h h';injection h' with h' h'';subst h h' h'';obtain ⟨p1,p2⟩:=YV.1 hp;rw [ga_eq h1];rintro cx r w v st ⟨cs,rfl,c1,c2⟩;refine ⟨cs,rfl,c1,λi u hu=>?_⟩;have hi : i < 3:=by rw [<- c1];exact (Array.getElem?_eq_some_iff.1 hu).1
    have h2:=c2 i u hu;rcases i with _ | _ | _ | i
    . rw [Qc p2.a] at h2;exact h2
    . rw [Qc p2.b] at h2;exact h2
    . exact bo_slN (E:=zm) zAy (Yv hs hh) p1 p2.c cx r w u st h2
    . omega
  . cases h
def maxI (a b : Int) : Int:=if a < b then b else a
def zEa (n : Int) (h : Hel) : Bool:=decide (n <= h.num)
def Qx (s : Sed) (n : Int) : Sed:=⟨s.id,maxI s.mn n,s.held.filter (zEa (maxI s.mn n))⟩
def sdO (nm : Nat) (s : Sed) (j : Nat) : CV:=bif Nat.beq j 0 then .int .u64 s.id else bif Nat.beq j 1 then .int .i64 s.mn else .os nm 0 s.held.length
theorem filter_at {L : List Hel} {P : Hel -> Bool} {k : Nat} (h : k < L.length) : (L.take (k + 1)).filter P = (L.take k).filter P ++ (if P (L.getD k default) = true then [L.getD k default] else []):=by
 rw [zAR h,List.filter_append,List.filter_cons];split
 . rfl
 . rfl
theorem rclose_ok (x : Sed) (n : Int) (hx : KpI x.held) : zB2 Try.prog 66 [cSB.enc x,(cI .i64).enc n] (.e (.agg 3 (sdO 0 (Qx x n)))) [zS (Qx x n).held]:=by
 have hn:=hx.n;obtain ⟨m,em⟩ : ∃ m,maxI x.mn n = m:=⟨_,rfl⟩;refine zBB (wd:=1) (by decide) zN (zb qC) zP Try.func66 rfl _ (by show 2 <= _;decide) ?_;repeat' (first | (apply And.intro<;>intro hc<;>(first | exact Bool.noConfusion hc | (exfalso;first | exact absurd rfl hc | omega) | (simp only [zl] at hc<;>first | exact absurd rfl hc | (exfalso;first | exact absurd rfl hc | omega) | skip) | skip)) | (refine And.intro zj ?_) | (apply And.intro) | (intro s hs;skip) | (refine Exists.intro _ (And.intro ⟨rfl,rfl,rfl⟩ ?_)))
 conv=>whnf
 refine zU (zV qC) (λs : {p : Nat × List Hel // p.1 <= x.held.length /\ p.2 = (x.held.take p.1).filter (zEa m)}=>(⟨[(2,zL (.ptr 0 0 0 false)),(4,zL (.ptr 1 0 0 false)),(5,zL (.os 2 0 s.1.2.length)),(14,zL (.sl false x.held.length 11 (zo zm x.held))),(15,zL (.int .i64 (x.held.length : Int))),(16,zL (.int .i64 (s.1.1 : Int)))],[(0,some ⟨78,1,3,true,λ_=>sdB ⟨x.id,m,x.held⟩⟩),(1,some ⟨78,1,3,true,λ_=>nth [.int .u64 0,.int .i64 0,.nils]⟩),(2,some (zS s.1.2))],3⟩ : Hd)) (λs=>x.held.length - s.1.1) (λ_=>rfl) ?_ ⟨(0,[]),Nat.zero_le _,rfl⟩ [(2,none)] ⟨rfl,⟨zF rfl,zF rfl,zD (Zh rfl),zD (Yo (λh=>h) rfl rfl λi hi j hj=>(zm.sh _ j hj).le),zB rfl,zB rfl,trivial⟩,⟨⟨rfl,zE (Zr ⟨zC rfl,zC em,Yo (λh=>h) rfl rfl λi hi j hj=>(zm.sh _ j hj).le⟩)⟩,⟨rfl,zE (Zr ⟨zC rfl,zC rfl,zq⟩)⟩,⟨rfl,rfl,rfl,Nat.le_of_ble_eq_true rfl⟩,trivial⟩⟩;rintro ⟨⟨k,H⟩,hk,hH⟩;dsimp only at hk hH ⊢;by_cases hkl : k < x.held.length
 . have w5 : IntKind.i64.wrap ((k : Int) + 1) = ((k + 1 : Nat) : Int):=(IntWalk.i64_in _ (by omega)).trans (by omega);obtain ⟨h,eh⟩ : ∃ h,x.held.getD k default = h:=⟨_,rfl⟩;have eck : zo zm x.held k = zm.cell h:=congrArg zm.cell eh;have zk : (k : Int).toNat = k:=rfl;have hf:=filter_at (P:=zEa m) hkl;rw [<- hH,eh] at hf;have hHl : H.length <= k:=by rw [hH];exact Nat.le_trans (List.length_filter_le _ _) (by rw [List.length_take];omega)
   repeat' (first | (simp only [zk,eck]) | (apply And.intro<;>intro hc<;>(first | exact Bool.noConfusion hc | (exfalso;first | exact absurd rfl hc | omega) | (simp only [zl] at hc<;>first | exact absurd rfl hc | (exfalso;first | exact absurd rfl hc | omega) | skip) | skip)) | (refine And.intro zj ?_) | (apply And.intro) | (intro s hs;skip) | (refine Exists.intro _ (And.intro ⟨rfl,rfl,rfl⟩ ?_)))
   . rw [if_pos (show zEa m h = true from decide_eq_true ‹_›)] at hf;conv=>whnf
     exact ⟨⟨(k + 1,H ++ [h]),hkl,hf.symm⟩,[(2,some 16)],by dsimp only;omega,rfl,⟨zF rfl,zF rfl,zD (zH rfl (by show _ = (H ++ [h]).length;rw [List.length_append];rfl)),zD (Yo (λh=>h) rfl rfl λi hi j hj=>(zm.sh _ j hj).le),zB rfl,zB w5,trivial⟩,⟨⟨rfl,zE (Zr ⟨zC rfl,zC rfl,Yo (λh=>h) rfl rfl λi hi j hj=>(zm.sh _ j hj).le⟩)⟩,⟨rfl,zE (Zr ⟨zC rfl,zC rfl,zq⟩)⟩,⟨rfl,QP rfl (qn ⟨zC rfl,(zm.sh h 1 (by decide)).le,zC rfl,zC rfl,zC rfl,zC rfl,zC rfl,zC rfl,zC rfl,zW rfl,zC rfl⟩)⟩,trivial⟩⟩
   . rw [if_neg (show ¬ zEa m h = true from λg=>absurd (of_decide_eq_true g) ‹_›),List.append_nil] at hf;conv=>whnf
     exact ⟨⟨(k + 1,H),hkl,hf.symm⟩,[],by dsimp only;omega,rfl,⟨zF rfl,zF rfl,zD (zH rfl rfl),zD (Yo (λh=>h) rfl rfl λi hi j hj=>(zm.sh _ j hj).le),zB rfl,zB w5,trivial⟩,⟨⟨rfl,zE (Zr ⟨zC rfl,zC rfl,Yo (λh=>h) rfl rfl λi hi j hj=>(zm.sh _ j hj).le⟩)⟩,⟨rfl,zE (Zr ⟨zC rfl,zC rfl,zq⟩)⟩,⟨rfl,zA⟩,trivial⟩⟩
 . obtain rfl : k = x.held.length:=by omega
   rw [List.take_length] at hH;repeat' (first | (apply And.intro<;>intro hc<;>(first | exact Bool.noConfusion hc | (exfalso;first | exact absurd rfl hc | omega) | (simp only [zl] at hc<;>first | exact absurd rfl hc | (exfalso;first | exact absurd rfl hc | omega) | skip) | skip)) | (refine And.intro zj ?_) | (apply And.intro) | (intro s hs;skip) | (refine Exists.intro _ (And.intro ⟨rfl,rfl,rfl⟩ ?_)))
   conv=>whnf
   have eH : H = (Qx x n).held:=by unfold Qx;rw [em];exact hH
   exact ⟨⟨[(0,some 2)],rfl,QJ (Zo ⟨⟨⟨trivial,zC rfl⟩,zC em.symm⟩,zH rfl (by rw [eH])⟩),⟨⟨rfl,zR eH⟩,trivial⟩⟩⟩
theorem sftF_agg {m d : Nat} {k : Nat} {f g : Nat -> CV} (h : ∀ i,i < k -> Sft m d (f i) (g i)) : SftF m d (.e (.agg k f)) (.e (.agg k g)):=by
 rintro r r2 X W X2 W2 w v hr hX hW ⟨cs,rfl,c1,c2⟩;refine ⟨cs,rfl,c1,λi u hu=>?_⟩;have hi : i < k:=by rw [<- c1];exact (Array.getElem?_eq_some_iff.1 hu).1
 exact h i hi r r2 X W X2 W2 w u hr hX hW (c2 i u hu)
theorem sft_sdO {nm : Nat} {s : Sed} : ∀ j,j < 3 -> Sft 1 nm (sdO 0 s j) (sdO nm s j):=Zr ⟨zDO,zDO,(by have h : Sft 1 nm (.os 0 0 s.held.length) (.os (nm + 0) 0 s.held.length):=zCp (by decide);exact h)⟩
abbrev rcloseE : Zk:=zDy (AC.cons cSB (AC.cons (cI .i64) AC.nil)) (λa=>KpI a.1.held) (λa=>Qx a.1 a.2.1) 1 (λnm s=>.e (.agg 3 (sdO nm s))) (λ_ s=>[zS s.held])
theorem zGN : EntOk Try.prog 66 rcloseE:=zCT ⟨_,Try.func66,rfl,by kernel_rfl⟩ (λ_ _=>rfl) (λnm s=>sftF_agg sft_sdO) (λnm a ha k e e' h h'=>by
 rcases k with _ | k
 . injection h with h;injection h' with h';subst h h';exact ⟨rfl,rfl,rfl,rfl,λi hi j hj=>zDS (zm.sh _ j hj)⟩
 . cases h) λa h=>rclose_ok a.1 a.2.1 h
theorem QF {s : Sed} {n : Int} (h : SdOk s) : Qx s n = ze s n:=by
 unfold Qx ze maxI;by_cases hn : n <= s.mn
 . rw [if_pos hn,if_neg (by omega)];have e : s.held.filter (zEa s.mn) = s.held:=by
    apply List.filter_eq_self.2;intro x hx;have:=QI h.h x hx;exact decide_eq_true (by omega)
   rw [e]
 . rw [if_neg hn,if_pos (by omega)];rfl
theorem YT {s : Sed} {x y : Sed} {n : Int} {z : Sed} (hs : s = Qx x n) (hx : x = y) (hz : Qx y n = z) : z = s:=by rw [hs,hx,hz]
theorem zAn {s : Sed} {i m : Int} {H : List Hel} (hi : i = s.id) (hm : m = s.mn) (hH : H = s.held) : (⟨i,m,H⟩ : Sed) = s:=by subst hi hm hH;rfl
theorem and01 (v : Int) : bits .and .u32 v 1 = 0 \/ bits .and .u32 v 1 = 1:=by
 have h : (BitVec.ofInt 32 v &&& BitVec.ofInt 32 1).toNat = (BitVec.ofInt 32 v).toNat % 2:=by
  rw [BitVec.toNat_and];have : (BitVec.ofInt 32 1).toNat = 1:=rfl;rw [this,Nat.and_one_is_mod]
 have e : bits .and .u32 v 1 = IntKind.u32.wrap (((BitVec.ofInt 32 v).toNat % 2 : Nat) : Int):=by
  show IntKind.u32.wrap (((BitVec.ofInt 32 v &&& BitVec.ofInt 32 1).toNat : Nat) : Int) = _;rw [h]
 rw [e];rcases (show (BitVec.ofInt 32 v).toNat % 2 = 0 \/ (BitVec.ofInt 32 v).toNat % 2 = 1 by omega) with g | g
 . rw [g];exact .inl (IntWalk.u32_in _ (by omega))
 . rw [g];exact .inr (IntWalk.u32_in _ (by omega))
theorem hasB_zero (n : Int) : YC ⟨0,0,0⟩ n = false:=by
 unfold YC;have e : shrI .u32 0 (n - 0) = 0:=Int.zero_fdiv _;have e2 : bits .and .u32 0 1 = 0:=by decide +kernel
 dsimp only;rw [e,e2];simp
theorem rhas_ok (s : Smy) (n : Int) (h : HsI s n) : Ze Try.prog 75 [(cE zu).enc s,(cI .i64).enc n] (cB.enc (YC s n)):=by
 obtain ⟨⟨m1,m2⟩,n1,n2⟩:=h;obtain ⟨d,hd⟩ : ∃ d,n - s.mn = d:=⟨_,rfl⟩;obtain ⟨R,hR⟩ : ∃ R,YC s n = R:=⟨_,rfl⟩;have a1 : ¬ 0 <= d -> false = R:=λg=>by rw [<- hR];unfold YC;rw [hd,decide_eq_false g];rfl
 have a2 : ¬ d < 32 -> false = R:=λg=>by rw [<- hR];unfold YC;rw [hd,decide_eq_false g,Bool.false_and,Bool.and_false]
 have a3 : 0 <= d -> d < 32 -> decide (bits .and .u32 (shrI .u32 s.bits d) 1 = 1) = R:=λg g'=>by rw [<- hR];unfold YC;rw [hd,decide_eq_true g,decide_eq_true g',Bool.true_and,Bool.true_and]
 rw [hR];have w0 : IntKind.i64.wrap (n - s.mn) = d:=by rw [hd];exact IntWalk.i64_in _ (by omega)
 have w1 : IntKind.i64.wrap (s.mn + 31) = s.mn + 31:=IntWalk.i64_in _ (by omega);refine zt (wd:=1) (by decide) zN (zb qC) zP Try.func75 rfl _ (by show 2 <= _;decide) _ ?_;by_cases g0 : 0 <= d
 . have w2 : IntKind.u64.wrap d = d:=IntWalk.u64_in _ (by omega);by_cases g1 : d < 32
   . have a3:=a3 g0 g1;clear a1 a2;repeat' (first | (simp only [w0,w1,w2]) | (apply And.intro<;>intro hc<;>(first | exact Bool.noConfusion hc | (exfalso;first | exact absurd rfl hc | omega) | (simp only [zl] at hc<;>first | exact absurd rfl hc | (exfalso;first | exact absurd rfl hc | omega) | skip) | skip)) | (refine And.intro zj ?_) | (apply And.intro) | (intro s hs;skip))
     . exact g0
     conv=>whnf
     exact Done.mk (zG a3)
   . have a2:=a2 g1;clear a1 a3;repeat' (first | (simp only [w0,w1,w2]) | (apply And.intro<;>intro hc<;>(first | exact Bool.noConfusion hc | (exfalso;first | exact absurd rfl hc | omega) | (simp only [zl] at hc<;>first | exact absurd rfl hc | (exfalso;first | exact absurd rfl hc | omega) | skip) | skip)) | (refine And.intro zj ?_) | (apply And.intro) | (intro s hs;skip))
     conv=>whnf
     exact Done.mk (zG a2)
 . have a1:=a1 g0;clear a2 a3;repeat' (first | (simp only [w0,w1]) | (apply And.intro<;>intro hc<;>(first | exact Bool.noConfusion hc | (exfalso;first | exact absurd rfl hc | omega) | (simp only [zl] at hc<;>first | exact absurd rfl hc | (exfalso;first | exact absurd rfl hc | omega) | skip) | skip)) | (refine And.intro zj ?_) | (apply And.intro) | (intro s hs;skip))
   conv=>whnf
   exact Done.mk (zG a1)
abbrev rhasE : Zk:=qr (AC.cons (cE zu) (AC.cons (cI .i64) AC.nil)) (λa=>HsI a.1 a.2.1) (λa=>YC a.1 a.2.1) cB.enc
theorem toNI (L : List Sed) : Ys neI L.length (zo ZB L) = L.map Sed.id:=by
 apply List.ext_getElem
 . simp [Ys]
 . intro i h1 h2;have hi : i < L.length:=by simpa using h2
   simp only [Ys,List.getElem_map,List.getElem_range];show (L.getD i default).id = _;rw [List.getD_eq_getElem?_getD,List.getElem?_eq_getElem hi];rfl
def anyN (n : Int) (L : List Hel) : Bool:=L.any λh=>decide (h.num = n)
theorem plc_any {mn n : Int} : ∀ {L : List Hel} {last : Int} {k : Nat},ZY mn last L = true -> (ZM n L k).2 = anyN n L:=by
 intro L;induction L with
 | nil=>intro _ _ _;rfl
 | cons a t ih=>
   intro last k hv;have hv':=Qj.1 hv;unfold ZM anyN;rw [List.any_cons];by_cases h : n <= a.num
   . rw [if_pos h];by_cases h2 : a.num = n
     . rw [decide_eq_true h2,Bool.true_or]
     . rw [decide_eq_false h2,Bool.false_or];symm
       rw [List.any_eq_false];intro x hx;have:=(QI hv'.2.2 x hx).1;simp;omega
   . rw [if_neg h,decide_eq_false (by omega),Bool.false_or];exact ih hv'.2.2
theorem has_bit {s : Smy} {i : Nat} (hi : i < 32) : YC s (s.mn + i) = decide (bits .and .u32 (shrI .u32 s.bits i) 1 = 1):=by
 unfold YC;rw [show s.mn + (i : Int) - s.mn = (i : Int) by omega,decide_eq_true (by omega : (0 : Int) <= (i : Int)),decide_eq_true (by omega : (i : Int) < 32),Bool.true_and,Bool.true_and]
def LRl : CsL:=(64,some rfindE) :: []
theorem LRl_ok : qV Try.prog LRl:=⟨zx ⟨_,Try.func64,rfl,by kernel_rfl⟩ λa h=>zFs a.1 a.2.1 h,trivial⟩
theorem YO {s F : Int} {id : Int} {M L : List Int} (hs : s = zBK id M 0) (h : M = L) (hF : zBK id L 0 = F) : F = s:=by rw [hs,h,hF]
theorem any_dropH {L : List Hel} {n : Int} {p : Nat} {b W : Bool} (h : p < L.length) (hW : (b || anyN n (L.drop p)) = W) : ((b || decide ((L.getD p default).num = n)) || anyN n (L.drop (p + 1))) = W:=by
 rw [<- hW,qL h];unfold anyN;rw [List.any_cons,Bool.or_assoc]
theorem rlacks_ok (L : List Sed) (s : Smy) (hv : ZA L = true) (hm : 0 <= s.mn /\ s.mn <= 1073741824) : Ze Try.prog 77 [(cNS ZB qA).enc L,(cE zu).enc s] (cB.enc (qy L s)):=by
 have h8:=Zv hv;obtain ⟨R,hR⟩ : ∃ R,qy L s = R:=⟨_,rfl⟩;obtain ⟨F,hF⟩ : ∃ F,zBK s.id (L.map Sed.id) 0 = F:=⟨_,rfl⟩;have hFe:=zDP (id:=s.id) (k:=0) (zCw hv);rw [hF] at hFe;have hle:=zAU (id:=s.id) (L:=L) (k:=0);rw [hR];refine zt (wd:=1) (by decide) zN (zb LRl_ok) zP Try.func77 rfl _ (by show 2 <= _;decide) _ ?_;repeat' (first | (apply And.intro<;>intro hc<;>(first | exact Bool.noConfusion hc | (exfalso;first | exact absurd rfl hc | omega) | (simp only [zl] at hc<;>first | exact absurd rfl hc | (exfalso;first | exact absurd rfl hc | omega) | skip) | skip)) | (refine And.intro zj ?_) | (apply And.intro) | (intro s hs;(have q:=YO hs (toNI L) hF;clear hs;subst q)))
 . show (Ys neI L.length (zo ZB L)).length <= 9223372036854775807;rw [toNI,List.length_map];omega
 . have hf : ¬ (Zf s.id L 0).2 = true:=λg=>by rw [if_pos g] at hFe;omega
   have e : decide (s.bits ≠ 0) = R:=by rw [<- hR];unfold qy;rw [if_pos (by simpa using hf)]
   conv=>whnf
   exact Done.mk (zG (((by first | rfl | (simp [bne];done) | (cases hb : decide (s.bits = 0)<;>simp_all) : (s.bits != 0) = decide (s.bits ≠ 0))).trans e))
 have hft : (Zf s.id L 0).2 = true:=by
  cases hh : (Zf s.id L 0).2 with
  | true=>rfl
  | false=>rw [hh,if_neg (by simp)] at hFe;omega
 rw [if_pos hft] at hFe;obtain ⟨a,ea⟩ : ∃ a,(Zf s.id L 0).1 = a:=⟨_,rfl⟩;rw [ea] at hFe hle;subst hFe;have hal : a < L.length:=by have:=hle.2.1 hft;omega
 obtain ⟨x,ex⟩ : ∃ x,L.getD a default = x:=⟨_,rfl⟩;have hV : zAH s x 32 0 = R:=by rw [<- hR];unfold qy;rw [if_neg (by rw [hft];simp),ea,ex]
 have hx : SdOk x:=by rw [<- ex];exact (qq hv _ (zw hal)).2
 have ec : zo ZB L a = ZB.cell x:=congrArg ZB.cell ex;have za : (a : Int).toNat = a:=rfl;have hxn:=hx.n;conv=>whnf
 refine zU (zV LRl_ok) (λi : {i : Nat // i <= 32 /\ zAH s x (32 - i) i = R}=>(⟨[(0,zL (ZT ZB L)),(3,zL (.ptr 0 0 0 false)),(5,zL (.int .i64 (a : Int))),(6,zL (.int .i64 (i.1 : Int)))],[(0,some ⟨60,1,3,true,λ_=>zu.cell s⟩)],1⟩ : Hd)) (λi=>32 - i.1) (λ_=>rfl) ?_ ⟨0,Nat.zero_le _,hV⟩ [] ⟨rfl,⟨zD (zJ (zI L)),zF rfl,zB rfl,zB rfl,trivial⟩,⟨rfl,zE λj hj=>(Elem.flat _ _ _).le⟩,trivial⟩;rintro ⟨i,hi,hVi⟩;dsimp only at hi hVi ⊢;unfold ZT;by_cases hil : i < 32
 . have hst:=zEY hil hVi;have w3 : IntKind.i64.wrap ((i : Int) + 1) = ((i + 1 : Nat) : Int):=(IntWalk.i64_in _ (by omega)).trans (by omega);have w4 : IntKind.i64.wrap (s.mn + (i : Int)) = s.mn + (i : Int):=IntWalk.i64_in _ (by omega);have w5 : IntKind.u64.wrap (i : Int) = (i : Int):=IntWalk.u64_in _ (by omega);have hb:=has_bit (s:=s) hil;have h01:=and01 (shrI .u32 s.bits (i : Int));rw [hb,plc_any hx.h] at hst;obtain ⟨b,eb⟩ : ∃ b,bits .and .u32 (shrI .u32 s.bits (i : Int)) 1 = b:=⟨_,rfl⟩;rw [eb] at hst h01;have g1 : b = 0 -> zAH s x (32 - (i + 1)) (i + 1) = R:=λh=>by rw [if_pos (.inl (decide_eq_false (by omega)))] at hst;exact hst
   have g2 : s.mn + (i : Int) < x.mn -> zAH s x (32 - (i + 1)) (i + 1) = R:=λh=>by rw [if_pos (.inr h)] at hst;exact hst
   have g3 : ¬ b = 0 -> ¬ s.mn + (i : Int) < x.mn -> (if anyN (s.mn + (i : Int)) x.held = false then true else zAH s x (32 - (i + 1)) (i + 1)) = R:=λh h'=>by rw [if_neg (by rintro (h2 | h2);exact absurd (of_decide_eq_false h2) (by omega);exact h' h2)] at hst;exact hst
   clear hst hb;repeat' (first | (simp only [w4,w5,eb,za,ec]) | (apply And.intro<;>intro hc<;>(first | exact Bool.noConfusion hc | (exfalso;first | exact absurd rfl hc | omega) | (simp only [zl] at hc<;>first | exact absurd rfl hc | (exfalso;first | exact absurd rfl hc | omega) | skip) | skip)) | (refine And.intro zj ?_) | (apply And.intro) | (intro s hs;skip))
   . conv=>whnf
     exact ⟨⟨i + 1,hil,g1 (eb.symm.trans ‹_›)⟩,[],by dsimp only;omega,rfl,⟨zD (zJ (zI L)),zF rfl,zB rfl,zB w3,trivial⟩,⟨rfl,zE λj hj=>(Elem.flat _ _ _).le⟩,trivial⟩
   . conv=>whnf
     exact ⟨⟨i + 1,hil,g2 ‹_›⟩,[],by dsimp only;omega,rfl,⟨zD (zJ (zI L)),zF rfl,zB rfl,zB w3,trivial⟩,⟨rfl,zE λj hj=>(Elem.flat _ _ _).le⟩,trivial⟩
   have g4:=g3 (λg=>absurd (eb.trans g) ‹_›) ‹_›;obtain ⟨W,eW⟩ : ∃ W,anyN (s.mn + (i : Int)) x.held = W:=⟨_,rfl⟩;rw [eW] at g4;conv=>whnf
   refine zU (zV LRl_ok) (λu : {p : Nat × Bool // p.1 <= x.held.length /\ (p.2 || anyN (s.mn + (i : Int)) (x.held.drop p.1)) = W}=>(⟨[(0,zL (ZT ZB L)),(3,zL (.ptr 0 0 0 false)),(5,zL (.int .i64 (a : Int))),(6,zL (.int .i64 (i : Int))),(7,zL (.int .i64 (s.mn + (i : Int)))),(8,zL (.bool u.1.2)),(48,zL (slN zm x.held)),(49,zL (.int .i64 (x.held.length : Int))),(50,zL (.int .i64 (u.1.1 : Int)))],[(0,some ⟨60,1,3,true,λ_=>zu.cell s⟩)],1⟩ : Hd)) (λu=>x.held.length - u.1.1) (λ_=>rfl) ?_ ⟨(0,false),Nat.zero_le _,eW⟩ [] ⟨rfl,⟨zD (zJ (zI L)),zF rfl,zB rfl,zB rfl,zB rfl,zG rfl,zD (qK _).le,zB rfl,zB rfl,trivial⟩,⟨rfl,zE λj hj=>(Elem.flat _ _ _).le⟩,trivial⟩;rintro ⟨⟨p,bb⟩,hp,hW⟩;dsimp only at hp hW ⊢;unfold ZT;by_cases hpl : p < x.held.length
   . have w6 : IntKind.i64.wrap ((p : Int) + 1) = ((p + 1 : Nat) : Int):=(IntWalk.i64_in _ (by omega)).trans (by omega);have hd:=any_dropH hpl hW;obtain ⟨h,eh⟩ : ∃ h,x.held.getD p default = h:=⟨_,rfl⟩;have eck : zo zm x.held p = zm.cell h:=congrArg zm.cell eh;have zp : (p : Int).toNat = p:=rfl;rw [eh] at hd;cases bb with
     | true=>
       repeat' (first | (simp only [zp,eck]) | (apply And.intro<;>intro hc<;>(first | exact Bool.noConfusion hc | (exfalso;first | exact absurd rfl hc | omega) | (simp only [zl] at hc<;>first | exact absurd rfl hc | (exfalso;first | exact absurd rfl hc | omega) | skip) | skip)) | (refine And.intro zj ?_) | (apply And.intro) | (intro s hs;skip))
       conv=>whnf
       exact ⟨⟨(p + 1,true),hpl,by rw [Bool.true_or] at hd;exact hd⟩,[],by dsimp only;omega,rfl,⟨zD (zJ (zI L)),zF rfl,zB rfl,zB rfl,zB rfl,zG rfl,zD (qK _).le,zB rfl,zB w6,trivial⟩,⟨rfl,zE λj hj=>(Elem.flat _ _ _).le⟩,trivial⟩
     | false=>
       repeat' (first | (simp only [zp,eck]) | (apply And.intro<;>intro hc<;>(first | exact Bool.noConfusion hc | (exfalso;first | exact absurd rfl hc | omega) | (simp only [zl] at hc<;>first | exact absurd rfl hc | (exfalso;first | exact absurd rfl hc | omega) | skip) | skip)) | (refine And.intro zj ?_) | (apply And.intro) | (intro s hs;skip))
       conv=>whnf
       exact ⟨⟨(p + 1,decide (h.num = s.mn + (i : Int))),hpl,by rw [Bool.false_or] at hd;exact hd⟩,[],by dsimp only;omega,rfl,⟨zD (zJ (zI L)),zF rfl,zB rfl,zB rfl,zB rfl,zG rfl,zD (qK _).le,zB rfl,zB w6,trivial⟩,⟨rfl,zE λj hj=>(Elem.flat _ _ _).le⟩,trivial⟩
   . have e : bb = W:=by rw [<- hW,List.drop_of_length_le (by omega)];unfold anyN;simp
     subst e;repeat' (first | (apply And.intro<;>intro hc<;>(first | exact Bool.noConfusion hc | (exfalso;first | exact absurd rfl hc | omega) | (simp only [zl] at hc<;>first | exact absurd rfl hc | (exfalso;first | exact absurd rfl hc | omega) | skip) | skip)) | (refine And.intro zj ?_) | (apply And.intro) | (intro s hs;skip))
     . rw [if_pos ‹_›] at g4;conv=>whnf
       exact Done.mk (zG g4)
     . rw [if_neg (by rw [show bb = true by assumption];simp)] at g4;conv=>whnf
       exact ⟨⟨i + 1,hil,g4⟩,[],by dsimp only;omega,rfl,⟨zD (zJ (zI L)),zF rfl,zB rfl,zB w3,trivial⟩,⟨rfl,zE λj hj=>(Elem.flat _ _ _).le⟩,trivial⟩
 . have hVf : R = false:=by rw [<- hVi,show 32 - i = 0 by omega];rfl
   rw [hVf];repeat' (first | (apply And.intro<;>intro hc<;>(first | exact Bool.noConfusion hc | (exfalso;first | exact absurd rfl hc | omega) | (simp only [zl] at hc<;>first | exact absurd rfl hc | (exfalso;first | exact absurd rfl hc | omega) | skip) | skip)) | (refine And.intro zj ?_) | (apply And.intro) | (intro s hs;skip))
   exact Done.mk (zG rfl)
abbrev rlacksE : Zk:=qr (AC.cons (cNS ZB qA) (AC.cons (cE zu) AC.nil)) (λa=>ZA a.1 = true /\ 0 <= a.2.1.mn /\ a.2.1.mn <= 1073741824) (λa=>qy a.1 a.2.1) cB.enc
theorem vh_lt {mn : Int} : ∀ {L : List Hel} {last : Int} {i j : Nat},ZY mn last L = true -> i < j -> j < L.length -> (L.getD i default).num < (L.getD j default).num:=by
 intro L;induction L with
 | nil=>intro _ _ _ _ _ h;exact absurd h (Nat.not_lt_zero _)
 | cons a t ih=>
   intro last i j hv hij hj;have hv':=Qj.1 hv;cases j with
   | zero=>exact absurd hij (Nat.not_lt_zero _)
   | succ j=>
     have hj : j < t.length:=by simpa using hj
     rw [qX];cases i with
     | zero=>exact (QI hv'.2.2 _ (zw hj)).1
     | succ i=>rw [qX];exact ih hv'.2.2 (by omega) hj
theorem zBE {mn last n : Int} {L : List Hel} {k : Nat} (hv : ZY mn last L = true) (hk : k < L.length) (h : (L.getD k default).num = n) : ZM n L 0 = (k,true):=by
 obtain ⟨h1,h2⟩:=plc_mem (k:=0) hv (zw hk);rw [h] at h1 h2;rw [Nat.sub_zero] at h2;have h3:=(QC (id:=n) (L:=L) (k:=0)).2.1 h1;rw [Nat.zero_add] at h3;have e : (ZM n L 0).1 = k:=by
  rcases Nat.lt_trichotomy (ZM n L 0).1 k with g | g | g
  . have:=vh_lt hv g hk;rw [h2] at this;omega
  . exact g
  . have:=vh_lt hv g h3;rw [h2] at this;omega
 rw [<- e,<- h1]
theorem zBF {n : Int} : ∀ {L : List Hel} {k : Nat},(∀ p,p < L.length -> (L.getD p default).num ≠ n) -> (ZM n L k).2 = false:=by
 intro L;induction L with
 | nil=>intro _ _;rfl
 | cons a t ih=>
   intro k h;unfold ZM;split
   . exact decide_eq_false (h 0 (by simp))
   . exact ih λp hp=>by have:=h (p + 1) (by simpa using hp);rwa [qX] at this
theorem plc_lt {n : Int} : ∀ {L : List Hel} {k p : Nat},k <= p -> p < (ZM n L k).1 -> (L.getD (p - k) default).num < n:=by
 intro L;induction L with
 | nil=>intro k p h1 h2;exact absurd h2 (by show ¬ p < k;omega)
 | cons a t ih=>
   intro k p h1 h2;unfold ZM at h2;by_cases h : n <= a.num
   . rw [if_pos h] at h2;exact absurd h2 (by show ¬ p < k;omega)
   . rw [if_neg h] at h2;by_cases hp : p = k
     . subst hp;rw [Nat.sub_self];show a.num < n;omega
     . rw [show p - k = (p - (k + 1)) + 1 by omega,qX];exact ih (by omega) h2
theorem plc_at {n : Int} : ∀ {L : List Hel} {k : Nat},(ZM n L k).2 = false -> (ZM n L k).1 - k < L.length -> n < (L.getD ((ZM n L k).1 - k) default).num:=by
 intro L;induction L with
 | nil=>intro k _ h;exact absurd h (Nat.not_lt_zero _)
 | cons a t ih=>
   intro k h1 h2;have hle:=(QC (id:=n) (L:=t) (k:=k + 1)).2.2;unfold ZM at h1 h2 ⊢;by_cases h : n <= a.num
   . rw [if_pos h] at h1 h2 ⊢;rw [Nat.sub_self];have : a.num ≠ n:=of_decide_eq_false h1;show n < a.num;omega
   . rw [if_neg h] at h1 h2 ⊢;rw [show (ZM n t (k + 1)).1 - k = ((ZM n t (k + 1)).1 - (k + 1)) + 1 by omega,qX];exact ih h1 (by rw [List.length_cons] at h2;omega)
theorem fnd_lt {n : Int} : ∀ {L : List Sed} {k p : Nat},k <= p -> p < (Zf n L k).1 -> (L.getD (p - k) default).id < n:=by
 intro L;induction L with
 | nil=>intro k p h1 h2;exact absurd h2 (by show ¬ p < k;omega)
 | cons a t ih=>
   intro k p h1 h2;unfold Zf at h2;by_cases h : n <= a.id
   . rw [if_pos h] at h2;exact absurd h2 (by show ¬ p < k;omega)
   . rw [if_neg h] at h2;by_cases hp : p = k
     . subst hp;rw [Nat.sub_self];show a.id < n;omega
     . rw [show p - k = (p - (k + 1)) + 1 by omega,qX];exact ih (by omega) h2
theorem fnd_at {n : Int} : ∀ {L : List Sed} {k : Nat},(Zf n L k).2 = false -> (Zf n L k).1 - k < L.length -> n < (L.getD ((Zf n L k).1 - k) default).id:=by
 intro L;induction L with
 | nil=>intro k _ h;exact absurd h (Nat.not_lt_zero _)
 | cons a t ih=>
   intro k h1 h2;have hle:=(zAU (id:=n) (L:=t) (k:=k + 1)).2.2;unfold Zf at h1 h2 ⊢;by_cases h : n <= a.id
   . rw [if_pos h] at h1 h2 ⊢;rw [Nat.sub_self];have : a.id ≠ n:=of_decide_eq_false h1;show n < a.id;omega
   . rw [if_neg h] at h1 h2 ⊢;rw [show (Zf n t (k + 1)).1 - k = ((Zf n t (k + 1)).1 - (k + 1)) + 1 by omega,qX];exact ih h1 (by rw [List.length_cons] at h2;omega)
inductive InsI {α : Type} (g : Nat) (x : α) (H : List α) (p : Nat) : Bool -> List α -> Prop
 | no : p <= g -> InsI g x H p false (H.take p)
 | yes : g < p -> InsI g x H p true ((Zn g x H).take (p + 1))
theorem takeA {α : Type} [Inhabited α] {x : List α} {k : Nat} (h : k < x.length) : x.take (k + 1) = x.take k ++ [x.getD k default]:=by
 rw [List.take_add_one,List.getD_eq_getElem?_getD,List.getElem?_eq_getElem h];rfl
theorem ins_no {α : Type} [Inhabited α] {g : Nat} {x : α} {H : List α} {p : Nat} (hp : p < g) (hl : p < H.length) : InsI g x H (p + 1) false (H.take p ++ [H.getD p default]):=by
 rw [<- takeA hl];exact .no hp
theorem ins_at {α : Type} [Inhabited α] {g : Nat} {x : α} {H : List α} (hl : g < H.length) : InsI g x H (g + 1) true ((H.take g ++ [x]) ++ [H.getD g default]):=by
 have e : (H.take g ++ [x]) ++ [H.getD g default] = (Zn g x H).take (g + 1 + 1):=by
  have hl2 : ((H.take g ++ [x]) ++ [H.getD g default]).length = g + 1 + 1:=by
   rw [List.length_append,List.length_append,List.length_take];show min g H.length + 1 + 1 = g + 1 + 1;omega
  have e2 : Zn g x H = ((H.take g ++ [x]) ++ [H.getD g default]) ++ H.drop (g + 1):=by
   unfold Zn;rw [zD0 (d:=default) hl];simp only [List.append_assoc,List.cons_append,List.nil_append]
  rw [e2,List.take_append_of_le_length (Nat.le_of_eq hl2.symm),List.take_of_length_le (Nat.le_of_eq hl2)]
 rw [e];exact .yes (by omega)
theorem ins_yes {α : Type} [Inhabited α] {g : Nat} {x : α} {H : List α} {p : Nat} (hg : g < p) (hl : p < H.length) : InsI g x H (p + 1) true ((Zn g x H).take (p + 1) ++ [H.getD p default]):=by
 have e : (Zn g x H).take (p + 1) ++ [H.getD p default] = (Zn g x H).take (p + 1 + 1):=by
  rw [takeA (x:=Zn g x H) (k:=p + 1) (by rw [qf (by omega)];omega),Yc (by omega) (by omega),Nat.add_sub_cancel]
 rw [e];exact .yes (by omega)
theorem zFp {α : Type} {x : α} {H : List α} : H.take H.length ++ [x] = Zn H.length x H:=by
 unfold Zn;rw [List.drop_of_length_le (Nat.le_refl _)]
theorem zFq {α : Type} {g : Nat} {x : α} {H : List α} (hg : g <= H.length) : (Zn g x H).take (H.length + 1) = Zn g x H:=List.take_of_length_le (by rw [qf hg];exact Nat.le_refl _)
theorem ins_len {α : Type} {g : Nat} {x : α} {H : List α} {p : Nat} {b : Bool} {Lo : List α} (h : InsI g x H p b Lo) : Lo.length <= p + 1:=by
 cases h with
 | no h=>rw [List.length_take];omega
 | yes h=>rw [List.length_take];omega
theorem zFr {c : Cas} {L : List Sed} (hv : ZA (Qn c L) = true) (g : (Zf c.id L 0).1 < (Qn c L).length) (h : ((Qn c L).getD (Zf c.id L 0).1 default).id = c.id) : zBK c.id ((Qn c L).map Sed.id) 0 = ((Zf c.id L 0).1 : Int):=by
 rw [zDP (zCw hv)];obtain ⟨h1,h2⟩:=fnd_mem (k:=0) (zCw hv) (zw g);rw [h] at h1 h2;rw [if_pos h1];rw [Nat.sub_zero] at h2;have h3:=(zAU (id:=c.id) (L:=Qn c L) (k:=0)).2.1 h1;rw [Nat.zero_add] at h3;have inj : ∀ {L : List Sed} {last : Int} {i j : Nat},qE last L = true -> i < j -> j < L.length -> (L.getD i default).id < (L.getD j default).id:=by
  intro L;induction L with
  | nil=>intro _ _ _ _ _ h;exact absurd h (Nat.not_lt_zero _)
  | cons a t ih=>
    intro last i j hv hij hj;have hv':=YF.1 hv;cases j with
    | zero=>exact absurd hij (Nat.not_lt_zero _)
    | succ j=>
      have hj : j < t.length:=by simpa using hj
      rw [qX];cases i with
      | zero=>exact (vs_mem hv'.2.2 _ (zw hj)).1
      | succ i=>rw [qX];exact ih hv'.2.2 (by omega) hj
 have e : (Zf c.id (Qn c L) 0).1 = (Zf c.id L 0).1:=by
  rcases Nat.lt_trichotomy (Zf c.id (Qn c L) 0).1 (Zf c.id L 0).1 with q | q | q
  . have:=inj (zCw hv) q g;rw [h2] at this;omega
  . exact q
  . have:=inj (zCw hv) q h3;rw [h2] at this;omega
 rw [e]
def zFA (t d : Int) : Int:=if 1099511627776 < t + d then 1099511627776 else t + d
theorem rafter_ok (t d : Int) (h : 0 <= t /\ t <= 1099511627776 /\ 0 <= d /\ d <= 1099511627776) : Ze Try.prog 68 [(cI .i64).enc t,(cI .i64).enc d] ((cI .i64).enc (zFA t d)):=by
 have w : IntKind.i64.wrap (t + d) = t + d:=IntWalk.i64_in _ (by omega);refine zt (wd:=1) (by decide) zN (zb qC) zP Try.func68 rfl _ (by show 2 <= _;decide) _ ?_;repeat' (first | (simp only [w]) | (apply And.intro<;>intro hc<;>(first | exact Bool.noConfusion hc | (exfalso;first | exact absurd rfl hc | omega) | (simp only [zl] at hc<;>first | exact absurd rfl hc | (exfalso;first | exact absurd rfl hc | omega) | skip) | skip)) | (refine And.intro zj ?_) | (apply And.intro) | (intro s hs;skip))
 conv=>whnf
 exact Done.mk (zB (by rw [w];rfl))
abbrev rafterE : Zk:=qr (AC.cons (cI .i64) (AC.cons (cI .i64) AC.nil)) (λa=>0 <= a.1 /\ a.1 <= 1099511627776 /\ 0 <= a.2.1 /\ a.2.1 <= 1099511627776) (λa=>zFA a.1 a.2.1) (cI .i64).enc
def LRn : CsL:=(40,some zDF) :: (63,some zC5) :: (68,some rafterE) :: (43,some zFC) :: (64,some rfindE) :: (66,some rcloseE) :: LTk
theorem zy : qV Try.prog LRn:=⟨zx ⟨_,Try.func40,rfl,by kernel_rfl⟩ λa h=>zBf a.1 h,zx ⟨_,Try.func63,rfl,by kernel_rfl⟩ λa _=>TkR.tkTime_ok a.1,zx ⟨_,Try.func68,rfl,by kernel_rfl⟩ λa h=>rafter_ok a.1 a.2.1 h,zCr,zx ⟨_,Try.func64,rfl,by kernel_rfl⟩ λa h=>zFs a.1 a.2.1 h,zGN,zCn⟩
def rowT (a : Nat) (L : List Sed) (k j : Nat) : CV:=bif Nat.beq k a then .top else zo ZB L k j
theorem zAl {a k j : Nat} {L : List Sed} (h : k ≠ a) : rowT a L k j = zo ZB L k j:=by unfold rowT;rw [zAz h];rfl
theorem rowT_at {a j : Nat} {L : List Sed} : rowT a L a j = .top:=by unfold rowT;rw [QE];rfl
theorem ql {c : Wc} {a k j : Nat} {L : List Sed} {x : CV} (hj : j < 3) (h : k ≠ a -> x = zo ZB L k j) : Zu c x (rowT a L k j):=by
 by_cases hk : k = a
 . subst hk;rw [rowT_at];exact zDJ
 . rw [zAl hk,h hk];exact (ZB.sh _ j hj).le
def SAr (L : List Sed) (a : Nat) (now : Int) (c : Cas) (deaf : Bool) (draw : Int) (_ : Unit) : Hd:=
 ⟨[(1,zL (.int .i64 now)),(3,zL (.bool deaf)),(4,zL (.int .u32 draw)),(7,zL (.ptr 0 0 0 false)),(13,zL (.os 1 0 L.length))],
  [(0,some ⟨32,1,3,true,λ_=>qo.cell c⟩),(1,some ⟨78,L.length,3,false,QO 2 (L.getD a default) a L⟩),(2,some (Zj zm 85 (L.getD a default).held))],3⟩
def SBr (L : List Sed) (a : Nat) (s : Sed) (now : Int) (c : Cas) (deaf : Bool) (draw : Int) (_ : Unit) : Hd:=
 ⟨[(1,zL (.int .i64 now)),(3,zL (.bool deaf)),(4,zL (.int .u32 draw)),(7,zL (.ptr 0 0 0 false)),(13,zL (.os 1 0 L.length)),(18,zL (.int .i64 (a : Int))),(19,zL (.ptr 3 0 0 false))],
  [(0,some ⟨32,1,3,true,λ_=>qo.cell c⟩),(1,some ⟨78,L.length,3,false,rowT a L⟩),(2,some (Zj zm 85 s.held)),(3,some ⟨78,1,3,true,λ_=>sdO 2 s⟩)],4⟩
theorem Yk {d a n : Nat} {s : Sed} {L : List Sed} (hs : s = L.getD a default) (hn : n = L.length) : Ys neI n (λk j=>QO d s a L (0 + k) j) = L.map Sed.id:=by
 subst hn;apply List.ext_getElem
 . simp [Ys]
 . intro i h1 h2;have hi : i < L.length:=by simpa using h2
   simp only [Ys,List.getElem_map,List.getElem_range];show Ya (QO d s a L (0 + i) 0) = _;rw [Nat.zero_add];have e : Ya (QO d s a L i 0) = (L.getD i default).id:=by
    by_cases h : i = a
    . subst h;rw [zAL,hs];rfl
    . rw [zc h];rfl
   rw [e,List.getD_eq_getElem?_getD,List.getElem?_eq_getElem hi];rfl
theorem Yl {d a n : Nat} {s : Sed} {L : List Sed} : ∀ i,i < n -> neI.ok (λj=>QO d s a L (0 + i) j):=λi _=>by
 show isK .u64 (QO d s a L (0 + i) 0) = true;rw [Nat.zero_add];by_cases h : i = a
 . subst h;rw [zAL];rfl
 . rw [zc h];rfl
def SLr (L : List Sed) (a : Nat) (s : Sed) (now : Int) (c : Cas) (deaf : Bool) (draw : Int) : Hd:=
 ⟨[(1,zL (.int .i64 now)),(3,zL (.bool deaf)),(4,zL (.int .u32 draw)),(7,zL (.ptr 0 0 0 false)),(13,zL (.os 1 0 L.length)),(18,zL (.int .i64 (a : Int))),(19,zL (.ptr 3 0 0 false))],
  [(0,some ⟨32,1,3,true,λ_=>qo.cell c⟩),(1,some ⟨78,L.length,3,false,QO 2 s a L⟩),(2,some (Zj zm 85 s.held)),(3,some ⟨78,1,3,true,λ_=>sdO 2 s⟩)],4⟩
theorem zFB {c : Wc} {d d' : Nat} {s : Sed} (h : c.src d' = some d) : ∀ j,j < 3 -> Zu c (sdO d s j) (sdO d' s j):=Zr ⟨zC rfl,zC rfl,zH h rfl⟩
structure AcR (L : List Sed) (a : Nat) (now : Int) (c : Cas) (draw : Int) : Prop where
 lt : a < L.length
 n : L.length <= 9
 ok : SdOk (L.getD a default)
 num : 0 <= c.num /\ c.num < 1073741824
 d : c.data.length <= 64
 now : 0 <= now /\ now <= 1099511627776
 dr : ZS draw
 f : zBK c.id (L.map Sed.id) 0 = (a : Int)
theorem Yj {f : Nat -> Nat -> CV} {i j : Nat} {g : Nat -> CV} : zBW false f i g i j = g j:=by
 show Zp (Nat.beq i i) (g j) (f i j) = g j;rw [QS,QE];rfl
theorem zFo {c : Wc} {t : TypeId} {Z : List Hel} {x : Hel} {n : Nat} {f : Nat -> Nat -> CV} {g z : Nat -> CV} (hn : n = Z.length) (hf : ∀ k,k < n -> ∀ j,j < 11 -> Zu c (f k j) (zo zm Z k j)) (h : ∀ j,j < 11 -> Zu c (g j) (zm.cell x j)) : LeN c ⟨t,n + 1,11,false,λk j=>Zp (Nat.blt k n) (f k j) (Zp (Nat.beq (0 + (k - n)) 0) (g j) (z j))⟩ (Zj zm t (Z ++ [x])):=by
 subst hn;refine ⟨rfl,by show _ = (Z ++ [x]).length;rw [List.length_append];rfl,rfl,rfl,λk hk j hj=>?_⟩;have hk : k < Z.length + 1:=hk;by_cases hkz : k < Z.length
 . refine ZU (Nat.ble_eq_true_of_le hkz) ?_;have e : zo zm (Z ++ [x]) k j = zo zm Z k j:=congrArg (λz=>zm.cell z j) (by rw [List.getD_eq_getElem?_getD,List.getElem?_append_left hkz,<- List.getD_eq_getElem?_getD]);show Zu c _ (zo zm (Z ++ [x]) k j);rw [e];exact hf k hkz j hj
 . obtain rfl : k = Z.length:=by omega
   refine Zd (Zt _) (ZU (by rw [Nat.sub_self];rfl) ?_);have e : zo zm (Z ++ [x]) Z.length j = zm.cell x j:=congrArg (λz=>zm.cell z j) (by simp [List.getD_eq_getElem?_getD]);show Zu c _ (zo zm (Z ++ [x]) Z.length j);rw [e];exact h j hj
theorem zEZ {c : Wc} {Z : List Hel} {x : Hel} {n k j : Nat} {B C : CV} (hn : n = Z.length) (hk : k < n + 1) (hj : j < 11) (h : Zu c B (zm.cell x j)) : Zu c (Zp (Nat.blt k n) (zo zm Z k j) (Zp (Nat.beq (0 + (k - n)) 0) B C)) (zo zm (Z ++ [x]) k j):=by
 subst hn;by_cases hkz : k < Z.length
 . refine ZU (Nat.ble_eq_true_of_le hkz) ?_;have e : zo zm (Z ++ [x]) k j = zo zm Z k j:=congrArg (λz=>zm.cell z j) (by rw [List.getD_eq_getElem?_getD,List.getElem?_append_left hkz,<- List.getD_eq_getElem?_getD]);rw [e];exact (zm.sh _ j hj).le
 . obtain rfl : k = Z.length:=by omega
   refine Zd (Zt _) (ZU (by rw [Nat.sub_self];rfl) ?_);have e : zo zm (Z ++ [x]) Z.length j = zm.cell x j:=congrArg (λz=>zm.cell z j) (by simp [List.getD_eq_getElem?_getD]);rw [e];exact h
theorem YN (L : List Sed) (a : Nat) (s s1 : Sed) (now : Int) (c : Cas) (deaf : Bool) (draw : Int) (ha : a < L.length) (hmin : ¬ c.num < s.mn) (hno : (ZM c.num s.held 0).2 = false) (hno1 : (ZM c.num s1.held 0).2 = false) (es1 : ze s (c.num - 31) = s1) (hok1 : SdOk s1) (hnum : 0 <= c.num /\ c.num < 1073741824) (hd : c.data.length <= 64) (hnow : 0 <= now /\ now <= 1099511627776) (hdr : ZS draw) (R : List Sed × Bool × Int) (hR : R = (L.set a (ZX s now c deaf draw).1,(ZX s now c deaf draw).2,0)) :
 Sem Try.prog Try.f39.ntmps 0 (Zc 11 (Try.f39.body.getD Code.ret)) (SBr L a s1 now c deaf draw ()).fr (SBr L a s1 now c deaf draw ()).H (SBr L a s1 now c deaf draw ()).nx (qQ T Try.f39.results.toList λx H _=>FinN (some R.1.length) (Zz R) (Zj ZB 78 R.1) x H):=by
 have hk1:=hok1.k;have hn32:=hok1.n;have z0 : 0 + (a : Int).toNat = a:=Nat.zero_add a;unfold SBr;refine QB (wd:=1) (by decide) zN (zb zy) zP ?_;cases deaf with
 | true=>
   have hcl : Qx s1 (c.num + 1) = ze s1 (c.num + 1):=QF hok1;obtain ⟨s2,es2⟩ : ∃ s2,ze s1 (c.num + 1) = s2:=⟨_,rfl⟩;rw [es2] at hcl;have hRe : R = (L.set a s2,false,0):=by
    rw [hR];unfold ZX;rw [if_neg hmin,if_neg (by rw [hno];simp),if_pos rfl,es1,es2]
   have w33 : IntKind.i64.wrap (c.num + 1) = c.num + 1:=IntWalk.i64_in _ (by omega);repeat' (first | (simp only [w33,z0]) | (apply And.intro<;>intro hc<;>(first | exact Bool.noConfusion hc | (exfalso;first | exact absurd rfl hc | omega) | (simp only [zl] at hc<;>first | exact absurd rfl hc | (exfalso;first | exact absurd rfl hc | omega) | skip) | skip)) | (refine And.intro zj ?_) | (apply And.intro) | (intro s hs;(have q:=YT hs (zAn rfl rfl (zT zd _)) hcl;clear hs;subst q)) | (refine Exists.intro _ (And.intro ⟨rfl,rfl,rfl⟩ ?_)))
   . exact ⟨rfl,rfl,λ_ _=>⟨rfl,ZG _⟩⟩
   . exact Eq.mpr (congrArg KpI (zT zd _)) hk1
   conv=>whnf
   refine ZC (s:=s2) (d:=11) hRe ha rfl (λp h j=>(ZJ h).trans (zAl h)) (Yj.trans rfl) (Yj.trans rfl) (Yj.trans rfl) rfl rfl rfl rfl λq hq j hj=>(zm.sh _ j hj).le
 | false=>
   obtain ⟨T,eT⟩ : ∃ T,zAA 2 3 2 now draw = T:=⟨_,rfl⟩;obtain ⟨x,ex⟩ : ∃ x : Hel,(⟨c.num,c.data,T.1,zFA now 20⟩ : Hel) = x:=⟨_,rfl⟩;have exn : ZP c now draw = x:=by rw [<- ex];unfold ZP zFA;rw [eT]
   have hRe : R = (L.set a (qO s1 x (ZM c.num s1.held 0).1),true,0):=by
    rw [hR];unfold ZX;rw [if_neg hmin,if_neg (by rw [hno];simp),if_neg (by simp),es1,exn]
   repeat' (first | (simp only [z0]) | (apply And.intro<;>intro hc<;>(first | exact Bool.noConfusion hc | (exfalso;first | exact absurd rfl hc | omega) | (simp only [zl] at hc<;>first | exact absurd rfl hc | (exfalso;first | exact absurd rfl hc | omega) | skip) | skip)) | (refine And.intro zj ?_) | (apply And.intro) | (intro s hs;(first | (have q : T = s:=eT.symm.trans hs.symm;clear hs;subst q) | subst hs)) | (refine Exists.intro _ (And.intro ⟨rfl,rfl,rfl⟩ ?_)))
   conv=>whnf
   refine zU (zV zy) (λu : {u : Nat × Bool × List Hel // u.1 <= s1.held.length /\ InsI (ZM c.num s1.held 0).1 x s1.held u.1 u.2.1 u.2.2}=>(⟨[(13,zL (.os 1 0 L.length)),(18,zL (.int .i64 (a : Int))),(19,zL (.ptr 3 0 0 false)),(23,zL (.ptr 4 0 0 false)),(24,zL (.os 5 0 u.1.2.2.length)),(25,zL (.bool u.1.2.1)),(191,zL (.os 2 0 s1.held.length)),(192,zL (.int .i64 (s1.held.length : Int))),(193,zL (.int .i64 (u.1.1 : Int)))],[(1,some ⟨78,L.length,3,false,rowT a L⟩),(2,some (Zj zm 85 s1.held)),(3,some ⟨78,1,3,true,λ_=>sdO 2 s1⟩),(4,some ⟨85,1,11,true,λ_=>zm.cell x⟩),(5,some (Zj zm 85 u.1.2.2))],6⟩ : Hd)) (λu=>s1.held.length - u.1.1) (λ_=>rfl) ?_ ⟨(0,false,[]),Nat.zero_le _,.no (Nat.zero_le _)⟩ [(4,some 23),(5,none)] ⟨rfl,⟨zD (zH rfl rfl),zB rfl,zF rfl,zF rfl,zD (Zh rfl),zG rfl,zD (zH rfl rfl),zB rfl,zB rfl,trivial⟩,⟨⟨rfl,⟨rfl,rfl,rfl,rfl,λp hp j hj=>ql hj λh=>zAl h⟩⟩,⟨rfl,zA⟩,⟨rfl,zE (zFB rfl)⟩,⟨rfl,zE (qn ⟨zC (by rw [<- ex]),ZQ rfl rfl rfl (by rw [<- ex]) (Nat.le_of_eq (Nat.zero_add _)) (λq hq j hj=>zC (by rw [<- ex];exact congrArg (λz=>c.data.getD z default) (Nat.zero_add q))),zC (by rw [<- ex]),zC (by rw [<- ex]),zC (by rw [<- ex]),zC (by rw [<- ex]),zC (by rw [<- ex]),zC (by rw [<- ex]),zC (by rw [<- ex]),zW (by rw [<- ex]),zC (by rw [<- ex])⟩)⟩,⟨rfl,rfl,rfl,Nat.le_of_ble_eq_true rfl⟩,trivial⟩⟩;have exx : x.num = c.num:=by rw [<- ex]
   obtain ⟨g,eg⟩ : ∃ g,(ZM c.num s1.held 0).1 = g:=⟨_,rfl⟩;have hgl : g <= s1.held.length:=by rw [<- eg];have:=(QC (id:=c.num) (L:=s1.held) (k:=0)).1;omega
   have hlt : ∀ p,p < g -> (s1.held.getD p default).num < c.num:=λp hp=>by
    have:=plc_lt (n:=c.num) (L:=s1.held) (k:=0) (p:=p) (Nat.zero_le _) (by rw [eg];exact hp);rwa [Nat.sub_zero] at this
   have hat : g < s1.held.length -> c.num < (s1.held.getD g default).num:=λhp=>by
    have:=plc_at (n:=c.num) (L:=s1.held) (k:=0) hno1 (by rw [eg];exact hp);rwa [eg,Nat.sub_zero] at this
   rw [eg] at hRe ⊢;rintro ⟨⟨p,dn,Lo⟩,hp,hIn⟩;dsimp only at hp hIn ⊢;by_cases hpl : p < s1.held.length
   . have w5 : IntKind.i64.wrap ((p : Int) + 1) = ((p + 1 : Nat) : Int):=(IntWalk.i64_in _ (by omega)).trans (by omega);have z1 : 0 + (p : Int).toNat = p:=Nat.zero_add p;obtain ⟨h,eh⟩ : ∃ h,s1.held.getD p default = h:=⟨_,rfl⟩;have eck : zo zm s1.held p = zm.cell h:=congrArg zm.cell eh;have hLl:=ins_len hIn;cases hIn with
     | no hpg=>
       by_cases hpq : p < g
       . have hlt1:=hlt p hpq;rw [eh] at hlt1;have hnx:=ins_no (x:=x) hpq hpl;rw [eh] at hnx;repeat' (first | (simp only [z1,eck]) | (apply And.intro<;>intro hc<;>(first | exact Bool.noConfusion hc | (exfalso;first | exact absurd rfl hc | omega) | (simp only [zl] at hc<;>first | exact absurd rfl hc | (exfalso;first | exact absurd rfl hc | omega) | skip) | skip)) | (refine And.intro zj ?_) | (apply And.intro) | (intro s hs;skip) | (refine Exists.intro _ (And.intro ⟨rfl,rfl,rfl⟩ ?_)))
         conv=>whnf
         exact ⟨⟨(p + 1,false,s1.held.take p ++ [h]),hpl,hnx⟩,[(5,some 23)],by dsimp only;omega,rfl,⟨zD (zH rfl rfl),zB rfl,zF rfl,zF rfl,zD (zH rfl (by rw [List.length_append];rfl)),zG rfl,zD (zH rfl rfl),zB rfl,zB w5,trivial⟩,⟨⟨rfl,⟨rfl,rfl,rfl,rfl,λp hp j hj=>ql hj λh=>zAl h⟩⟩,⟨rfl,zA⟩,⟨rfl,zE (zFB rfl)⟩,⟨rfl,zE λj hj=>(zm.sh _ j hj).le⟩,⟨rfl,QP rfl (qn ⟨zC rfl,(zm.sh h 1 (by decide)).le,zC rfl,zC rfl,zC rfl,zC rfl,zC rfl,zC rfl,zC rfl,zW rfl,zC rfl⟩)⟩,trivial⟩⟩
       . obtain rfl : p = g:=by omega
         have hat1:=hat hpl;rw [eh] at hat1;have hnx:=ins_at (x:=x) hpl;rw [eh] at hnx;repeat' (first | (simp only [z1,eck]) | (apply And.intro<;>intro hc<;>(first | exact Bool.noConfusion hc | (exfalso;first | exact absurd rfl hc | omega) | (simp only [zl] at hc<;>first | exact absurd rfl hc | (exfalso;first | exact absurd rfl hc | omega) | skip) | skip)) | (refine And.intro zj ?_) | (apply And.intro) | (intro s hs;skip) | (refine Exists.intro _ (And.intro ⟨rfl,rfl,rfl⟩ ?_)))
         conv=>whnf
         exact ⟨⟨(p + 1,true,(s1.held.take p ++ [x]) ++ [h]),hpl,hnx⟩,[(5,some 29)],by dsimp only;omega,rfl,⟨zD (zH rfl rfl),zB rfl,zF rfl,zF rfl,zD (zH rfl (by rw [List.length_append,List.length_append];rfl)),zG rfl,zD (zH rfl rfl),zB rfl,zB w5,trivial⟩,⟨⟨rfl,⟨rfl,rfl,rfl,rfl,λp hp j hj=>ql hj λh=>zAl h⟩⟩,⟨rfl,zA⟩,⟨rfl,zE (zFB rfl)⟩,⟨rfl,zE λj hj=>(zm.sh _ j hj).le⟩,⟨rfl,zFo (Z:=s1.held.take p ++ [x]) (by rw [List.length_append];rfl) (λk hk j hj=>zEZ (x:=x) rfl hk hj (by
          iterate 11 (rcases j with _ | j;· first | exact zC rfl | exact zW rfl | exact (zm.sh x 1 (by decide)).le)
          exact absurd hj (by omega))) (qn ⟨zC rfl,(zm.sh h 1 (by decide)).le,zC rfl,zC rfl,zC rfl,zC rfl,zC rfl,zC rfl,zC rfl,zW rfl,zC rfl⟩)⟩,trivial⟩⟩
     | yes hgp=>
       have hnx:=ins_yes (x:=x) hgp hpl;rw [eh] at hnx;repeat' (first | (simp only [z1,eck]) | (apply And.intro<;>intro hc<;>(first | exact Bool.noConfusion hc | (exfalso;first | exact absurd rfl hc | omega) | (simp only [zl] at hc<;>first | exact absurd rfl hc | (exfalso;first | exact absurd rfl hc | omega) | skip) | skip)) | (refine And.intro zj ?_) | (apply And.intro) | (intro s hs;skip) | (refine Exists.intro _ (And.intro ⟨rfl,rfl,rfl⟩ ?_)))
       conv=>whnf
       exact ⟨⟨(p + 1,true,(Zn g x s1.held).take (p + 1) ++ [h]),hpl,hnx⟩,[(5,some 23)],by dsimp only;omega,rfl,⟨zD (zH rfl rfl),zB rfl,zF rfl,zF rfl,zD (zH rfl (by rw [List.length_append];rfl)),zG rfl,zD (zH rfl rfl),zB rfl,zB w5,trivial⟩,⟨⟨rfl,⟨rfl,rfl,rfl,rfl,λp hp j hj=>ql hj λh=>zAl h⟩⟩,⟨rfl,zA⟩,⟨rfl,zE (zFB rfl)⟩,⟨rfl,zE λj hj=>(zm.sh _ j hj).le⟩,⟨rfl,QP rfl (qn ⟨zC rfl,(zm.sh h 1 (by decide)).le,zC rfl,zC rfl,zC rfl,zC rfl,zC rfl,zC rfl,zC rfl,zW rfl,zC rfl⟩)⟩,trivial⟩⟩
   . obtain rfl : p = s1.held.length:=by omega
     cases hIn with
     | no hpg=>
       obtain rfl : s1.held.length = g:=by omega
       repeat' (first | (simp only [z0]) | (apply And.intro<;>intro hc<;>(first | exact Bool.noConfusion hc | (exfalso;first | exact absurd rfl hc | omega) | (simp only [zl] at hc<;>first | exact absurd rfl hc | (exfalso;first | exact absurd rfl hc | omega) | skip) | skip)) | (refine And.intro zj ?_) | (apply And.intro) | (intro s hs;skip) | (refine Exists.intro _ (And.intro ⟨rfl,rfl,rfl⟩ ?_)))
       . show ((s1.held.take s1.held.length).length + 1) * 104 <= 140737488355328;rw [List.length_take];omega
       . rw [List.length_take];omega
       have hAl : (qO s1 x s1.held.length).held = s1.held.take s1.held.length ++ [x]:=zFp.symm;have hAn : (qO s1 x s1.held.length).held.length = (s1.held.take s1.held.length).length + 1:=by rw [hAl,List.length_append];rfl
       conv=>whnf
       refine ZC (s:=qO s1 x s1.held.length) (d:=12) hRe ha rfl (λp h j=>(ZJ h).trans (zAl h)) (Yj.trans rfl) (Yj.trans rfl) (Yj.trans (by rw [hAn];rfl)) rfl rfl hAn.symm rfl λq hq j hj=>?_;rw [hAl];refine zEZ rfl (by rw [hAn] at hq;exact hq) hj ?_;iterate 11 (rcases j with _ | j;· first | exact zC rfl | exact zW rfl | exact (zm.sh x 1 (by decide)).le)
       exact absurd hj (by omega)
     | yes hgp=>
       have hend:=zFq (x:=x) hgl;repeat' (first | (simp only [z0]) | (apply And.intro<;>intro hc<;>(first | exact Bool.noConfusion hc | (exfalso;first | exact absurd rfl hc | omega) | (simp only [zl] at hc<;>first | exact absurd rfl hc | (exfalso;first | exact absurd rfl hc | omega) | skip) | skip)) | (refine And.intro zj ?_) | (apply And.intro) | (intro s hs;skip) | (refine Exists.intro _ (And.intro ⟨rfl,rfl,rfl⟩ ?_)))
       have hAl : (qO s1 x g).held = (Zn g x s1.held).take (s1.held.length + 1):=hend.symm;conv=>whnf
       refine ZC (s:=qO s1 x g) (d:=5) hRe ha rfl (λp h j=>(ZJ h).trans (zAl h)) (Yj.trans rfl) (Yj.trans rfl) (Yj.trans (by rw [hAl];rfl)) rfl rfl (by rw [hAl];rfl) rfl λq hq j hj=>?_;rw [hAl];exact (zm.sh _ j hj).le
end Go.Proofs.Ytfaibcgakcmhcaa.AX
