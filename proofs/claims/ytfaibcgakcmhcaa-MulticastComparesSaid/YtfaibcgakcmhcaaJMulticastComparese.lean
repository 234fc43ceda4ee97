/- Texts of one's own in one file: Mrp, Mrr, Mrs, Tb, Mtb, TkG, Mte, Cmp, Be, Mta, Mtc, Mrf, Mrg, Mrh, Mrj, Mqd, Mqe. -/
import Derived.Test.YtfaibcgakcmhcaaJMulticastComparesd
import Derived.Test.YtfaibcgakcmhcaaJMulticastComparesb
import Derived.Test.YtfaibcgakcmhcaaJMulticastComparesc
import Derived.Lib.BytesEntry
import Derived.Laws.Externs
import Derived.WalkKit
import Derived.Laws.BytesArg
set_option linter.unusedVariables false
set_option linter.unusedSimpArgs false
set_option maxHeartbeats 16000000
set_option maxRecDepth 20000
namespace Go.Proofs.Ytfaibcgakcmhcaa.AX
open Go.RowKit
theorem racc_0 (L : List Sed) (now : Int) (c : Cas) (deaf : Bool) (draw : Int) (hI : AcR L 0 now c draw) (R : List Sed × Bool × Int) (hR : R = (L.set 0 (ZX (L.getD 0 default) now c deaf draw).1,(ZX (L.getD 0 default) now c deaf draw).2,0))
 (ht : ∀ s1,ze (L.getD 0 default) (c.num - 31) = s1 -> SdOk s1 -> ¬ c.num < (L.getD 0 default).mn -> (ZM c.num (L.getD 0 default).held 0).2 = false -> (ZM c.num s1.held 0).2 = false -> Sem Try.prog Try.f39.ntmps 0 (Zc 11 (Try.f39.body.getD Code.ret)) (SBr L 0 s1 now c deaf draw ()).fr (SBr L 0 s1 now c deaf draw ()).H (SBr L 0 s1 now c deaf draw ()).nx (qQ T Try.f39.results.toList λx H _=>FinN (some R.1.length) (Zz R) (Zj ZB 78 R.1) x H)) :
 Sem Try.prog Try.f39.ntmps 0 (Zc 6 (Try.f39.body.getD Code.ret)) (SAr L 0 now c deaf draw ()).fr (SAr L 0 now c deaf draw ()).H (SAr L 0 now c deaf draw ()).nx (qQ T Try.f39.results.toList λx H _=>FinN (some R.1.length) (Zz R) (Zj ZB 78 R.1) x H):=by
 obtain ⟨hlt,hn9,hok,hnum,hd,hnow,hdr,hf⟩:=hI;obtain ⟨s,es⟩ : ∃ s,L.getD 0 default = s:=⟨_,rfl⟩;rw [es] at hok hR ht;have hset : L.set 0 s = L:=by rw [<- es];exact ZH hlt
 unfold SAr;rw [es];refine zK (wd:=1) (by decide) zN (zb zy) zP ?_;repeat' (first | (apply And.intro<;>intro hc<;>(first | exact Bool.noConfusion hc | (exfalso;first | exact absurd rfl hc | omega) | (simp only [zl] at hc<;>first | exact absurd rfl hc | (exfalso;first | exact absurd rfl hc | omega) | skip) | skip)) | (refine And.intro zj ?_) | (apply And.intro) | (intro s hs;(have q:=YO hs (Yk es.symm rfl) hf;clear hs;subst q)) | (refine Exists.intro _ (And.intro ⟨rfl,rfl,rfl⟩ ?_)))
 . exact Yl
 . show (Ys neI L.length λk j=>QO 2 s 0 L (0 + k) j).length <= 9223372036854775807;rw [QW];omega
 refine zK (wd:=1) (by decide) zN (zb zy) zP ?_;repeat' (first | (apply And.intro<;>intro hc<;>(first | exact Bool.noConfusion hc | (exfalso;first | exact absurd rfl hc | omega) | (simp only [zl] at hc<;>first | exact absurd rfl hc | (exfalso;first | exact absurd rfl hc | omega) | skip) | skip)) | (refine And.intro zj ?_) | (apply And.intro) | (intro s hs;skip) | (refine Exists.intro _ (And.intro ⟨rfl,rfl,rfl⟩ ?_)))
 refine zK (wd:=1) (by decide) zN (zb zy) zP ?_;repeat' (first | (apply And.intro<;>intro hc<;>(first | exact Bool.noConfusion hc | (exfalso;first | exact absurd rfl hc | omega) | (simp only [zl] at hc<;>first | exact absurd rfl hc | (exfalso;first | exact absurd rfl hc | omega) | skip) | skip)) | (refine And.intro zj ?_) | (apply And.intro) | (intro s hs;skip) | (refine Exists.intro _ (And.intro ⟨rfl,rfl,rfl⟩ ?_)))
 . have hRe : R = (L,false,0):=by
    rw [hR];unfold ZX;rw [if_pos ‹_›,hset]
   refine ZC (s:=s) (d:=2) (hRe.trans (by rw [hset])) hlt rfl (λp h j=>zc h) rfl rfl rfl rfl rfl rfl rfl λq hq j hj=>(zm.sh _ j hj).le
 have hmin : ¬ c.num < s.mn:=by assumption
 change Sem _ _ _ _ _ _ _ _;refine Zb (wd:=1) (by decide) zN (zb zy) (zV zy) zP (λ_ : {u : Unit // (ZM c.num s.held 0).2 = false}=>SLr L 0 s now c deaf draw) (by intro _;rfl) ?_ ?_
 . repeat' (first | (apply And.intro<;>intro hc<;>(first | exact Bool.noConfusion hc | (exfalso;first | exact absurd rfl hc | omega) | (simp only [zl] at hc<;>first | exact absurd rfl hc | (exfalso;first | exact absurd rfl hc | omega) | skip) | skip)) | (refine And.intro zj ?_) | (apply And.intro) | (intro s hs;skip) | (refine Exists.intro _ (And.intro ⟨rfl,rfl,rfl⟩ ?_)))
   conv=>whnf
   refine zU (zV zy) (λu : {k : Nat // k <= s.held.length /\ ∀ p,p < k -> (s.held.getD p default).num ≠ c.num}=>(⟨[(1,zL (.int .i64 now)),(3,zL (.bool deaf)),(4,zL (.int .u32 draw)),(7,zL (.ptr 0 0 0 false)),(13,zL (.os 1 0 L.length)),(18,zL (.int .i64 ((0 : Nat) : Int))),(19,zL (.ptr 3 0 0 false)),(127,zL (.int .i64 (s.held.length : Int))),(128,zL (.int .i64 (u.1 : Int)))],[(0,some ⟨32,1,3,true,λ_=>qo.cell c⟩),(1,some ⟨78,L.length,3,false,QO 2 s 0 L⟩),(2,some (Zj zm 85 s.held)),(3,some ⟨78,1,3,true,λ_=>sdO 2 s⟩)],4⟩ : Hd)) (λu=>s.held.length - u.1) (λ_=>rfl) ?_ ⟨0,Nat.zero_le _,λp hp=>absurd hp (Nat.not_lt_zero p)⟩ [(3,some 12)] ⟨rfl,⟨zB rfl,zG rfl,zB rfl,zF rfl,zD (zH rfl rfl),zB rfl,zF rfl,zB rfl,zB rfl,trivial⟩,⟨⟨rfl,zE λj hj=>(qo.sh _ j hj).le⟩,⟨rfl,⟨rfl,rfl,rfl,rfl,λp hp j hj=>Zm hj rfl⟩⟩,⟨rfl,zA⟩,⟨rfl,zE (Zr ⟨zC rfl,zC rfl,zH rfl rfl⟩)⟩,trivial⟩⟩;rintro ⟨k,hk,hnk⟩;dsimp only at hk hnk ⊢;have hn32:=hok.n;by_cases hkl : k < s.held.length
   . have w5 : IntKind.i64.wrap ((k : Int) + 1) = ((k + 1 : Nat) : Int):=(IntWalk.i64_in _ (by omega)).trans (by omega);have z0 : 0 + (k : Int).toNat = k:=Nat.zero_add k;obtain ⟨T,eT⟩ : ∃ T,Qq (s.held.getD k default).tm = T:=⟨_,rfl⟩;repeat' (first | (simp only [z0]) | (apply And.intro<;>intro hc<;>(first | exact Bool.noConfusion hc | (exfalso;first | exact absurd rfl hc | omega) | (simp only [zl] at hc<;>first | exact absurd rfl hc | (exfalso;first | exact absurd rfl hc | omega) | skip) | skip)) | (refine And.intro zj ?_) | (apply And.intro) | (intro s hs;(have q : T = s:=eT.symm.trans hs.symm;clear hs;subst q)) | (refine Exists.intro _ (And.intro ⟨rfl,rfl,rfl⟩ ?_)))
     . have hpl:=zBE hok.h hkl ‹_›;have hRe : R = (L.set 0 (ZO s k),false,0):=by
        rw [hR];unfold ZX;rw [if_neg hmin,hpl,if_pos rfl]
       have hhe : ZO s k = ⟨s.id,s.mn,s.held.set k { s.held.getD k default with tm:=T }⟩:=by unfold ZO;rw [eT]
       have hLh : (ZO s k).held.length = s.held.length:=List.length_set;conv=>whnf
       refine ZC (s:=ZO s k) (d:=2) hRe hlt rfl (λp h j=>zc h) rfl rfl (by rw [hLh];rfl) rfl rfl hLh.symm rfl λq hq j hj=>?_;rw [hhe];exact (Ym hkl (λj hj=>(Elem.flat _ _ _).le)).2 q (by rw [List.length_set,<- hLh];exact hq) j hj
     . conv=>whnf
       exact ⟨⟨k + 1,hkl,λp hp=>by
        by_cases h : p = k
        . subst h;assumption
        . exact hnk p (by omega)⟩,[],by dsimp only;omega,rfl,⟨zB rfl,zG rfl,zB rfl,zF rfl,zD (zH rfl rfl),zB rfl,zF rfl,zB rfl,zB w5,trivial⟩,⟨⟨rfl,zE λj hj=>(qo.sh _ j hj).le⟩,⟨rfl,⟨rfl,rfl,rfl,rfl,λp hp j hj=>Zm hj rfl⟩⟩,⟨rfl,zA⟩,⟨rfl,zE (Zr ⟨zC rfl,zC rfl,zH rfl rfl⟩)⟩,trivial⟩⟩
   . repeat' (first | (apply And.intro<;>intro hc<;>(first | exact Bool.noConfusion hc | (exfalso;first | exact absurd rfl hc | omega) | (simp only [zl] at hc<;>first | exact absurd rfl hc | (exfalso;first | exact absurd rfl hc | omega) | skip) | skip)) | (refine And.intro zj ?_) | (apply And.intro) | (intro s hs;skip) | (refine Exists.intro _ (And.intro ⟨rfl,rfl,rfl⟩ ?_)))
     conv=>whnf
     exact ⟨⟨(),zBF λp hp=>hnk p (by omega)⟩,[],rfl,⟨zB rfl,zG rfl,zB rfl,zF rfl,zD (zH rfl rfl),zB rfl,zF rfl,trivial⟩,⟨⟨rfl,zE λj hj=>(qo.sh _ j hj).le⟩,⟨rfl,⟨rfl,rfl,rfl,rfl,λp hp j hj=>Zm hj rfl⟩⟩,⟨rfl,zA⟩,⟨rfl,zE (Zr ⟨zC rfl,zC rfl,zH rfl rfl⟩)⟩,trivial⟩⟩
 . rintro ⟨_,hno⟩;have hs1 : Qx s (c.num - 31) = ze s (c.num - 31):=QF hok;obtain ⟨s1,es1⟩ : ∃ s1,ze s (c.num - 31) = s1:=⟨_,rfl⟩;rw [es1] at hs1;have hok1 : SdOk s1:=by rw [<- es1];exact YG hok (by omega)
   have hk:=hok.k;have hmn:=hok.mn;have w31 : IntKind.i64.wrap (s.mn + 31) = s.mn + 31:=IntWalk.i64_in _ (by omega);have w32 : IntKind.i64.wrap (c.num - 31) = c.num - 31:=IntWalk.i64_in _ (by omega);unfold SLr;change Sem _ _ _ _ _ _ _ _;refine Zb (wd:=1) (by decide) zN (zb zy) (zV zy) zP (SBr L 0 s1 now c deaf draw) (by intro _;rfl) ?_ ?_
   . repeat' (first | (simp only [w31,w32]) | (apply And.intro<;>intro hc<;>(first | exact Bool.noConfusion hc | (exfalso;first | exact absurd rfl hc | omega) | (simp only [zl] at hc<;>first | exact absurd rfl hc | (exfalso;first | exact absurd rfl hc | omega) | skip) | skip)) | (refine And.intro zj ?_) | (apply And.intro) | (intro s hs;(have q:=YT hs (zAn rfl rfl (zT zd _)) hs1;clear hs;subst q)) | (refine Exists.intro _ (And.intro ⟨rfl,rfl,rfl⟩ ?_)))
     . exact ⟨rfl,rfl,λ_ _=>⟨rfl,ZG _⟩⟩
     . exact Eq.mpr (congrArg KpI (zT zd _)) hk
     . conv=>whnf
       exact ⟨(),[(2,some 14)],rfl,⟨zB rfl,zG rfl,zB rfl,zF rfl,zD (zH rfl rfl),zB rfl,zF rfl,trivial⟩,⟨⟨rfl,zE λj hj=>(qo.sh _ j hj).le⟩,⟨rfl,⟨rfl,rfl,rfl,rfl,λp hp j hj=>ql hj λh=>zc h⟩⟩,⟨rfl,zA⟩,⟨rfl,zE (Zr ⟨zC rfl,zC rfl,zH rfl rfl⟩)⟩,trivial⟩⟩
     . have e1 : s1 = s:=by rw [<- es1];exact if_pos (by omega)
       conv=>whnf
       exact ⟨(),[],rfl,⟨zB rfl,zG rfl,zB rfl,zF rfl,zD (zH rfl rfl),zB rfl,zF rfl,trivial⟩,⟨⟨rfl,zE λj hj=>(qo.sh _ j hj).le⟩,⟨rfl,⟨rfl,rfl,rfl,rfl,λp hp j hj=>ql hj λh=>zc h⟩⟩,⟨rfl,zR (by rw [e1])⟩,⟨rfl,zE (Zr ⟨zC (by rw [e1]),zC (by rw [e1]),zH rfl (by rw [e1])⟩)⟩,trivial⟩⟩
   . intro _;exact ht s1 es1 hok1 hmin hno (by rw [<- es1];unfold ze;split;exact hno;exact Qb hok.h hno)
theorem racc_1 (L : List Sed) (now : Int) (c : Cas) (deaf : Bool) (draw : Int) (hI : AcR L 1 now c draw) (R : List Sed × Bool × Int) (hR : R = (L.set 1 (ZX (L.getD 1 default) now c deaf draw).1,(ZX (L.getD 1 default) now c deaf draw).2,0))
 (ht : ∀ s1,ze (L.getD 1 default) (c.num - 31) = s1 -> SdOk s1 -> ¬ c.num < (L.getD 1 default).mn -> (ZM c.num (L.getD 1 default).held 0).2 = false -> (ZM c.num s1.held 0).2 = false -> Sem Try.prog Try.f39.ntmps 0 (Zc 11 (Try.f39.body.getD Code.ret)) (SBr L 1 s1 now c deaf draw ()).fr (SBr L 1 s1 now c deaf draw ()).H (SBr L 1 s1 now c deaf draw ()).nx (qQ T Try.f39.results.toList λx H _=>FinN (some R.1.length) (Zz R) (Zj ZB 78 R.1) x H)) :
 Sem Try.prog Try.f39.ntmps 0 (Zc 6 (Try.f39.body.getD Code.ret)) (SAr L 1 now c deaf draw ()).fr (SAr L 1 now c deaf draw ()).H (SAr L 1 now c deaf draw ()).nx (qQ T Try.f39.results.toList λx H _=>FinN (some R.1.length) (Zz R) (Zj ZB 78 R.1) x H):=by
 obtain ⟨hlt,hn9,hok,hnum,hd,hnow,hdr,hf⟩:=hI;obtain ⟨s,es⟩ : ∃ s,L.getD 1 default = s:=⟨_,rfl⟩;rw [es] at hok hR ht;have hset : L.set 1 s = L:=by rw [<- es];exact ZH hlt
 unfold SAr;rw [es];refine zK (wd:=1) (by decide) zN (zb zy) zP ?_;repeat' (first | (apply And.intro<;>intro hc<;>(first | exact Bool.noConfusion hc | (exfalso;first | exact absurd rfl hc | omega) | (simp only [zl] at hc<;>first | exact absurd rfl hc | (exfalso;first | exact absurd rfl hc | omega) | skip) | skip)) | (refine And.intro zj ?_) | (apply And.intro) | (intro s hs;(have q:=YO hs (Yk es.symm rfl) hf;clear hs;subst q)) | (refine Exists.intro _ (And.intro ⟨rfl,rfl,rfl⟩ ?_)))
 . exact Yl
 . show (Ys neI L.length λk j=>QO 2 s 1 L (0 + k) j).length <= 9223372036854775807;rw [QW];omega
 refine zK (wd:=1) (by decide) zN (zb zy) zP ?_;repeat' (first | (apply And.intro<;>intro hc<;>(first | exact Bool.noConfusion hc | (exfalso;first | exact absurd rfl hc | omega) | (simp only [zl] at hc<;>first | exact absurd rfl hc | (exfalso;first | exact absurd rfl hc | omega) | skip) | skip)) | (refine And.intro zj ?_) | (apply And.intro) | (intro s hs;skip) | (refine Exists.intro _ (And.intro ⟨rfl,rfl,rfl⟩ ?_)))
 refine zK (wd:=1) (by decide) zN (zb zy) zP ?_;repeat' (first | (apply And.intro<;>intro hc<;>(first | exact Bool.noConfusion hc | (exfalso;first | exact absurd rfl hc | omega) | (simp only [zl] at hc<;>first | exact absurd rfl hc | (exfalso;first | exact absurd rfl hc | omega) | skip) | skip)) | (refine And.intro zj ?_) | (apply And.intro) | (intro s hs;skip) | (refine Exists.intro _ (And.intro ⟨rfl,rfl,rfl⟩ ?_)))
 . have hRe : R = (L,false,0):=by
    rw [hR];unfold ZX;rw [if_pos ‹_›,hset]
   refine ZC (s:=s) (d:=2) (hRe.trans (by rw [hset])) hlt rfl (λp h j=>zc h) rfl rfl rfl rfl rfl rfl rfl λq hq j hj=>(zm.sh _ j hj).le
 have hmin : ¬ c.num < s.mn:=by assumption
 change Sem _ _ _ _ _ _ _ _;refine Zb (wd:=1) (by decide) zN (zb zy) (zV zy) zP (λ_ : {u : Unit // (ZM c.num s.held 0).2 = false}=>SLr L 1 s now c deaf draw) (by intro _;rfl) ?_ ?_
 . repeat' (first | (apply And.intro<;>intro hc<;>(first | exact Bool.noConfusion hc | (exfalso;first | exact absurd rfl hc | omega) | (simp only [zl] at hc<;>first | exact absurd rfl hc | (exfalso;first | exact absurd rfl hc | omega) | skip) | skip)) | (refine And.intro zj ?_) | (apply And.intro) | (intro s hs;skip) | (refine Exists.intro _ (And.intro ⟨rfl,rfl,rfl⟩ ?_)))
   conv=>whnf
   refine zU (zV zy) (λu : {k : Nat // k <= s.held.length /\ ∀ p,p < k -> (s.held.getD p default).num ≠ c.num}=>(⟨[(1,zL (.int .i64 now)),(3,zL (.bool deaf)),(4,zL (.int .u32 draw)),(7,zL (.ptr 0 0 0 false)),(13,zL (.os 1 0 L.length)),(18,zL (.int .i64 ((1 : Nat) : Int))),(19,zL (.ptr 3 0 0 false)),(127,zL (.int .i64 (s.held.length : Int))),(128,zL (.int .i64 (u.1 : Int)))],[(0,some ⟨32,1,3,true,λ_=>qo.cell c⟩),(1,some ⟨78,L.length,3,false,QO 2 s 1 L⟩),(2,some (Zj zm 85 s.held)),(3,some ⟨78,1,3,true,λ_=>sdO 2 s⟩)],4⟩ : Hd)) (λu=>s.held.length - u.1) (λ_=>rfl) ?_ ⟨0,Nat.zero_le _,λp hp=>absurd hp (Nat.not_lt_zero p)⟩ [(3,some 12)] ⟨rfl,⟨zB rfl,zG rfl,zB rfl,zF rfl,zD (zH rfl rfl),zB rfl,zF rfl,zB rfl,zB rfl,trivial⟩,⟨⟨rfl,zE λj hj=>(qo.sh _ j hj).le⟩,⟨rfl,⟨rfl,rfl,rfl,rfl,λp hp j hj=>Zm hj rfl⟩⟩,⟨rfl,zA⟩,⟨rfl,zE (Zr ⟨zC rfl,zC rfl,zH rfl rfl⟩)⟩,trivial⟩⟩;rintro ⟨k,hk,hnk⟩;dsimp only at hk hnk ⊢;have hn32:=hok.n;by_cases hkl : k < s.held.length
   . have w5 : IntKind.i64.wrap ((k : Int) + 1) = ((k + 1 : Nat) : Int):=(IntWalk.i64_in _ (by omega)).trans (by omega);have z0 : 0 + (k : Int).toNat = k:=Nat.zero_add k;obtain ⟨T,eT⟩ : ∃ T,Qq (s.held.getD k default).tm = T:=⟨_,rfl⟩;repeat' (first | (simp only [z0]) | (apply And.intro<;>intro hc<;>(first | exact Bool.noConfusion hc | (exfalso;first | exact absurd rfl hc | omega) | (simp only [zl] at hc<;>first | exact absurd rfl hc | (exfalso;first | exact absurd rfl hc | omega) | skip) | skip)) | (refine And.intro zj ?_) | (apply And.intro) | (intro s hs;(have q : T = s:=eT.symm.trans hs.symm;clear hs;subst q)) | (refine Exists.intro _ (And.intro ⟨rfl,rfl,rfl⟩ ?_)))
     . have hpl:=zBE hok.h hkl ‹_›;have hRe : R = (L.set 1 (ZO s k),false,0):=by
        rw [hR];unfold ZX;rw [if_neg hmin,hpl,if_pos rfl]
       have hhe : ZO s k = ⟨s.id,s.mn,s.held.set k { s.held.getD k default with tm:=T }⟩:=by unfold ZO;rw [eT]
       have hLh : (ZO s k).held.length = s.held.length:=List.length_set;conv=>whnf
       refine ZC (s:=ZO s k) (d:=2) hRe hlt rfl (λp h j=>zc h) rfl rfl (by rw [hLh];rfl) rfl rfl hLh.symm rfl λq hq j hj=>?_;rw [hhe];exact (Ym hkl (λj hj=>(Elem.flat _ _ _).le)).2 q (by rw [List.length_set,<- hLh];exact hq) j hj
     . conv=>whnf
       exact ⟨⟨k + 1,hkl,λp hp=>by
        by_cases h : p = k
        . subst h;assumption
        . exact hnk p (by omega)⟩,[],by dsimp only;omega,rfl,⟨zB rfl,zG rfl,zB rfl,zF rfl,zD (zH rfl rfl),zB rfl,zF rfl,zB rfl,zB w5,trivial⟩,⟨⟨rfl,zE λj hj=>(qo.sh _ j hj).le⟩,⟨rfl,⟨rfl,rfl,rfl,rfl,λp hp j hj=>Zm hj rfl⟩⟩,⟨rfl,zA⟩,⟨rfl,zE (Zr ⟨zC rfl,zC rfl,zH rfl rfl⟩)⟩,trivial⟩⟩
   . repeat' (first | (apply And.intro<;>intro hc<;>(first | exact Bool.noConfusion hc | (exfalso;first | exact absurd rfl hc | omega) | (simp only [zl] at hc<;>first | exact absurd rfl hc | (exfalso;first | exact absurd rfl hc | omega) | skip) | skip)) | (refine And.intro zj ?_) | (apply And.intro) | (intro s hs;skip) | (refine Exists.intro _ (And.intro ⟨rfl,rfl,rfl⟩ ?_)))
     conv=>whnf
     exact ⟨⟨(),zBF λp hp=>hnk p (by omega)⟩,[],rfl,⟨zB rfl,zG rfl,zB rfl,zF rfl,zD (zH rfl rfl),zB rfl,zF rfl,trivial⟩,⟨⟨rfl,zE λj hj=>(qo.sh _ j hj).le⟩,⟨rfl,⟨rfl,rfl,rfl,rfl,λp hp j hj=>Zm hj rfl⟩⟩,⟨rfl,zA⟩,⟨rfl,zE (Zr ⟨zC rfl,zC rfl,zH rfl rfl⟩)⟩,trivial⟩⟩
 . rintro ⟨_,hno⟩;have hs1 : Qx s (c.num - 31) = ze s (c.num - 31):=QF hok;obtain ⟨s1,es1⟩ : ∃ s1,ze s (c.num - 31) = s1:=⟨_,rfl⟩;rw [es1] at hs1;have hok1 : SdOk s1:=by rw [<- es1];exact YG hok (by omega)
   have hk:=hok.k;have hmn:=hok.mn;have w31 : IntKind.i64.wrap (s.mn + 31) = s.mn + 31:=IntWalk.i64_in _ (by omega);have w32 : IntKind.i64.wrap (c.num - 31) = c.num - 31:=IntWalk.i64_in _ (by omega);unfold SLr;change Sem _ _ _ _ _ _ _ _;refine Zb (wd:=1) (by decide) zN (zb zy) (zV zy) zP (SBr L 1 s1 now c deaf draw) (by intro _;rfl) ?_ ?_
   . repeat' (first | (simp only [w31,w32]) | (apply And.intro<;>intro hc<;>(first | exact Bool.noConfusion hc | (exfalso;first | exact absurd rfl hc | omega) | (simp only [zl] at hc<;>first | exact absurd rfl hc | (exfalso;first | exact absurd rfl hc | omega) | skip) | skip)) | (refine And.intro zj ?_) | (apply And.intro) | (intro s hs;(have q:=YT hs (zAn rfl rfl (zT zd _)) hs1;clear hs;subst q)) | (refine Exists.intro _ (And.intro ⟨rfl,rfl,rfl⟩ ?_)))
     . exact ⟨rfl,rfl,λ_ _=>⟨rfl,ZG _⟩⟩
     . exact Eq.mpr (congrArg KpI (zT zd _)) hk
     . conv=>whnf
       exact ⟨(),[(2,some 14)],rfl,⟨zB rfl,zG rfl,zB rfl,zF rfl,zD (zH rfl rfl),zB rfl,zF rfl,trivial⟩,⟨⟨rfl,zE λj hj=>(qo.sh _ j hj).le⟩,⟨rfl,⟨rfl,rfl,rfl,rfl,λp hp j hj=>ql hj λh=>zc h⟩⟩,⟨rfl,zA⟩,⟨rfl,zE (Zr ⟨zC rfl,zC rfl,zH rfl rfl⟩)⟩,trivial⟩⟩
     . have e1 : s1 = s:=by rw [<- es1];exact if_pos (by omega)
       conv=>whnf
       exact ⟨(),[],rfl,⟨zB rfl,zG rfl,zB rfl,zF rfl,zD (zH rfl rfl),zB rfl,zF rfl,trivial⟩,⟨⟨rfl,zE λj hj=>(qo.sh _ j hj).le⟩,⟨rfl,⟨rfl,rfl,rfl,rfl,λp hp j hj=>ql hj λh=>zc h⟩⟩,⟨rfl,zR (by rw [e1])⟩,⟨rfl,zE (Zr ⟨zC (by rw [e1]),zC (by rw [e1]),zH rfl (by rw [e1])⟩)⟩,trivial⟩⟩
   . intro _;exact ht s1 es1 hok1 hmin hno (by rw [<- es1];unfold ze;split;exact hno;exact Qb hok.h hno)
theorem racc_2 (L : List Sed) (now : Int) (c : Cas) (deaf : Bool) (draw : Int) (hI : AcR L 2 now c draw) (R : List Sed × Bool × Int) (hR : R = (L.set 2 (ZX (L.getD 2 default) now c deaf draw).1,(ZX (L.getD 2 default) now c deaf draw).2,0))
 (ht : ∀ s1,ze (L.getD 2 default) (c.num - 31) = s1 -> SdOk s1 -> ¬ c.num < (L.getD 2 default).mn -> (ZM c.num (L.getD 2 default).held 0).2 = false -> (ZM c.num s1.held 0).2 = false -> Sem Try.prog Try.f39.ntmps 0 (Zc 11 (Try.f39.body.getD Code.ret)) (SBr L 2 s1 now c deaf draw ()).fr (SBr L 2 s1 now c deaf draw ()).H (SBr L 2 s1 now c deaf draw ()).nx (qQ T Try.f39.results.toList λx H _=>FinN (some R.1.length) (Zz R) (Zj ZB 78 R.1) x H)) :
 Sem Try.prog Try.f39.ntmps 0 (Zc 6 (Try.f39.body.getD Code.ret)) (SAr L 2 now c deaf draw ()).fr (SAr L 2 now c deaf draw ()).H (SAr L 2 now c deaf draw ()).nx (qQ T Try.f39.results.toList λx H _=>FinN (some R.1.length) (Zz R) (Zj ZB 78 R.1) x H):=by
 obtain ⟨hlt,hn9,hok,hnum,hd,hnow,hdr,hf⟩:=hI;obtain ⟨s,es⟩ : ∃ s,L.getD 2 default = s:=⟨_,rfl⟩;rw [es] at hok hR ht;have hset : L.set 2 s = L:=by rw [<- es];exact ZH hlt
 unfold SAr;rw [es];refine zK (wd:=1) (by decide) zN (zb zy) zP ?_;repeat' (first | (apply And.intro<;>intro hc<;>(first | exact Bool.noConfusion hc | (exfalso;first | exact absurd rfl hc | omega) | (simp only [zl] at hc<;>first | exact absurd rfl hc | (exfalso;first | exact absurd rfl hc | omega) | skip) | skip)) | (refine And.intro zj ?_) | (apply And.intro) | (intro s hs;(have q:=YO hs (Yk es.symm rfl) hf;clear hs;subst q)) | (refine Exists.intro _ (And.intro ⟨rfl,rfl,rfl⟩ ?_)))
 . exact Yl
 . show (Ys neI L.length λk j=>QO 2 s 2 L (0 + k) j).length <= 9223372036854775807;rw [QW];omega
 refine zK (wd:=1) (by decide) zN (zb zy) zP ?_;repeat' (first | (apply And.intro<;>intro hc<;>(first | exact Bool.noConfusion hc | (exfalso;first | exact absurd rfl hc | omega) | (simp only [zl] at hc<;>first | exact absurd rfl hc | (exfalso;first | exact absurd rfl hc | omega) | skip) | skip)) | (refine And.intro zj ?_) | (apply And.intro) | (intro s hs;skip) | (refine Exists.intro _ (And.intro ⟨rfl,rfl,rfl⟩ ?_)))
 refine zK (wd:=1) (by decide) zN (zb zy) zP ?_;repeat' (first | (apply And.intro<;>intro hc<;>(first | exact Bool.noConfusion hc | (exfalso;first | exact absurd rfl hc | omega) | (simp only [zl] at hc<;>first | exact absurd rfl hc | (exfalso;first | exact absurd rfl hc | omega) | skip) | skip)) | (refine And.intro zj ?_) | (apply And.intro) | (intro s hs;skip) | (refine Exists.intro _ (And.intro ⟨rfl,rfl,rfl⟩ ?_)))
 . have hRe : R = (L,false,0):=by
    rw [hR];unfold ZX;rw [if_pos ‹_›,hset]
   refine ZC (s:=s) (d:=2) (hRe.trans (by rw [hset])) hlt rfl (λp h j=>zc h) rfl rfl rfl rfl rfl rfl rfl λq hq j hj=>(zm.sh _ j hj).le
 have hmin : ¬ c.num < s.mn:=by assumption
 change Sem _ _ _ _ _ _ _ _;refine Zb (wd:=1) (by decide) zN (zb zy) (zV zy) zP (λ_ : {u : Unit // (ZM c.num s.held 0).2 = false}=>SLr L 2 s now c deaf draw) (by intro _;rfl) ?_ ?_
 . repeat' (first | (apply And.intro<;>intro hc<;>(first | exact Bool.noConfusion hc | (exfalso;first | exact absurd rfl hc | omega) | (simp only [zl] at hc<;>first | exact absurd rfl hc | (exfalso;first | exact absurd rfl hc | omega) | skip) | skip)) | (refine And.intro zj ?_) | (apply And.intro) | (intro s hs;skip) | (refine Exists.intro _ (And.intro ⟨rfl,rfl,rfl⟩ ?_)))
   conv=>whnf
   refine zU (zV zy) (λu : {k : Nat // k <= s.held.length /\ ∀ p,p < k -> (s.held.getD p default).num ≠ c.num}=>(⟨[(1,zL (.int .i64 now)),(3,zL (.bool deaf)),(4,zL (.int .u32 draw)),(7,zL (.ptr 0 0 0 false)),(13,zL (.os 1 0 L.length)),(18,zL (.int .i64 ((2 : Nat) : Int))),(19,zL (.ptr 3 0 0 false)),(127,zL (.int .i64 (s.held.length : Int))),(128,zL (.int .i64 (u.1 : Int)))],[(0,some ⟨32,1,3,true,λ_=>qo.cell c⟩),(1,some ⟨78,L.length,3,false,QO 2 s 2 L⟩),(2,some (Zj zm 85 s.held)),(3,some ⟨78,1,3,true,λ_=>sdO 2 s⟩)],4⟩ : Hd)) (λu=>s.held.length - u.1) (λ_=>rfl) ?_ ⟨0,Nat.zero_le _,λp hp=>absurd hp (Nat.not_lt_zero p)⟩ [(3,some 12)] ⟨rfl,⟨zB rfl,zG rfl,zB rfl,zF rfl,zD (zH rfl rfl),zB rfl,zF rfl,zB rfl,zB rfl,trivial⟩,⟨⟨rfl,zE λj hj=>(qo.sh _ j hj).le⟩,⟨rfl,⟨rfl,rfl,rfl,rfl,λp hp j hj=>Zm hj rfl⟩⟩,⟨rfl,zA⟩,⟨rfl,zE (Zr ⟨zC rfl,zC rfl,zH rfl rfl⟩)⟩,trivial⟩⟩;rintro ⟨k,hk,hnk⟩;dsimp only at hk hnk ⊢;have hn32:=hok.n;by_cases hkl : k < s.held.length
   . have w5 : IntKind.i64.wrap ((k : Int) + 1) = ((k + 1 : Nat) : Int):=(IntWalk.i64_in _ (by omega)).trans (by omega);have z0 : 0 + (k : Int).toNat = k:=Nat.zero_add k;obtain ⟨T,eT⟩ : ∃ T,Qq (s.held.getD k default).tm = T:=⟨_,rfl⟩;repeat' (first | (simp only [z0]) | (apply And.intro<;>intro hc<;>(first | exact Bool.noConfusion hc | (exfalso;first | exact absurd rfl hc | omega) | (simp only [zl] at hc<;>first | exact absurd rfl hc | (exfalso;first | exact absurd rfl hc | omega) | skip) | skip)) | (refine And.intro zj ?_) | (apply And.intro) | (intro s hs;(have q : T = s:=eT.symm.trans hs.symm;clear hs;subst q)) | (refine Exists.intro _ (And.intro ⟨rfl,rfl,rfl⟩ ?_)))
     . have hpl:=zBE hok.h hkl ‹_›;have hRe : R = (L.set 2 (ZO s k),false,0):=by
        rw [hR];unfold ZX;rw [if_neg hmin,hpl,if_pos rfl]
       have hhe : ZO s k = ⟨s.id,s.mn,s.held.set k { s.held.getD k default with tm:=T }⟩:=by unfold ZO;rw [eT]
       have hLh : (ZO s k).held.length = s.held.length:=List.length_set;conv=>whnf
       refine ZC (s:=ZO s k) (d:=2) hRe hlt rfl (λp h j=>zc h) rfl rfl (by rw [hLh];rfl) rfl rfl hLh.symm rfl λq hq j hj=>?_;rw [hhe];exact (Ym hkl (λj hj=>(Elem.flat _ _ _).le)).2 q (by rw [List.length_set,<- hLh];exact hq) j hj
     . conv=>whnf
       exact ⟨⟨k + 1,hkl,λp hp=>by
        by_cases h : p = k
        . subst h;assumption
        . exact hnk p (by omega)⟩,[],by dsimp only;omega,rfl,⟨zB rfl,zG rfl,zB rfl,zF rfl,zD (zH rfl rfl),zB rfl,zF rfl,zB rfl,zB w5,trivial⟩,⟨⟨rfl,zE λj hj=>(qo.sh _ j hj).le⟩,⟨rfl,⟨rfl,rfl,rfl,rfl,λp hp j hj=>Zm hj rfl⟩⟩,⟨rfl,zA⟩,⟨rfl,zE (Zr ⟨zC rfl,zC rfl,zH rfl rfl⟩)⟩,trivial⟩⟩
   . repeat' (first | (apply And.intro<;>intro hc<;>(first | exact Bool.noConfusion hc | (exfalso;first | exact absurd rfl hc | omega) | (simp only [zl] at hc<;>first | exact absurd rfl hc | (exfalso;first | exact absurd rfl hc | omega) | skip) | skip)) | (refine And.intro zj ?_) | (apply And.intro) | (intro s hs;skip) | (refine Exists.intro _ (And.intro ⟨rfl,rfl,rfl⟩ ?_)))
     conv=>whnf
     exact ⟨⟨(),zBF λp hp=>hnk p (by omega)⟩,[],rfl,⟨zB rfl,zG rfl,zB rfl,zF rfl,zD (zH rfl rfl),zB rfl,zF rfl,trivial⟩,⟨⟨rfl,zE λj hj=>(qo.sh _ j hj).le⟩,⟨rfl,⟨rfl,rfl,rfl,rfl,λp hp j hj=>Zm hj rfl⟩⟩,⟨rfl,zA⟩,⟨rfl,zE (Zr ⟨zC rfl,zC rfl,zH rfl rfl⟩)⟩,trivial⟩⟩
 . rintro ⟨_,hno⟩;have hs1 : Qx s (c.num - 31) = ze s (c.num - 31):=QF hok;obtain ⟨s1,es1⟩ : ∃ s1,ze s (c.num - 31) = s1:=⟨_,rfl⟩;rw [es1] at hs1;have hok1 : SdOk s1:=by rw [<- es1];exact YG hok (by omega)
   have hk:=hok.k;have hmn:=hok.mn;have w31 : IntKind.i64.wrap (s.mn + 31) = s.mn + 31:=IntWalk.i64_in _ (by omega);have w32 : IntKind.i64.wrap (c.num - 31) = c.num - 31:=IntWalk.i64_in _ (by omega);unfold SLr;change Sem _ _ _ _ _ _ _ _;refine Zb (wd:=1) (by decide) zN (zb zy) (zV zy) zP (SBr L 2 s1 now c deaf draw) (by intro _;rfl) ?_ ?_
   . repeat' (first | (simp only [w31,w32]) | (apply And.intro<;>intro hc<;>(first | exact Bool.noConfusion hc | (exfalso;first | exact absurd rfl hc | omega) | (simp only [zl] at hc<;>first | exact absurd rfl hc | (exfalso;first | exact absurd rfl hc | omega) | skip) | skip)) | (refine And.intro zj ?_) | (apply And.intro) | (intro s hs;(have q:=YT hs (zAn rfl rfl (zT zd _)) hs1;clear hs;subst q)) | (refine Exists.intro _ (And.intro ⟨rfl,rfl,rfl⟩ ?_)))
     . exact ⟨rfl,rfl,λ_ _=>⟨rfl,ZG _⟩⟩
     . exact Eq.mpr (congrArg KpI (zT zd _)) hk
     . conv=>whnf
       exact ⟨(),[(2,some 14)],rfl,⟨zB rfl,zG rfl,zB rfl,zF rfl,zD (zH rfl rfl),zB rfl,zF rfl,trivial⟩,⟨⟨rfl,zE λj hj=>(qo.sh _ j hj).le⟩,⟨rfl,⟨rfl,rfl,rfl,rfl,λp hp j hj=>ql hj λh=>zc h⟩⟩,⟨rfl,zA⟩,⟨rfl,zE (Zr ⟨zC rfl,zC rfl,zH rfl rfl⟩)⟩,trivial⟩⟩
     . have e1 : s1 = s:=by rw [<- es1];exact if_pos (by omega)
       conv=>whnf
       exact ⟨(),[],rfl,⟨zB rfl,zG rfl,zB rfl,zF rfl,zD (zH rfl rfl),zB rfl,zF rfl,trivial⟩,⟨⟨rfl,zE λj hj=>(qo.sh _ j hj).le⟩,⟨rfl,⟨rfl,rfl,rfl,rfl,λp hp j hj=>ql hj λh=>zc h⟩⟩,⟨rfl,zR (by rw [e1])⟩,⟨rfl,zE (Zr ⟨zC (by rw [e1]),zC (by rw [e1]),zH rfl (by rw [e1])⟩)⟩,trivial⟩⟩
   . intro _;exact ht s1 es1 hok1 hmin hno (by rw [<- es1];unfold ze;split;exact hno;exact Qb hok.h hno)
theorem racc_3 (L : List Sed) (now : Int) (c : Cas) (deaf : Bool) (draw : Int) (hI : AcR L 3 now c draw) (R : List Sed × Bool × Int) (hR : R = (L.set 3 (ZX (L.getD 3 default) now c deaf draw).1,(ZX (L.getD 3 default) now c deaf draw).2,0))
 (ht : ∀ s1,ze (L.getD 3 default) (c.num - 31) = s1 -> SdOk s1 -> ¬ c.num < (L.getD 3 default).mn -> (ZM c.num (L.getD 3 default).held 0).2 = false -> (ZM c.num s1.held 0).2 = false -> Sem Try.prog Try.f39.ntmps 0 (Zc 11 (Try.f39.body.getD Code.ret)) (SBr L 3 s1 now c deaf draw ()).fr (SBr L 3 s1 now c deaf draw ()).H (SBr L 3 s1 now c deaf draw ()).nx (qQ T Try.f39.results.toList λx H _=>FinN (some R.1.length) (Zz R) (Zj ZB 78 R.1) x H)) :
 Sem Try.prog Try.f39.ntmps 0 (Zc 6 (Try.f39.body.getD Code.ret)) (SAr L 3 now c deaf draw ()).fr (SAr L 3 now c deaf draw ()).H (SAr L 3 now c deaf draw ()).nx (qQ T Try.f39.results.toList λx H _=>FinN (some R.1.length) (Zz R) (Zj ZB 78 R.1) x H):=by
 obtain ⟨hlt,hn9,hok,hnum,hd,hnow,hdr,hf⟩:=hI;obtain ⟨s,es⟩ : ∃ s,L.getD 3 default = s:=⟨_,rfl⟩;rw [es] at hok hR ht;have hset : L.set 3 s = L:=by rw [<- es];exact ZH hlt
 unfold SAr;rw [es];refine zK (wd:=1) (by decide) zN (zb zy) zP ?_;repeat' (first | (apply And.intro<;>intro hc<;>(first | exact Bool.noConfusion hc | (exfalso;first | exact absurd rfl hc | omega) | (simp only [zl] at hc<;>first | exact absurd rfl hc | (exfalso;first | exact absurd rfl hc | omega) | skip) | skip)) | (refine And.intro zj ?_) | (apply And.intro) | (intro s hs;(have q:=YO hs (Yk es.symm rfl) hf;clear hs;subst q)) | (refine Exists.intro _ (And.intro ⟨rfl,rfl,rfl⟩ ?_)))
 . exact Yl
 . show (Ys neI L.length λk j=>QO 2 s 3 L (0 + k) j).length <= 9223372036854775807;rw [QW];omega
 refine zK (wd:=1) (by decide) zN (zb zy) zP ?_;repeat' (first | (apply And.intro<;>intro hc<;>(first | exact Bool.noConfusion hc | (exfalso;first | exact absurd rfl hc | omega) | (simp only [zl] at hc<;>first | exact absurd rfl hc | (exfalso;first | exact absurd rfl hc | omega) | skip) | skip)) | (refine And.intro zj ?_) | (apply And.intro) | (intro s hs;skip) | (refine Exists.intro _ (And.intro ⟨rfl,rfl,rfl⟩ ?_)))
 refine zK (wd:=1) (by decide) zN (zb zy) zP ?_;repeat' (first | (apply And.intro<;>intro hc<;>(first | exact Bool.noConfusion hc | (exfalso;first | exact absurd rfl hc | omega) | (simp only [zl] at hc<;>first | exact absurd rfl hc | (exfalso;first | exact absurd rfl hc | omega) | skip) | skip)) | (refine And.intro zj ?_) | (apply And.intro) | (intro s hs;skip) | (refine Exists.intro _ (And.intro ⟨rfl,rfl,rfl⟩ ?_)))
 . have hRe : R = (L,false,0):=by
    rw [hR];unfold ZX;rw [if_pos ‹_›,hset]
   refine ZC (s:=s) (d:=2) (hRe.trans (by rw [hset])) hlt rfl (λp h j=>zc h) rfl rfl rfl rfl rfl rfl rfl λq hq j hj=>(zm.sh _ j hj).le
 have hmin : ¬ c.num < s.mn:=by assumption
 change Sem _ _ _ _ _ _ _ _;refine Zb (wd:=1) (by decide) zN (zb zy) (zV zy) zP (λ_ : {u : Unit // (ZM c.num s.held 0).2 = false}=>SLr L 3 s now c deaf draw) (by intro _;rfl) ?_ ?_
 . repeat' (first | (apply And.intro<;>intro hc<;>(first | exact Bool.noConfusion hc | (exfalso;first | exact absurd rfl hc | omega) | (simp only [zl] at hc<;>first | exact absurd rfl hc | (exfalso;first | exact absurd rfl hc | omega) | skip) | skip)) | (refine And.intro zj ?_) | (apply And.intro) | (intro s hs;skip) | (refine Exists.intro _ (And.intro ⟨rfl,rfl,rfl⟩ ?_)))
   conv=>whnf
   refine zU (zV zy) (λu : {k : Nat // k <= s.held.length /\ ∀ p,p < k -> (s.held.getD p default).num ≠ c.num}=>(⟨[(1,zL (.int .i64 now)),(3,zL (.bool deaf)),(4,zL (.int .u32 draw)),(7,zL (.ptr 0 0 0 false)),(13,zL (.os 1 0 L.length)),(18,zL (.int .i64 ((3 : Nat) : Int))),(19,zL (.ptr 3 0 0 false)),(127,zL (.int .i64 (s.held.length : Int))),(128,zL (.int .i64 (u.1 : Int)))],[(0,some ⟨32,1,3,true,λ_=>qo.cell c⟩),(1,some ⟨78,L.length,3,false,QO 2 s 3 L⟩),(2,some (Zj zm 85 s.held)),(3,some ⟨78,1,3,true,λ_=>sdO 2 s⟩)],4⟩ : Hd)) (λu=>s.held.length - u.1) (λ_=>rfl) ?_ ⟨0,Nat.zero_le _,λp hp=>absurd hp (Nat.not_lt_zero p)⟩ [(3,some 12)] ⟨rfl,⟨zB rfl,zG rfl,zB rfl,zF rfl,zD (zH rfl rfl),zB rfl,zF rfl,zB rfl,zB rfl,trivial⟩,⟨⟨rfl,zE λj hj=>(qo.sh _ j hj).le⟩,⟨rfl,⟨rfl,rfl,rfl,rfl,λp hp j hj=>Zm hj rfl⟩⟩,⟨rfl,zA⟩,⟨rfl,zE (Zr ⟨zC rfl,zC rfl,zH rfl rfl⟩)⟩,trivial⟩⟩;rintro ⟨k,hk,hnk⟩;dsimp only at hk hnk ⊢;have hn32:=hok.n;by_cases hkl : k < s.held.length
   . have w5 : IntKind.i64.wrap ((k : Int) + 1) = ((k + 1 : Nat) : Int):=(IntWalk.i64_in _ (by omega)).trans (by omega);have z0 : 0 + (k : Int).toNat = k:=Nat.zero_add k;obtain ⟨T,eT⟩ : ∃ T,Qq (s.held.getD k default).tm = T:=⟨_,rfl⟩;repeat' (first | (simp only [z0]) | (apply And.intro<;>intro hc<;>(first | exact Bool.noConfusion hc | (exfalso;first | exact absurd rfl hc | omega) | (simp only [zl] at hc<;>first | exact absurd rfl hc | (exfalso;first | exact absurd rfl hc | omega) | skip) | skip)) | (refine And.intro zj ?_) | (apply And.intro) | (intro s hs;(have q : T = s:=eT.symm.trans hs.symm;clear hs;subst q)) | (refine Exists.intro _ (And.intro ⟨rfl,rfl,rfl⟩ ?_)))
     . have hpl:=zBE hok.h hkl ‹_›;have hRe : R = (L.set 3 (ZO s k),false,0):=by
        rw [hR];unfold ZX;rw [if_neg hmin,hpl,if_pos rfl]
       have hhe : ZO s k = ⟨s.id,s.mn,s.held.set k { s.held.getD k default with tm:=T }⟩:=by unfold ZO;rw [eT]
       have hLh : (ZO s k).held.length = s.held.length:=List.length_set;conv=>whnf
       refine ZC (s:=ZO s k) (d:=2) hRe hlt rfl (λp h j=>zc h) rfl rfl (by rw [hLh];rfl) rfl rfl hLh.symm rfl λq hq j hj=>?_;rw [hhe];exact (Ym hkl (λj hj=>(Elem.flat _ _ _).le)).2 q (by rw [List.length_set,<- hLh];exact hq) j hj
     . conv=>whnf
       exact ⟨⟨k + 1,hkl,λp hp=>by
        by_cases h : p = k
        . subst h;assumption
        . exact hnk p (by omega)⟩,[],by dsimp only;omega,rfl,⟨zB rfl,zG rfl,zB rfl,zF rfl,zD (zH rfl rfl),zB rfl,zF rfl,zB rfl,zB w5,trivial⟩,⟨⟨rfl,zE λj hj=>(qo.sh _ j hj).le⟩,⟨rfl,⟨rfl,rfl,rfl,rfl,λp hp j hj=>Zm hj rfl⟩⟩,⟨rfl,zA⟩,⟨rfl,zE (Zr ⟨zC rfl,zC rfl,zH rfl rfl⟩)⟩,trivial⟩⟩
   . repeat' (first | (apply And.intro<;>intro hc<;>(first | exact Bool.noConfusion hc | (exfalso;first | exact absurd rfl hc | omega) | (simp only [zl] at hc<;>first | exact absurd rfl hc | (exfalso;first | exact absurd rfl hc | omega) | skip) | skip)) | (refine And.intro zj ?_) | (apply And.intro) | (intro s hs;skip) | (refine Exists.intro _ (And.intro ⟨rfl,rfl,rfl⟩ ?_)))
     conv=>whnf
     exact ⟨⟨(),zBF λp hp=>hnk p (by omega)⟩,[],rfl,⟨zB rfl,zG rfl,zB rfl,zF rfl,zD (zH rfl rfl),zB rfl,zF rfl,trivial⟩,⟨⟨rfl,zE λj hj=>(qo.sh _ j hj).le⟩,⟨rfl,⟨rfl,rfl,rfl,rfl,λp hp j hj=>Zm hj rfl⟩⟩,⟨rfl,zA⟩,⟨rfl,zE (Zr ⟨zC rfl,zC rfl,zH rfl rfl⟩)⟩,trivial⟩⟩
 . rintro ⟨_,hno⟩;have hs1 : Qx s (c.num - 31) = ze s (c.num - 31):=QF hok;obtain ⟨s1,es1⟩ : ∃ s1,ze s (c.num - 31) = s1:=⟨_,rfl⟩;rw [es1] at hs1;have hok1 : SdOk s1:=by rw [<- es1];exact YG hok (by omega)
   have hk:=hok.k;have hmn:=hok.mn;have w31 : IntKind.i64.wrap (s.mn + 31) = s.mn + 31:=IntWalk.i64_in _ (by omega);have w32 : IntKind.i64.wrap (c.num - 31) = c.num - 31:=IntWalk.i64_in _ (by omega);unfold SLr;change Sem _ _ _ _ _ _ _ _;refine Zb (wd:=1) (by decide) zN (zb zy) (zV zy) zP (SBr L 3 s1 now c deaf draw) (by intro _;rfl) ?_ ?_
   . repeat' (first | (simp only [w31,w32]) | (apply And.intro<;>intro hc<;>(first | exact Bool.noConfusion hc | (exfalso;first | exact absurd rfl hc | omega) | (simp only [zl] at hc<;>first | exact absurd rfl hc | (exfalso;first | exact absurd rfl hc | omega) | skip) | skip)) | (refine And.intro zj ?_) | (apply And.intro) | (intro s hs;(have q:=YT hs (zAn rfl rfl (zT zd _)) hs1;clear hs;subst q)) | (refine Exists.intro _ (And.intro ⟨rfl,rfl,rfl⟩ ?_)))
     . exact ⟨rfl,rfl,λ_ _=>⟨rfl,ZG _⟩⟩
     . exact Eq.mpr (congrArg KpI (zT zd _)) hk
     . conv=>whnf
       exact ⟨(),[(2,some 14)],rfl,⟨zB rfl,zG rfl,zB rfl,zF rfl,zD (zH rfl rfl),zB rfl,zF rfl,trivial⟩,⟨⟨rfl,zE λj hj=>(qo.sh _ j hj).le⟩,⟨rfl,⟨rfl,rfl,rfl,rfl,λp hp j hj=>ql hj λh=>zc h⟩⟩,⟨rfl,zA⟩,⟨rfl,zE (Zr ⟨zC rfl,zC rfl,zH rfl rfl⟩)⟩,trivial⟩⟩
     . have e1 : s1 = s:=by rw [<- es1];exact if_pos (by omega)
       conv=>whnf
       exact ⟨(),[],rfl,⟨zB rfl,zG rfl,zB rfl,zF rfl,zD (zH rfl rfl),zB rfl,zF rfl,trivial⟩,⟨⟨rfl,zE λj hj=>(qo.sh _ j hj).le⟩,⟨rfl,⟨rfl,rfl,rfl,rfl,λp hp j hj=>ql hj λh=>zc h⟩⟩,⟨rfl,zR (by rw [e1])⟩,⟨rfl,zE (Zr ⟨zC (by rw [e1]),zC (by rw [e1]),zH rfl (by rw [e1])⟩)⟩,trivial⟩⟩
   . intro _;exact ht s1 es1 hok1 hmin hno (by rw [<- es1];unfold ze;split;exact hno;exact Qb hok.h hno)
theorem racc_4 (L : List Sed) (now : Int) (c : Cas) (deaf : Bool) (draw : Int) (hI : AcR L 4 now c draw) (R : List Sed × Bool × Int) (hR : R = (L.set 4 (ZX (L.getD 4 default) now c deaf draw).1,(ZX (L.getD 4 default) now c deaf draw).2,0))
 (ht : ∀ s1,ze (L.getD 4 default) (c.num - 31) = s1 -> SdOk s1 -> ¬ c.num < (L.getD 4 default).mn -> (ZM c.num (L.getD 4 default).held 0).2 = false -> (ZM c.num s1.held 0).2 = false -> Sem Try.prog Try.f39.ntmps 0 (Zc 11 (Try.f39.body.getD Code.ret)) (SBr L 4 s1 now c deaf draw ()).fr (SBr L 4 s1 now c deaf draw ()).H (SBr L 4 s1 now c deaf draw ()).nx (qQ T Try.f39.results.toList λx H _=>FinN (some R.1.length) (Zz R) (Zj ZB 78 R.1) x H)) :
 Sem Try.prog Try.f39.ntmps 0 (Zc 6 (Try.f39.body.getD Code.ret)) (SAr L 4 now c deaf draw ()).fr (SAr L 4 now c deaf draw ()).H (SAr L 4 now c deaf draw ()).nx (qQ T Try.f39.results.toList λx H _=>FinN (some R.1.length) (Zz R) (Zj ZB 78 R.1) x H):=by
 obtain ⟨hlt,hn9,hok,hnum,hd,hnow,hdr,hf⟩:=hI;obtain ⟨s,es⟩ : ∃ s,L.getD 4 default = s:=⟨_,rfl⟩;rw [es] at hok hR ht;have hset : L.set 4 s = L:=by rw [<- es];exact ZH hlt
 unfold SAr;rw [es];refine zK (wd:=1) (by decide) zN (zb zy) zP ?_;repeat' (first | (apply And.intro<;>intro hc<;>(first | exact Bool.noConfusion hc | (exfalso;first | exact absurd rfl hc | omega) | (simp only [zl] at hc<;>first | exact absurd rfl hc | (exfalso;first | exact absurd rfl hc | omega) | skip) | skip)) | (refine And.intro zj ?_) | (apply And.intro) | (intro s hs;(have q:=YO hs (Yk es.symm rfl) hf;clear hs;subst q)) | (refine Exists.intro _ (And.intro ⟨rfl,rfl,rfl⟩ ?_)))
 . exact Yl
 . show (Ys neI L.length λk j=>QO 2 s 4 L (0 + k) j).length <= 9223372036854775807;rw [QW];omega
 refine zK (wd:=1) (by decide) zN (zb zy) zP ?_;repeat' (first | (apply And.intro<;>intro hc<;>(first | exact Bool.noConfusion hc | (exfalso;first | exact absurd rfl hc | omega) | (simp only [zl] at hc<;>first | exact absurd rfl hc | (exfalso;first | exact absurd rfl hc | omega) | skip) | skip)) | (refine And.intro zj ?_) | (apply And.intro) | (intro s hs;skip) | (refine Exists.intro _ (And.intro ⟨rfl,rfl,rfl⟩ ?_)))
 refine zK (wd:=1) (by decide) zN (zb zy) zP ?_;repeat' (first | (apply And.intro<;>intro hc<;>(first | exact Bool.noConfusion hc | (exfalso;first | exact absurd rfl hc | omega) | (simp only [zl] at hc<;>first | exact absurd rfl hc | (exfalso;first | exact absurd rfl hc | omega) | skip) | skip)) | (refine And.intro zj ?_) | (apply And.intro) | (intro s hs;skip) | (refine Exists.intro _ (And.intro ⟨rfl,rfl,rfl⟩ ?_)))
 . have hRe : R = (L,false,0):=by
    rw [hR];unfold ZX;rw [if_pos ‹_›,hset]
   refine ZC (s:=s) (d:=2) (hRe.trans (by rw [hset])) hlt rfl (λp h j=>zc h) rfl rfl rfl rfl rfl rfl rfl λq hq j hj=>(zm.sh _ j hj).le
 have hmin : ¬ c.num < s.mn:=by assumption
 change Sem _ _ _ _ _ _ _ _;refine Zb (wd:=1) (by decide) zN (zb zy) (zV zy) zP (λ_ : {u : Unit // (ZM c.num s.held 0).2 = false}=>SLr L 4 s now c deaf draw) (by intro _;rfl) ?_ ?_
 . repeat' (first | (apply And.intro<;>intro hc<;>(first | exact Bool.noConfusion hc | (exfalso;first | exact absurd rfl hc | omega) | (simp only [zl] at hc<;>first | exact absurd rfl hc | (exfalso;first | exact absurd rfl hc | omega) | skip) | skip)) | (refine And.intro zj ?_) | (apply And.intro) | (intro s hs;skip) | (refine Exists.intro _ (And.intro ⟨rfl,rfl,rfl⟩ ?_)))
   conv=>whnf
   refine zU (zV zy) (λu : {k : Nat // k <= s.held.length /\ ∀ p,p < k -> (s.held.getD p default).num ≠ c.num}=>(⟨[(1,zL (.int .i64 now)),(3,zL (.bool deaf)),(4,zL (.int .u32 draw)),(7,zL (.ptr 0 0 0 false)),(13,zL (.os 1 0 L.length)),(18,zL (.int .i64 ((4 : Nat) : Int))),(19,zL (.ptr 3 0 0 false)),(127,zL (.int .i64 (s.held.length : Int))),(128,zL (.int .i64 (u.1 : Int)))],[(0,some ⟨32,1,3,true,λ_=>qo.cell c⟩),(1,some ⟨78,L.length,3,false,QO 2 s 4 L⟩),(2,some (Zj zm 85 s.held)),(3,some ⟨78,1,3,true,λ_=>sdO 2 s⟩)],4⟩ : Hd)) (λu=>s.held.length - u.1) (λ_=>rfl) ?_ ⟨0,Nat.zero_le _,λp hp=>absurd hp (Nat.not_lt_zero p)⟩ [(3,some 12)] ⟨rfl,⟨zB rfl,zG rfl,zB rfl,zF rfl,zD (zH rfl rfl),zB rfl,zF rfl,zB rfl,zB rfl,trivial⟩,⟨⟨rfl,zE λj hj=>(qo.sh _ j hj).le⟩,⟨rfl,⟨rfl,rfl,rfl,rfl,λp hp j hj=>Zm hj rfl⟩⟩,⟨rfl,zA⟩,⟨rfl,zE (Zr ⟨zC rfl,zC rfl,zH rfl rfl⟩)⟩,trivial⟩⟩;rintro ⟨k,hk,hnk⟩;dsimp only at hk hnk ⊢;have hn32:=hok.n;by_cases hkl : k < s.held.length
   . have w5 : IntKind.i64.wrap ((k : Int) + 1) = ((k + 1 : Nat) : Int):=(IntWalk.i64_in _ (by omega)).trans (by omega);have z0 : 0 + (k : Int).toNat = k:=Nat.zero_add k;obtain ⟨T,eT⟩ : ∃ T,Qq (s.held.getD k default).tm = T:=⟨_,rfl⟩;repeat' (first | (simp only [z0]) | (apply And.intro<;>intro hc<;>(first | exact Bool.noConfusion hc | (exfalso;first | exact absurd rfl hc | omega) | (simp only [zl] at hc<;>first | exact absurd rfl hc | (exfalso;first | exact absurd rfl hc | omega) | skip) | skip)) | (refine And.intro zj ?_) | (apply And.intro) | (intro s hs;(have q : T = s:=eT.symm.trans hs.symm;clear hs;subst q)) | (refine Exists.intro _ (And.intro ⟨rfl,rfl,rfl⟩ ?_)))
     . have hpl:=zBE hok.h hkl ‹_›;have hRe : R = (L.set 4 (ZO s k),false,0):=by
        rw [hR];unfold ZX;rw [if_neg hmin,hpl,if_pos rfl]
       have hhe : ZO s k = ⟨s.id,s.mn,s.held.set k { s.held.getD k default with tm:=T }⟩:=by unfold ZO;rw [eT]
       have hLh : (ZO s k).held.length = s.held.length:=List.length_set;conv=>whnf
       refine ZC (s:=ZO s k) (d:=2) hRe hlt rfl (λp h j=>zc h) rfl rfl (by rw [hLh];rfl) rfl rfl hLh.symm rfl λq hq j hj=>?_;rw [hhe];exact (Ym hkl (λj hj=>(Elem.flat _ _ _).le)).2 q (by rw [List.length_set,<- hLh];exact hq) j hj
     . conv=>whnf
       exact ⟨⟨k + 1,hkl,λp hp=>by
        by_cases h : p = k
        . subst h;assumption
        . exact hnk p (by omega)⟩,[],by dsimp only;omega,rfl,⟨zB rfl,zG rfl,zB rfl,zF rfl,zD (zH rfl rfl),zB rfl,zF rfl,zB rfl,zB w5,trivial⟩,⟨⟨rfl,zE λj hj=>(qo.sh _ j hj).le⟩,⟨rfl,⟨rfl,rfl,rfl,rfl,λp hp j hj=>Zm hj rfl⟩⟩,⟨rfl,zA⟩,⟨rfl,zE (Zr ⟨zC rfl,zC rfl,zH rfl rfl⟩)⟩,trivial⟩⟩
   . repeat' (first | (apply And.intro<;>intro hc<;>(first | exact Bool.noConfusion hc | (exfalso;first | exact absurd rfl hc | omega) | (simp only [zl] at hc<;>first | exact absurd rfl hc | (exfalso;first | exact absurd rfl hc | omega) | skip) | skip)) | (refine And.intro zj ?_) | (apply And.intro) | (intro s hs;skip) | (refine Exists.intro _ (And.intro ⟨rfl,rfl,rfl⟩ ?_)))
     conv=>whnf
     exact ⟨⟨(),zBF λp hp=>hnk p (by omega)⟩,[],rfl,⟨zB rfl,zG rfl,zB rfl,zF rfl,zD (zH rfl rfl),zB rfl,zF rfl,trivial⟩,⟨⟨rfl,zE λj hj=>(qo.sh _ j hj).le⟩,⟨rfl,⟨rfl,rfl,rfl,rfl,λp hp j hj=>Zm hj rfl⟩⟩,⟨rfl,zA⟩,⟨rfl,zE (Zr ⟨zC rfl,zC rfl,zH rfl rfl⟩)⟩,trivial⟩⟩
 . rintro ⟨_,hno⟩;have hs1 : Qx s (c.num - 31) = ze s (c.num - 31):=QF hok;obtain ⟨s1,es1⟩ : ∃ s1,ze s (c.num - 31) = s1:=⟨_,rfl⟩;rw [es1] at hs1;have hok1 : SdOk s1:=by rw [<- es1];exact YG hok (by omega)
   have hk:=hok.k;have hmn:=hok.mn;have w31 : IntKind.i64.wrap (s.mn + 31) = s.mn + 31:=IntWalk.i64_in _ (by omega);have w32 : IntKind.i64.wrap (c.num - 31) = c.num - 31:=IntWalk.i64_in _ (by omega);unfold SLr;change Sem _ _ _ _ _ _ _ _;refine Zb (wd:=1) (by decide) zN (zb zy) (zV zy) zP (SBr L 4 s1 now c deaf draw) (by intro _;rfl) ?_ ?_
   . repeat' (first | (simp only [w31,w32]) | (apply And.intro<;>intro hc<;>(first | exact Bool.noConfusion hc | (exfalso;first | exact absurd rfl hc | omega) | (simp only [zl] at hc<;>first | exact absurd rfl hc | (exfalso;first | exact absurd rfl hc | omega) | skip) | skip)) | (refine And.intro zj ?_) | (apply And.intro) | (intro s hs;(have q:=YT hs (zAn rfl rfl (zT zd _)) hs1;clear hs;subst q)) | (refine Exists.intro _ (And.intro ⟨rfl,rfl,rfl⟩ ?_)))
     . exact ⟨rfl,rfl,λ_ _=>⟨rfl,ZG _⟩⟩
     . exact Eq.mpr (congrArg KpI (zT zd _)) hk
     . conv=>whnf
       exact ⟨(),[(2,some 14)],rfl,⟨zB rfl,zG rfl,zB rfl,zF rfl,zD (zH rfl rfl),zB rfl,zF rfl,trivial⟩,⟨⟨rfl,zE λj hj=>(qo.sh _ j hj).le⟩,⟨rfl,⟨rfl,rfl,rfl,rfl,λp hp j hj=>ql hj λh=>zc h⟩⟩,⟨rfl,zA⟩,⟨rfl,zE (Zr ⟨zC rfl,zC rfl,zH rfl rfl⟩)⟩,trivial⟩⟩
     . have e1 : s1 = s:=by rw [<- es1];exact if_pos (by omega)
       conv=>whnf
       exact ⟨(),[],rfl,⟨zB rfl,zG rfl,zB rfl,zF rfl,zD (zH rfl rfl),zB rfl,zF rfl,trivial⟩,⟨⟨rfl,zE λj hj=>(qo.sh _ j hj).le⟩,⟨rfl,⟨rfl,rfl,rfl,rfl,λp hp j hj=>ql hj λh=>zc h⟩⟩,⟨rfl,zR (by rw [e1])⟩,⟨rfl,zE (Zr ⟨zC (by rw [e1]),zC (by rw [e1]),zH rfl (by rw [e1])⟩)⟩,trivial⟩⟩
   . intro _;exact ht s1 es1 hok1 hmin hno (by rw [<- es1];unfold ze;split;exact hno;exact Qb hok.h hno)
theorem racc_5 (L : List Sed) (now : Int) (c : Cas) (deaf : Bool) (draw : Int) (hI : AcR L 5 now c draw) (R : List Sed × Bool × Int) (hR : R = (L.set 5 (ZX (L.getD 5 default) now c deaf draw).1,(ZX (L.getD 5 default) now c deaf draw).2,0))
 (ht : ∀ s1,ze (L.getD 5 default) (c.num - 31) = s1 -> SdOk s1 -> ¬ c.num < (L.getD 5 default).mn -> (ZM c.num (L.getD 5 default).held 0).2 = false -> (ZM c.num s1.held 0).2 = false -> Sem Try.prog Try.f39.ntmps 0 (Zc 11 (Try.f39.body.getD Code.ret)) (SBr L 5 s1 now c deaf draw ()).fr (SBr L 5 s1 now c deaf draw ()).H (SBr L 5 s1 now c deaf draw ()).nx (qQ T Try.f39.results.toList λx H _=>FinN (some R.1.length) (Zz R) (Zj ZB 78 R.1) x H)) :
 Sem Try.prog Try.f39.ntmps 0 (Zc 6 (Try.f39.body.getD Code.ret)) (SAr L 5 now c deaf draw ()).fr (SAr L 5 now c deaf draw ()).H (SAr L 5 now c deaf draw ()).nx (qQ T Try.f39.results.toList λx H _=>FinN (some R.1.length) (Zz R) (Zj ZB 78 R.1) x H):=by
 obtain ⟨hlt,hn9,hok,hnum,hd,hnow,hdr,hf⟩:=hI;obtain ⟨s,es⟩ : ∃ s,L.getD 5 default = s:=⟨_,rfl⟩;rw [es] at hok hR ht;have hset : L.set 5 s = L:=by rw [<- es];exact ZH hlt
 unfold SAr;rw [es];refine zK (wd:=1) (by decide) zN (zb zy) zP ?_;repeat' (first | (apply And.intro<;>intro hc<;>(first | exact Bool.noConfusion hc | (exfalso;first | exact absurd rfl hc | omega) | (simp only [zl] at hc<;>first | exact absurd rfl hc | (exfalso;first | exact absurd rfl hc | omega) | skip) | skip)) | (refine And.intro zj ?_) | (apply And.intro) | (intro s hs;(have q:=YO hs (Yk es.symm rfl) hf;clear hs;subst q)) | (refine Exists.intro _ (And.intro ⟨rfl,rfl,rfl⟩ ?_)))
 . exact Yl
 . show (Ys neI L.length λk j=>QO 2 s 5 L (0 + k) j).length <= 9223372036854775807;rw [QW];omega
 refine zK (wd:=1) (by decide) zN (zb zy) zP ?_;repeat' (first | (apply And.intro<;>intro hc<;>(first | exact Bool.noConfusion hc | (exfalso;first | exact absurd rfl hc | omega) | (simp only [zl] at hc<;>first | exact absurd rfl hc | (exfalso;first | exact absurd rfl hc | omega) | skip) | skip)) | (refine And.intro zj ?_) | (apply And.intro) | (intro s hs;skip) | (refine Exists.intro _ (And.intro ⟨rfl,rfl,rfl⟩ ?_)))
 refine zK (wd:=1) (by decide) zN (zb zy) zP ?_;repeat' (first | (apply And.intro<;>intro hc<;>(first | exact Bool.noConfusion hc | (exfalso;first | exact absurd rfl hc | omega) | (simp only [zl] at hc<;>first | exact absurd rfl hc | (exfalso;first | exact absurd rfl hc | omega) | skip) | skip)) | (refine And.intro zj ?_) | (apply And.intro) | (intro s hs;skip) | (refine Exists.intro _ (And.intro ⟨rfl,rfl,rfl⟩ ?_)))
 . have hRe : R = (L,false,0):=by
    rw [hR];unfold ZX;rw [if_pos ‹_›,hset]
   refine ZC (s:=s) (d:=2) (hRe.trans (by rw [hset])) hlt rfl (λp h j=>zc h) rfl rfl rfl rfl rfl rfl rfl λq hq j hj=>(zm.sh _ j hj).le
 have hmin : ¬ c.num < s.mn:=by assumption
 change Sem _ _ _ _ _ _ _ _;refine Zb (wd:=1) (by decide) zN (zb zy) (zV zy) zP (λ_ : {u : Unit // (ZM c.num s.held 0).2 = false}=>SLr L 5 s now c deaf draw) (by intro _;rfl) ?_ ?_
 . repeat' (first | (apply And.intro<;>intro hc<;>(first | exact Bool.noConfusion hc | (exfalso;first | exact absurd rfl hc | omega) | (simp only [zl] at hc<;>first | exact absurd rfl hc | (exfalso;first | exact absurd rfl hc | omega) | skip) | skip)) | (refine And.intro zj ?_) | (apply And.intro) | (intro s hs;skip) | (refine Exists.intro _ (And.intro ⟨rfl,rfl,rfl⟩ ?_)))
   conv=>whnf
   refine zU (zV zy) (λu : {k : Nat // k <= s.held.length /\ ∀ p,p < k -> (s.held.getD p default).num ≠ c.num}=>(⟨[(1,zL (.int .i64 now)),(3,zL (.bool deaf)),(4,zL (.int .u32 draw)),(7,zL (.ptr 0 0 0 false)),(13,zL (.os 1 0 L.length)),(18,zL (.int .i64 ((5 : Nat) : Int))),(19,zL (.ptr 3 0 0 false)),(127,zL (.int .i64 (s.held.length : Int))),(128,zL (.int .i64 (u.1 : Int)))],[(0,some ⟨32,1,3,true,λ_=>qo.cell c⟩),(1,some ⟨78,L.length,3,false,QO 2 s 5 L⟩),(2,some (Zj zm 85 s.held)),(3,some ⟨78,1,3,true,λ_=>sdO 2 s⟩)],4⟩ : Hd)) (λu=>s.held.length - u.1) (λ_=>rfl) ?_ ⟨0,Nat.zero_le _,λp hp=>absurd hp (Nat.not_lt_zero p)⟩ [(3,some 12)] ⟨rfl,⟨zB rfl,zG rfl,zB rfl,zF rfl,zD (zH rfl rfl),zB rfl,zF rfl,zB rfl,zB rfl,trivial⟩,⟨⟨rfl,zE λj hj=>(qo.sh _ j hj).le⟩,⟨rfl,⟨rfl,rfl,rfl,rfl,λp hp j hj=>Zm hj rfl⟩⟩,⟨rfl,zA⟩,⟨rfl,zE (Zr ⟨zC rfl,zC rfl,zH rfl rfl⟩)⟩,trivial⟩⟩;rintro ⟨k,hk,hnk⟩;dsimp only at hk hnk ⊢;have hn32:=hok.n;by_cases hkl : k < s.held.length
   . have w5 : IntKind.i64.wrap ((k : Int) + 1) = ((k + 1 : Nat) : Int):=(IntWalk.i64_in _ (by omega)).trans (by omega);have z0 : 0 + (k : Int).toNat = k:=Nat.zero_add k;obtain ⟨T,eT⟩ : ∃ T,Qq (s.held.getD k default).tm = T:=⟨_,rfl⟩;repeat' (first | (simp only [z0]) | (apply And.intro<;>intro hc<;>(first | exact Bool.noConfusion hc | (exfalso;first | exact absurd rfl hc | omega) | (simp only [zl] at hc<;>first | exact absurd rfl hc | (exfalso;first | exact absurd rfl hc | omega) | skip) | skip)) | (refine And.intro zj ?_) | (apply And.intro) | (intro s hs;(have q : T = s:=eT.symm.trans hs.symm;clear hs;subst q)) | (refine Exists.intro _ (And.intro ⟨rfl,rfl,rfl⟩ ?_)))
     . have hpl:=zBE hok.h hkl ‹_›;have hRe : R = (L.set 5 (ZO s k),false,0):=by
        rw [hR];unfold ZX;rw [if_neg hmin,hpl,if_pos rfl]
       have hhe : ZO s k = ⟨s.id,s.mn,s.held.set k { s.held.getD k default with tm:=T }⟩:=by unfold ZO;rw [eT]
       have hLh : (ZO s k).held.length = s.held.length:=List.length_set;conv=>whnf
       refine ZC (s:=ZO s k) (d:=2) hRe hlt rfl (λp h j=>zc h) rfl rfl (by rw [hLh];rfl) rfl rfl hLh.symm rfl λq hq j hj=>?_;rw [hhe];exact (Ym hkl (λj hj=>(Elem.flat _ _ _).le)).2 q (by rw [List.length_set,<- hLh];exact hq) j hj
     . conv=>whnf
       exact ⟨⟨k + 1,hkl,λp hp=>by
        by_cases h : p = k
        . subst h;assumption
        . exact hnk p (by omega)⟩,[],by dsimp only;omega,rfl,⟨zB rfl,zG rfl,zB rfl,zF rfl,zD (zH rfl rfl),zB rfl,zF rfl,zB rfl,zB w5,trivial⟩,⟨⟨rfl,zE λj hj=>(qo.sh _ j hj).le⟩,⟨rfl,⟨rfl,rfl,rfl,rfl,λp hp j hj=>Zm hj rfl⟩⟩,⟨rfl,zA⟩,⟨rfl,zE (Zr ⟨zC rfl,zC rfl,zH rfl rfl⟩)⟩,trivial⟩⟩
   . repeat' (first | (apply And.intro<;>intro hc<;>(first | exact Bool.noConfusion hc | (exfalso;first | exact absurd rfl hc | omega) | (simp only [zl] at hc<;>first | exact absurd rfl hc | (exfalso;first | exact absurd rfl hc | omega) | skip) | skip)) | (refine And.intro zj ?_) | (apply And.intro) | (intro s hs;skip) | (refine Exists.intro _ (And.intro ⟨rfl,rfl,rfl⟩ ?_)))
     conv=>whnf
     exact ⟨⟨(),zBF λp hp=>hnk p (by omega)⟩,[],rfl,⟨zB rfl,zG rfl,zB rfl,zF rfl,zD (zH rfl rfl),zB rfl,zF rfl,trivial⟩,⟨⟨rfl,zE λj hj=>(qo.sh _ j hj).le⟩,⟨rfl,⟨rfl,rfl,rfl,rfl,λp hp j hj=>Zm hj rfl⟩⟩,⟨rfl,zA⟩,⟨rfl,zE (Zr ⟨zC rfl,zC rfl,zH rfl rfl⟩)⟩,trivial⟩⟩
 . rintro ⟨_,hno⟩;have hs1 : Qx s (c.num - 31) = ze s (c.num - 31):=QF hok;obtain ⟨s1,es1⟩ : ∃ s1,ze s (c.num - 31) = s1:=⟨_,rfl⟩;rw [es1] at hs1;have hok1 : SdOk s1:=by rw [<- es1];exact YG hok (by omega)
   have hk:=hok.k;have hmn:=hok.mn;have w31 : IntKind.i64.wrap (s.mn + 31) = s.mn + 31:=IntWalk.i64_in _ (by omega);have w32 : IntKind.i64.wrap (c.num - 31) = c.num - 31:=IntWalk.i64_in _ (by omega);unfold SLr;change Sem _ _ _ _ _ _ _ _;refine Zb (wd:=1) (by decide) zN (zb zy) (zV zy) zP (SBr L 5 s1 now c deaf draw) (by intro _;rfl) ?_ ?_
   . repeat' (first | (simp only [w31,w32]) | (apply And.intro<;>intro hc<;>(first | exact Bool.noConfusion hc | (exfalso;first | exact absurd rfl hc | omega) | (simp only [zl] at hc<;>first | exact absurd rfl hc | (exfalso;first | exact absurd rfl hc | omega) | skip) | skip)) | (refine And.intro zj ?_) | (apply And.intro) | (intro s hs;(have q:=YT hs (zAn rfl rfl (zT zd _)) hs1;clear hs;subst q)) | (refine Exists.intro _ (And.intro ⟨rfl,rfl,rfl⟩ ?_)))
     . exact ⟨rfl,rfl,λ_ _=>⟨rfl,ZG _⟩⟩
     . exact Eq.mpr (congrArg KpI (zT zd _)) hk
     . conv=>whnf
       exact ⟨(),[(2,some 14)],rfl,⟨zB rfl,zG rfl,zB rfl,zF rfl,zD (zH rfl rfl),zB rfl,zF rfl,trivial⟩,⟨⟨rfl,zE λj hj=>(qo.sh _ j hj).le⟩,⟨rfl,⟨rfl,rfl,rfl,rfl,λp hp j hj=>ql hj λh=>zc h⟩⟩,⟨rfl,zA⟩,⟨rfl,zE (Zr ⟨zC rfl,zC rfl,zH rfl rfl⟩)⟩,trivial⟩⟩
     . have e1 : s1 = s:=by rw [<- es1];exact if_pos (by omega)
       conv=>whnf
       exact ⟨(),[],rfl,⟨zB rfl,zG rfl,zB rfl,zF rfl,zD (zH rfl rfl),zB rfl,zF rfl,trivial⟩,⟨⟨rfl,zE λj hj=>(qo.sh _ j hj).le⟩,⟨rfl,⟨rfl,rfl,rfl,rfl,λp hp j hj=>ql hj λh=>zc h⟩⟩,⟨rfl,zR (by rw [e1])⟩,⟨rfl,zE (Zr ⟨zC (by rw [e1]),zC (by rw [e1]),zH rfl (by rw [e1])⟩)⟩,trivial⟩⟩
   . intro _;exact ht s1 es1 hok1 hmin hno (by rw [<- es1];unfold ze;split;exact hno;exact Qb hok.h hno)
theorem racc_6 (L : List Sed) (now : Int) (c : Cas) (deaf : Bool) (draw : Int) (hI : AcR L 6 now c draw) (R : List Sed × Bool × Int) (hR : R = (L.set 6 (ZX (L.getD 6 default) now c deaf draw).1,(ZX (L.getD 6 default) now c deaf draw).2,0))
 (ht : ∀ s1,ze (L.getD 6 default) (c.num - 31) = s1 -> SdOk s1 -> ¬ c.num < (L.getD 6 default).mn -> (ZM c.num (L.getD 6 default).held 0).2 = false -> (ZM c.num s1.held 0).2 = false -> Sem Try.prog Try.f39.ntmps 0 (Zc 11 (Try.f39.body.getD Code.ret)) (SBr L 6 s1 now c deaf draw ()).fr (SBr L 6 s1 now c deaf draw ()).H (SBr L 6 s1 now c deaf draw ()).nx (qQ T Try.f39.results.toList λx H _=>FinN (some R.1.length) (Zz R) (Zj ZB 78 R.1) x H)) :
 Sem Try.prog Try.f39.ntmps 0 (Zc 6 (Try.f39.body.getD Code.ret)) (SAr L 6 now c deaf draw ()).fr (SAr L 6 now c deaf draw ()).H (SAr L 6 now c deaf draw ()).nx (qQ T Try.f39.results.toList λx H _=>FinN (some R.1.length) (Zz R) (Zj ZB 78 R.1) x H):=by
 obtain ⟨hlt,hn9,hok,hnum,hd,hnow,hdr,hf⟩:=hI;obtain ⟨s,es⟩ : ∃ s,L.getD 6 default = s:=⟨_,rfl⟩;rw [es] at hok hR ht;have hset : L.set 6 s = L:=by rw [<- es];exact ZH hlt
 unfold SAr;rw [es];refine zK (wd:=1) (by decide) zN (zb zy) zP ?_;repeat' (first | (apply And.intro<;>intro hc<;>(first | exact Bool.noConfusion hc | (exfalso;first | exact absurd rfl hc | omega) | (simp only [zl] at hc<;>first | exact absurd rfl hc | (exfalso;first | exact absurd rfl hc | omega) | skip) | skip)) | (refine And.intro zj ?_) | (apply And.intro) | (intro s hs;(have q:=YO hs (Yk es.symm rfl) hf;clear hs;subst q)) | (refine Exists.intro _ (And.intro ⟨rfl,rfl,rfl⟩ ?_)))
 . exact Yl
 . show (Ys neI L.length λk j=>QO 2 s 6 L (0 + k) j).length <= 9223372036854775807;rw [QW];omega
 refine zK (wd:=1) (by decide) zN (zb zy) zP ?_;repeat' (first | (apply And.intro<;>intro hc<;>(first | exact Bool.noConfusion hc | (exfalso;first | exact absurd rfl hc | omega) | (simp only [zl] at hc<;>first | exact absurd rfl hc | (exfalso;first | exact absurd rfl hc | omega) | skip) | skip)) | (refine And.intro zj ?_) | (apply And.intro) | (intro s hs;skip) | (refine Exists.intro _ (And.intro ⟨rfl,rfl,rfl⟩ ?_)))
 refine zK (wd:=1) (by decide) zN (zb zy) zP ?_;repeat' (first | (apply And.intro<;>intro hc<;>(first | exact Bool.noConfusion hc | (exfalso;first | exact absurd rfl hc | omega) | (simp only [zl] at hc<;>first | exact absurd rfl hc | (exfalso;first | exact absurd rfl hc | omega) | skip) | skip)) | (refine And.intro zj ?_) | (apply And.intro) | (intro s hs;skip) | (refine Exists.intro _ (And.intro ⟨rfl,rfl,rfl⟩ ?_)))
 . have hRe : R = (L,false,0):=by
    rw [hR];unfold ZX;rw [if_pos ‹_›,hset]
   refine ZC (s:=s) (d:=2) (hRe.trans (by rw [hset])) hlt rfl (λp h j=>zc h) rfl rfl rfl rfl rfl rfl rfl λq hq j hj=>(zm.sh _ j hj).le
 have hmin : ¬ c.num < s.mn:=by assumption
 change Sem _ _ _ _ _ _ _ _;refine Zb (wd:=1) (by decide) zN (zb zy) (zV zy) zP (λ_ : {u : Unit // (ZM c.num s.held 0).2 = false}=>SLr L 6 s now c deaf draw) (by intro _;rfl) ?_ ?_
 . repeat' (first | (apply And.intro<;>intro hc<;>(first | exact Bool.noConfusion hc | (exfalso;first | exact absurd rfl hc | omega) | (simp only [zl] at hc<;>first | exact absurd rfl hc | (exfalso;first | exact absurd rfl hc | omega) | skip) | skip)) | (refine And.intro zj ?_) | (apply And.intro) | (intro s hs;skip) | (refine Exists.intro _ (And.intro ⟨rfl,rfl,rfl⟩ ?_)))
   conv=>whnf
   refine zU (zV zy) (λu : {k : Nat // k <= s.held.length /\ ∀ p,p < k -> (s.held.getD p default).num ≠ c.num}=>(⟨[(1,zL (.int .i64 now)),(3,zL (.bool deaf)),(4,zL (.int .u32 draw)),(7,zL (.ptr 0 0 0 false)),(13,zL (.os 1 0 L.length)),(18,zL (.int .i64 ((6 : Nat) : Int))),(19,zL (.ptr 3 0 0 false)),(127,zL (.int .i64 (s.held.length : Int))),(128,zL (.int .i64 (u.1 : Int)))],[(0,some ⟨32,1,3,true,λ_=>qo.cell c⟩),(1,some ⟨78,L.length,3,false,QO 2 s 6 L⟩),(2,some (Zj zm 85 s.held)),(3,some ⟨78,1,3,true,λ_=>sdO 2 s⟩)],4⟩ : Hd)) (λu=>s.held.length - u.1) (λ_=>rfl) ?_ ⟨0,Nat.zero_le _,λp hp=>absurd hp (Nat.not_lt_zero p)⟩ [(3,some 12)] ⟨rfl,⟨zB rfl,zG rfl,zB rfl,zF rfl,zD (zH rfl rfl),zB rfl,zF rfl,zB rfl,zB rfl,trivial⟩,⟨⟨rfl,zE λj hj=>(qo.sh _ j hj).le⟩,⟨rfl,⟨rfl,rfl,rfl,rfl,λp hp j hj=>Zm hj rfl⟩⟩,⟨rfl,zA⟩,⟨rfl,zE (Zr ⟨zC rfl,zC rfl,zH rfl rfl⟩)⟩,trivial⟩⟩;rintro ⟨k,hk,hnk⟩;dsimp only at hk hnk ⊢;have hn32:=hok.n;by_cases hkl : k < s.held.length
   . have w5 : IntKind.i64.wrap ((k : Int) + 1) = ((k + 1 : Nat) : Int):=(IntWalk.i64_in _ (by omega)).trans (by omega);have z0 : 0 + (k : Int).toNat = k:=Nat.zero_add k;obtain ⟨T,eT⟩ : ∃ T,Qq (s.held.getD k default).tm = T:=⟨_,rfl⟩;repeat' (first | (simp only [z0]) | (apply And.intro<;>intro hc<;>(first | exact Bool.noConfusion hc | (exfalso;first | exact absurd rfl hc | omega) | (simp only [zl] at hc<;>first | exact absurd rfl hc | (exfalso;first | exact absurd rfl hc | omega) | skip) | skip)) | (refine And.intro zj ?_) | (apply And.intro) | (intro s hs;(have q : T = s:=eT.symm.trans hs.symm;clear hs;subst q)) | (refine Exists.intro _ (And.intro ⟨rfl,rfl,rfl⟩ ?_)))
     . have hpl:=zBE hok.h hkl ‹_›;have hRe : R = (L.set 6 (ZO s k),false,0):=by
        rw [hR];unfold ZX;rw [if_neg hmin,hpl,if_pos rfl]
       have hhe : ZO s k = ⟨s.id,s.mn,s.held.set k { s.held.getD k default with tm:=T }⟩:=by unfold ZO;rw [eT]
       have hLh : (ZO s k).held.length = s.held.length:=List.length_set;conv=>whnf
       refine ZC (s:=ZO s k) (d:=2) hRe hlt rfl (λp h j=>zc h) rfl rfl (by rw [hLh];rfl) rfl rfl hLh.symm rfl λq hq j hj=>?_;rw [hhe];exact (Ym hkl (λj hj=>(Elem.flat _ _ _).le)).2 q (by rw [List.length_set,<- hLh];exact hq) j hj
     . conv=>whnf
       exact ⟨⟨k + 1,hkl,λp hp=>by
        by_cases h : p = k
        . subst h;assumption
        . exact hnk p (by omega)⟩,[],by dsimp only;omega,rfl,⟨zB rfl,zG rfl,zB rfl,zF rfl,zD (zH rfl rfl),zB rfl,zF rfl,zB rfl,zB w5,trivial⟩,⟨⟨rfl,zE λj hj=>(qo.sh _ j hj).le⟩,⟨rfl,⟨rfl,rfl,rfl,rfl,λp hp j hj=>Zm hj rfl⟩⟩,⟨rfl,zA⟩,⟨rfl,zE (Zr ⟨zC rfl,zC rfl,zH rfl rfl⟩)⟩,trivial⟩⟩
   . repeat' (first | (apply And.intro<;>intro hc<;>(first | exact Bool.noConfusion hc | (exfalso;first | exact absurd rfl hc | omega) | (simp only [zl] at hc<;>first | exact absurd rfl hc | (exfalso;first | exact absurd rfl hc | omega) | skip) | skip)) | (refine And.intro zj ?_) | (apply And.intro) | (intro s hs;skip) | (refine Exists.intro _ (And.intro ⟨rfl,rfl,rfl⟩ ?_)))
     conv=>whnf
     exact ⟨⟨(),zBF λp hp=>hnk p (by omega)⟩,[],rfl,⟨zB rfl,zG rfl,zB rfl,zF rfl,zD (zH rfl rfl),zB rfl,zF rfl,trivial⟩,⟨⟨rfl,zE λj hj=>(qo.sh _ j hj).le⟩,⟨rfl,⟨rfl,rfl,rfl,rfl,λp hp j hj=>Zm hj rfl⟩⟩,⟨rfl,zA⟩,⟨rfl,zE (Zr ⟨zC rfl,zC rfl,zH rfl rfl⟩)⟩,trivial⟩⟩
 . rintro ⟨_,hno⟩;have hs1 : Qx s (c.num - 31) = ze s (c.num - 31):=QF hok;obtain ⟨s1,es1⟩ : ∃ s1,ze s (c.num - 31) = s1:=⟨_,rfl⟩;rw [es1] at hs1;have hok1 : SdOk s1:=by rw [<- es1];exact YG hok (by omega)
   have hk:=hok.k;have hmn:=hok.mn;have w31 : IntKind.i64.wrap (s.mn + 31) = s.mn + 31:=IntWalk.i64_in _ (by omega);have w32 : IntKind.i64.wrap (c.num - 31) = c.num - 31:=IntWalk.i64_in _ (by omega);unfold SLr;change Sem _ _ _ _ _ _ _ _;refine Zb (wd:=1) (by decide) zN (zb zy) (zV zy) zP (SBr L 6 s1 now c deaf draw) (by intro _;rfl) ?_ ?_
   . repeat' (first | (simp only [w31,w32]) | (apply And.intro<;>intro hc<;>(first | exact Bool.noConfusion hc | (exfalso;first | exact absurd rfl hc | omega) | (simp only [zl] at hc<;>first | exact absurd rfl hc | (exfalso;first | exact absurd rfl hc | omega) | skip) | skip)) | (refine And.intro zj ?_) | (apply And.intro) | (intro s hs;(have q:=YT hs (zAn rfl rfl (zT zd _)) hs1;clear hs;subst q)) | (refine Exists.intro _ (And.intro ⟨rfl,rfl,rfl⟩ ?_)))
     . exact ⟨rfl,rfl,λ_ _=>⟨rfl,ZG _⟩⟩
     . exact Eq.mpr (congrArg KpI (zT zd _)) hk
     . conv=>whnf
       exact ⟨(),[(2,some 14)],rfl,⟨zB rfl,zG rfl,zB rfl,zF rfl,zD (zH rfl rfl),zB rfl,zF rfl,trivial⟩,⟨⟨rfl,zE λj hj=>(qo.sh _ j hj).le⟩,⟨rfl,⟨rfl,rfl,rfl,rfl,λp hp j hj=>ql hj λh=>zc h⟩⟩,⟨rfl,zA⟩,⟨rfl,zE (Zr ⟨zC rfl,zC rfl,zH rfl rfl⟩)⟩,trivial⟩⟩
     . have e1 : s1 = s:=by rw [<- es1];exact if_pos (by omega)
       conv=>whnf
       exact ⟨(),[],rfl,⟨zB rfl,zG rfl,zB rfl,zF rfl,zD (zH rfl rfl),zB rfl,zF rfl,trivial⟩,⟨⟨rfl,zE λj hj=>(qo.sh _ j hj).le⟩,⟨rfl,⟨rfl,rfl,rfl,rfl,λp hp j hj=>ql hj λh=>zc h⟩⟩,⟨rfl,zR (by rw [e1])⟩,⟨rfl,zE (Zr ⟨zC (by rw [e1]),zC (by rw [e1]),zH rfl (by rw [e1])⟩)⟩,trivial⟩⟩
   . intro _;exact ht s1 es1 hok1 hmin hno (by rw [<- es1];unfold ze;split;exact hno;exact Qb hok.h hno)
theorem racc_7 (L : List Sed) (now : Int) (c : Cas) (deaf : Bool) (draw : Int) (hI : AcR L 7 now c draw) (R : List Sed × Bool × Int) (hR : R = (L.set 7 (ZX (L.getD 7 default) now c deaf draw).1,(ZX (L.getD 7 default) now c deaf draw).2,0))
 (ht : ∀ s1,ze (L.getD 7 default) (c.num - 31) = s1 -> SdOk s1 -> ¬ c.num < (L.getD 7 default).mn -> (ZM c.num (L.getD 7 default).held 0).2 = false -> (ZM c.num s1.held 0).2 = false -> Sem Try.prog Try.f39.ntmps 0 (Zc 11 (Try.f39.body.getD Code.ret)) (SBr L 7 s1 now c deaf draw ()).fr (SBr L 7 s1 now c deaf draw ()).H (SBr L 7 s1 now c deaf draw ()).nx (qQ T Try.f39.results.toList λx H _=>FinN (some R.1.length) (Zz R) (Zj ZB 78 R.1) x H)) :
 Sem Try.prog Try.f39.ntmps 0 (Zc 6 (Try.f39.body.getD Code.ret)) (SAr L 7 now c deaf draw ()).fr (SAr L 7 now c deaf draw ()).H (SAr L 7 now c deaf draw ()).nx (qQ T Try.f39.results.toList λx H _=>FinN (some R.1.length) (Zz R) (Zj ZB 78 R.1) x H):=by
 obtain ⟨hlt,hn9,hok,hnum,hd,hnow,hdr,hf⟩:=hI;obtain ⟨s,es⟩ : ∃ s,L.getD 7 default = s:=⟨_,rfl⟩;rw [es] at hok hR ht;have hset : L.set 7 s = L:=by rw [<- es];exact ZH hlt
 unfold SAr;rw [es];refine zK (wd:=1) (by decide) zN (zb zy) zP ?_;repeat' (first | (apply And.intro<;>intro hc<;>(first | exact Bool.noConfusion hc | (exfalso;first | exact absurd rfl hc | omega) | (simp only [zl] at hc<;>first | exact absurd rfl hc | (exfalso;first | exact absurd rfl hc | omega) | skip) | skip)) | (refine And.intro zj ?_) | (apply And.intro) | (intro s hs;(have q:=YO hs (Yk es.symm rfl) hf;clear hs;subst q)) | (refine Exists.intro _ (And.intro ⟨rfl,rfl,rfl⟩ ?_)))
 . exact Yl
 . show (Ys neI L.length λk j=>QO 2 s 7 L (0 + k) j).length <= 9223372036854775807;rw [QW];omega
 refine zK (wd:=1) (by decide) zN (zb zy) zP ?_;repeat' (first | (apply And.intro<;>intro hc<;>(first | exact Bool.noConfusion hc | (exfalso;first | exact absurd rfl hc | omega) | (simp only [zl] at hc<;>first | exact absurd rfl hc | (exfalso;first | exact absurd rfl hc | omega) | skip) | skip)) | (refine And.intro zj ?_) | (apply And.intro) | (intro s hs;skip) | (refine Exists.intro _ (And.intro ⟨rfl,rfl,rfl⟩ ?_)))
 refine zK (wd:=1) (by decide) zN (zb zy) zP ?_;repeat' (first | (apply And.intro<;>intro hc<;>(first | exact Bool.noConfusion hc | (exfalso;first | exact absurd rfl hc | omega) | (simp only [zl] at hc<;>first | exact absurd rfl hc | (exfalso;first | exact absurd rfl hc | omega) | skip) | skip)) | (refine And.intro zj ?_) | (apply And.intro) | (intro s hs;skip) | (refine Exists.intro _ (And.intro ⟨rfl,rfl,rfl⟩ ?_)))
 . have hRe : R = (L,false,0):=by
    rw [hR];unfold ZX;rw [if_pos ‹_›,hset]
   refine ZC (s:=s) (d:=2) (hRe.trans (by rw [hset])) hlt rfl (λp h j=>zc h) rfl rfl rfl rfl rfl rfl rfl λq hq j hj=>(zm.sh _ j hj).le
 have hmin : ¬ c.num < s.mn:=by assumption
 change Sem _ _ _ _ _ _ _ _;refine Zb (wd:=1) (by decide) zN (zb zy) (zV zy) zP (λ_ : {u : Unit // (ZM c.num s.held 0).2 = false}=>SLr L 7 s now c deaf draw) (by intro _;rfl) ?_ ?_
 . repeat' (first | (apply And.intro<;>intro hc<;>(first | exact Bool.noConfusion hc | (exfalso;first | exact absurd rfl hc | omega) | (simp only [zl] at hc<;>first | exact absurd rfl hc | (exfalso;first | exact absurd rfl hc | omega) | skip) | skip)) | (refine And.intro zj ?_) | (apply And.intro) | (intro s hs;skip) | (refine Exists.intro _ (And.intro ⟨rfl,rfl,rfl⟩ ?_)))
   conv=>whnf
   refine zU (zV zy) (λu : {k : Nat // k <= s.held.length /\ ∀ p,p < k -> (s.held.getD p default).num ≠ c.num}=>(⟨[(1,zL (.int .i64 now)),(3,zL (.bool deaf)),(4,zL (.int .u32 draw)),(7,zL (.ptr 0 0 0 false)),(13,zL (.os 1 0 L.length)),(18,zL (.int .i64 ((7 : Nat) : Int))),(19,zL (.ptr 3 0 0 false)),(127,zL (.int .i64 (s.held.length : Int))),(128,zL (.int .i64 (u.1 : Int)))],[(0,some ⟨32,1,3,true,λ_=>qo.cell c⟩),(1,some ⟨78,L.length,3,false,QO 2 s 7 L⟩),(2,some (Zj zm 85 s.held)),(3,some ⟨78,1,3,true,λ_=>sdO 2 s⟩)],4⟩ : Hd)) (λu=>s.held.length - u.1) (λ_=>rfl) ?_ ⟨0,Nat.zero_le _,λp hp=>absurd hp (Nat.not_lt_zero p)⟩ [(3,some 12)] ⟨rfl,⟨zB rfl,zG rfl,zB rfl,zF rfl,zD (zH rfl rfl),zB rfl,zF rfl,zB rfl,zB rfl,trivial⟩,⟨⟨rfl,zE λj hj=>(qo.sh _ j hj).le⟩,⟨rfl,⟨rfl,rfl,rfl,rfl,λp hp j hj=>Zm hj rfl⟩⟩,⟨rfl,zA⟩,⟨rfl,zE (Zr ⟨zC rfl,zC rfl,zH rfl rfl⟩)⟩,trivial⟩⟩;rintro ⟨k,hk,hnk⟩;dsimp only at hk hnk ⊢;have hn32:=hok.n;by_cases hkl : k < s.held.length
   . have w5 : IntKind.i64.wrap ((k : Int) + 1) = ((k + 1 : Nat) : Int):=(IntWalk.i64_in _ (by omega)).trans (by omega);have z0 : 0 + (k : Int).toNat = k:=Nat.zero_add k;obtain ⟨T,eT⟩ : ∃ T,Qq (s.held.getD k default).tm = T:=⟨_,rfl⟩;repeat' (first | (simp only [z0]) | (apply And.intro<;>intro hc<;>(first | exact Bool.noConfusion hc | (exfalso;first | exact absurd rfl hc | omega) | (simp only [zl] at hc<;>first | exact absurd rfl hc | (exfalso;first | exact absurd rfl hc | omega) | skip) | skip)) | (refine And.intro zj ?_) | (apply And.intro) | (intro s hs;(have q : T = s:=eT.symm.trans hs.symm;clear hs;subst q)) | (refine Exists.intro _ (And.intro ⟨rfl,rfl,rfl⟩ ?_)))
     . have hpl:=zBE hok.h hkl ‹_›;have hRe : R = (L.set 7 (ZO s k),false,0):=by
        rw [hR];unfold ZX;rw [if_neg hmin,hpl,if_pos rfl]
       have hhe : ZO s k = ⟨s.id,s.mn,s.held.set k { s.held.getD k default with tm:=T }⟩:=by unfold ZO;rw [eT]
       have hLh : (ZO s k).held.length = s.held.length:=List.length_set;conv=>whnf
       refine ZC (s:=ZO s k) (d:=2) hRe hlt rfl (λp h j=>zc h) rfl rfl (by rw [hLh];rfl) rfl rfl hLh.symm rfl λq hq j hj=>?_;rw [hhe];exact (Ym hkl (λj hj=>(Elem.flat _ _ _).le)).2 q (by rw [List.length_set,<- hLh];exact hq) j hj
     . conv=>whnf
       exact ⟨⟨k + 1,hkl,λp hp=>by
        by_cases h : p = k
        . subst h;assumption
        . exact hnk p (by omega)⟩,[],by dsimp only;omega,rfl,⟨zB rfl,zG rfl,zB rfl,zF rfl,zD (zH rfl rfl),zB rfl,zF rfl,zB rfl,zB w5,trivial⟩,⟨⟨rfl,zE λj hj=>(qo.sh _ j hj).le⟩,⟨rfl,⟨rfl,rfl,rfl,rfl,λp hp j hj=>Zm hj rfl⟩⟩,⟨rfl,zA⟩,⟨rfl,zE (Zr ⟨zC rfl,zC rfl,zH rfl rfl⟩)⟩,trivial⟩⟩
   . repeat' (first | (apply And.intro<;>intro hc<;>(first | exact Bool.noConfusion hc | (exfalso;first | exact absurd rfl hc | omega) | (simp only [zl] at hc<;>first | exact absurd rfl hc | (exfalso;first | exact absurd rfl hc | omega) | skip) | skip)) | (refine And.intro zj ?_) | (apply And.intro) | (intro s hs;skip) | (refine Exists.intro _ (And.intro ⟨rfl,rfl,rfl⟩ ?_)))
     conv=>whnf
     exact ⟨⟨(),zBF λp hp=>hnk p (by omega)⟩,[],rfl,⟨zB rfl,zG rfl,zB rfl,zF rfl,zD (zH rfl rfl),zB rfl,zF rfl,trivial⟩,⟨⟨rfl,zE λj hj=>(qo.sh _ j hj).le⟩,⟨rfl,⟨rfl,rfl,rfl,rfl,λp hp j hj=>Zm hj rfl⟩⟩,⟨rfl,zA⟩,⟨rfl,zE (Zr ⟨zC rfl,zC rfl,zH rfl rfl⟩)⟩,trivial⟩⟩
 . rintro ⟨_,hno⟩;have hs1 : Qx s (c.num - 31) = ze s (c.num - 31):=QF hok;obtain ⟨s1,es1⟩ : ∃ s1,ze s (c.num - 31) = s1:=⟨_,rfl⟩;rw [es1] at hs1;have hok1 : SdOk s1:=by rw [<- es1];exact YG hok (by omega)
   have hk:=hok.k;have hmn:=hok.mn;have w31 : IntKind.i64.wrap (s.mn + 31) = s.mn + 31:=IntWalk.i64_in _ (by omega);have w32 : IntKind.i64.wrap (c.num - 31) = c.num - 31:=IntWalk.i64_in _ (by omega);unfold SLr;change Sem _ _ _ _ _ _ _ _;refine Zb (wd:=1) (by decide) zN (zb zy) (zV zy) zP (SBr L 7 s1 now c deaf draw) (by intro _;rfl) ?_ ?_
   . repeat' (first | (simp only [w31,w32]) | (apply And.intro<;>intro hc<;>(first | exact Bool.noConfusion hc | (exfalso;first | exact absurd rfl hc | omega) | (simp only [zl] at hc<;>first | exact absurd rfl hc | (exfalso;first | exact absurd rfl hc | omega) | skip) | skip)) | (refine And.intro zj ?_) | (apply And.intro) | (intro s hs;(have q:=YT hs (zAn rfl rfl (zT zd _)) hs1;clear hs;subst q)) | (refine Exists.intro _ (And.intro ⟨rfl,rfl,rfl⟩ ?_)))
     . exact ⟨rfl,rfl,λ_ _=>⟨rfl,ZG _⟩⟩
     . exact Eq.mpr (congrArg KpI (zT zd _)) hk
     . conv=>whnf
       exact ⟨(),[(2,some 14)],rfl,⟨zB rfl,zG rfl,zB rfl,zF rfl,zD (zH rfl rfl),zB rfl,zF rfl,trivial⟩,⟨⟨rfl,zE λj hj=>(qo.sh _ j hj).le⟩,⟨rfl,⟨rfl,rfl,rfl,rfl,λp hp j hj=>ql hj λh=>zc h⟩⟩,⟨rfl,zA⟩,⟨rfl,zE (Zr ⟨zC rfl,zC rfl,zH rfl rfl⟩)⟩,trivial⟩⟩
     . have e1 : s1 = s:=by rw [<- es1];exact if_pos (by omega)
       conv=>whnf
       exact ⟨(),[],rfl,⟨zB rfl,zG rfl,zB rfl,zF rfl,zD (zH rfl rfl),zB rfl,zF rfl,trivial⟩,⟨⟨rfl,zE λj hj=>(qo.sh _ j hj).le⟩,⟨rfl,⟨rfl,rfl,rfl,rfl,λp hp j hj=>ql hj λh=>zc h⟩⟩,⟨rfl,zR (by rw [e1])⟩,⟨rfl,zE (Zr ⟨zC (by rw [e1]),zC (by rw [e1]),zH rfl (by rw [e1])⟩)⟩,trivial⟩⟩
   . intro _;exact ht s1 es1 hok1 hmin hno (by rw [<- es1];unfold ze;split;exact hno;exact Qb hok.h hno)
theorem racc_8 (L : List Sed) (now : Int) (c : Cas) (deaf : Bool) (draw : Int) (hI : AcR L 8 now c draw) (R : List Sed × Bool × Int) (hR : R = (L.set 8 (ZX (L.getD 8 default) now c deaf draw).1,(ZX (L.getD 8 default) now c deaf draw).2,0))
 (ht : ∀ s1,ze (L.getD 8 default) (c.num - 31) = s1 -> SdOk s1 -> ¬ c.num < (L.getD 8 default).mn -> (ZM c.num (L.getD 8 default).held 0).2 = false -> (ZM c.num s1.held 0).2 = false -> Sem Try.prog Try.f39.ntmps 0 (Zc 11 (Try.f39.body.getD Code.ret)) (SBr L 8 s1 now c deaf draw ()).fr (SBr L 8 s1 now c deaf draw ()).H (SBr L 8 s1 now c deaf draw ()).nx (qQ T Try.f39.results.toList λx H _=>FinN (some R.1.length) (Zz R) (Zj ZB 78 R.1) x H)) :
 Sem Try.prog Try.f39.ntmps 0 (Zc 6 (Try.f39.body.getD Code.ret)) (SAr L 8 now c deaf draw ()).fr (SAr L 8 now c deaf draw ()).H (SAr L 8 now c deaf draw ()).nx (qQ T Try.f39.results.toList λx H _=>FinN (some R.1.length) (Zz R) (Zj ZB 78 R.1) x H):=by
 obtain ⟨hlt,hn9,hok,hnum,hd,hnow,hdr,hf⟩:=hI;obtain ⟨s,es⟩ : ∃ s,L.getD 8 default = s:=⟨_,rfl⟩;rw [es] at hok hR ht;have hset : L.set 8 s = L:=by rw [<- es];exact ZH hlt
 unfold SAr;rw [es];refine zK (wd:=1) (by decide) zN (zb zy) zP ?_;repeat' (first | (apply And.intro<;>intro hc<;>(first | exact Bool.noConfusion hc | (exfalso;first | exact absurd rfl hc | omega) | (simp only [zl] at hc<;>first | exact absurd rfl hc | (exfalso;first | exact absurd rfl hc | omega) | skip) | skip)) | (refine And.intro zj ?_) | (apply And.intro) | (intro s hs;(have q:=YO hs (Yk es.symm rfl) hf;clear hs;subst q)) | (refine Exists.intro _ (And.intro ⟨rfl,rfl,rfl⟩ ?_)))
 . exact Yl
 . show (Ys neI L.length λk j=>QO 2 s 8 L (0 + k) j).length <= 9223372036854775807;rw [QW];omega
 refine zK (wd:=1) (by decide) zN (zb zy) zP ?_;repeat' (first | (apply And.intro<;>intro hc<;>(first | exact Bool.noConfusion hc | (exfalso;first | exact absurd rfl hc | omega) | (simp only [zl] at hc<;>first | exact absurd rfl hc | (exfalso;first | exact absurd rfl hc | omega) | skip) | skip)) | (refine And.intro zj ?_) | (apply And.intro) | (intro s hs;skip) | (refine Exists.intro _ (And.intro ⟨rfl,rfl,rfl⟩ ?_)))
 refine zK (wd:=1) (by decide) zN (zb zy) zP ?_;repeat' (first | (apply And.intro<;>intro hc<;>(first | exact Bool.noConfusion hc | (exfalso;first | exact absurd rfl hc | omega) | (simp only [zl] at hc<;>first | exact absurd rfl hc | (exfalso;first | exact absurd rfl hc | omega) | skip) | skip)) | (refine And.intro zj ?_) | (apply And.intro) | (intro s hs;skip) | (refine Exists.intro _ (And.intro ⟨rfl,rfl,rfl⟩ ?_)))
 . have hRe : R = (L,false,0):=by
    rw [hR];unfold ZX;rw [if_pos ‹_›,hset]
   refine ZC (s:=s) (d:=2) (hRe.trans (by rw [hset])) hlt rfl (λp h j=>zc h) rfl rfl rfl rfl rfl rfl rfl λq hq j hj=>(zm.sh _ j hj).le
 have hmin : ¬ c.num < s.mn:=by assumption
 change Sem _ _ _ _ _ _ _ _;refine Zb (wd:=1) (by decide) zN (zb zy) (zV zy) zP (λ_ : {u : Unit // (ZM c.num s.held 0).2 = false}=>SLr L 8 s now c deaf draw) (by intro _;rfl) ?_ ?_
 . repeat' (first | (apply And.intro<;>intro hc<;>(first | exact Bool.noConfusion hc | (exfalso;first | exact absurd rfl hc | omega) | (simp only [zl] at hc<;>first | exact absurd rfl hc | (exfalso;first | exact absurd rfl hc | omega) | skip) | skip)) | (refine And.intro zj ?_) | (apply And.intro) | (intro s hs;skip) | (refine Exists.intro _ (And.intro ⟨rfl,rfl,rfl⟩ ?_)))
   conv=>whnf
   refine zU (zV zy) (λu : {k : Nat // k <= s.held.length /\ ∀ p,p < k -> (s.held.getD p default).num ≠ c.num}=>(⟨[(1,zL (.int .i64 now)),(3,zL (.bool deaf)),(4,zL (.int .u32 draw)),(7,zL (.ptr 0 0 0 false)),(13,zL (.os 1 0 L.length)),(18,zL (.int .i64 ((8 : Nat) : Int))),(19,zL (.ptr 3 0 0 false)),(127,zL (.int .i64 (s.held.length : Int))),(128,zL (.int .i64 (u.1 : Int)))],[(0,some ⟨32,1,3,true,λ_=>qo.cell c⟩),(1,some ⟨78,L.length,3,false,QO 2 s 8 L⟩),(2,some (Zj zm 85 s.held)),(3,some ⟨78,1,3,true,λ_=>sdO 2 s⟩)],4⟩ : Hd)) (λu=>s.held.length - u.1) (λ_=>rfl) ?_ ⟨0,Nat.zero_le _,λp hp=>absurd hp (Nat.not_lt_zero p)⟩ [(3,some 12)] ⟨rfl,⟨zB rfl,zG rfl,zB rfl,zF rfl,zD (zH rfl rfl),zB rfl,zF rfl,zB rfl,zB rfl,trivial⟩,⟨⟨rfl,zE λj hj=>(qo.sh _ j hj).le⟩,⟨rfl,⟨rfl,rfl,rfl,rfl,λp hp j hj=>Zm hj rfl⟩⟩,⟨rfl,zA⟩,⟨rfl,zE (Zr ⟨zC rfl,zC rfl,zH rfl rfl⟩)⟩,trivial⟩⟩;rintro ⟨k,hk,hnk⟩;dsimp only at hk hnk ⊢;have hn32:=hok.n;by_cases hkl : k < s.held.length
   . have w5 : IntKind.i64.wrap ((k : Int) + 1) = ((k + 1 : Nat) : Int):=(IntWalk.i64_in _ (by omega)).trans (by omega);have z0 : 0 + (k : Int).toNat = k:=Nat.zero_add k;obtain ⟨T,eT⟩ : ∃ T,Qq (s.held.getD k default).tm = T:=⟨_,rfl⟩;repeat' (first | (simp only [z0]) | (apply And.intro<;>intro hc<;>(first | exact Bool.noConfusion hc | (exfalso;first | exact absurd rfl hc | omega) | (simp only [zl] at hc<;>first | exact absurd rfl hc | (exfalso;first | exact absurd rfl hc | omega) | skip) | skip)) | (refine And.intro zj ?_) | (apply And.intro) | (intro s hs;(have q : T = s:=eT.symm.trans hs.symm;clear hs;subst q)) | (refine Exists.intro _ (And.intro ⟨rfl,rfl,rfl⟩ ?_)))
     . have hpl:=zBE hok.h hkl ‹_›;have hRe : R = (L.set 8 (ZO s k),false,0):=by
        rw [hR];unfold ZX;rw [if_neg hmin,hpl,if_pos rfl]
       have hhe : ZO s k = ⟨s.id,s.mn,s.held.set k { s.held.getD k default with tm:=T }⟩:=by unfold ZO;rw [eT]
       have hLh : (ZO s k).held.length = s.held.length:=List.length_set;conv=>whnf
       refine ZC (s:=ZO s k) (d:=2) hRe hlt rfl (λp h j=>zc h) rfl rfl (by rw [hLh];rfl) rfl rfl hLh.symm rfl λq hq j hj=>?_;rw [hhe];exact (Ym hkl (λj hj=>(Elem.flat _ _ _).le)).2 q (by rw [List.length_set,<- hLh];exact hq) j hj
     . conv=>whnf
       exact ⟨⟨k + 1,hkl,λp hp=>by
        by_cases h : p = k
        . subst h;assumption
        . exact hnk p (by omega)⟩,[],by dsimp only;omega,rfl,⟨zB rfl,zG rfl,zB rfl,zF rfl,zD (zH rfl rfl),zB rfl,zF rfl,zB rfl,zB w5,trivial⟩,⟨⟨rfl,zE λj hj=>(qo.sh _ j hj).le⟩,⟨rfl,⟨rfl,rfl,rfl,rfl,λp hp j hj=>Zm hj rfl⟩⟩,⟨rfl,zA⟩,⟨rfl,zE (Zr ⟨zC rfl,zC rfl,zH rfl rfl⟩)⟩,trivial⟩⟩
   . repeat' (first | (apply And.intro<;>intro hc<;>(first | exact Bool.noConfusion hc | (exfalso;first | exact absurd rfl hc | omega) | (simp only [zl] at hc<;>first | exact absurd rfl hc | (exfalso;first | exact absurd rfl hc | omega) | skip) | skip)) | (refine And.intro zj ?_) | (apply And.intro) | (intro s hs;skip) | (refine Exists.intro _ (And.intro ⟨rfl,rfl,rfl⟩ ?_)))
     conv=>whnf
     exact ⟨⟨(),zBF λp hp=>hnk p (by omega)⟩,[],rfl,⟨zB rfl,zG rfl,zB rfl,zF rfl,zD (zH rfl rfl),zB rfl,zF rfl,trivial⟩,⟨⟨rfl,zE λj hj=>(qo.sh _ j hj).le⟩,⟨rfl,⟨rfl,rfl,rfl,rfl,λp hp j hj=>Zm hj rfl⟩⟩,⟨rfl,zA⟩,⟨rfl,zE (Zr ⟨zC rfl,zC rfl,zH rfl rfl⟩)⟩,trivial⟩⟩
 . rintro ⟨_,hno⟩;have hs1 : Qx s (c.num - 31) = ze s (c.num - 31):=QF hok;obtain ⟨s1,es1⟩ : ∃ s1,ze s (c.num - 31) = s1:=⟨_,rfl⟩;rw [es1] at hs1;have hok1 : SdOk s1:=by rw [<- es1];exact YG hok (by omega)
   have hk:=hok.k;have hmn:=hok.mn;have w31 : IntKind.i64.wrap (s.mn + 31) = s.mn + 31:=IntWalk.i64_in _ (by omega);have w32 : IntKind.i64.wrap (c.num - 31) = c.num - 31:=IntWalk.i64_in _ (by omega);unfold SLr;change Sem _ _ _ _ _ _ _ _;refine Zb (wd:=1) (by decide) zN (zb zy) (zV zy) zP (SBr L 8 s1 now c deaf draw) (by intro _;rfl) ?_ ?_
   . repeat' (first | (simp only [w31,w32]) | (apply And.intro<;>intro hc<;>(first | exact Bool.noConfusion hc | (exfalso;first | exact absurd rfl hc | omega) | (simp only [zl] at hc<;>first | exact absurd rfl hc | (exfalso;first | exact absurd rfl hc | omega) | skip) | skip)) | (refine And.intro zj ?_) | (apply And.intro) | (intro s hs;(have q:=YT hs (zAn rfl rfl (zT zd _)) hs1;clear hs;subst q)) | (refine Exists.intro _ (And.intro ⟨rfl,rfl,rfl⟩ ?_)))
     . exact ⟨rfl,rfl,λ_ _=>⟨rfl,ZG _⟩⟩
     . exact Eq.mpr (congrArg KpI (zT zd _)) hk
     . conv=>whnf
       exact ⟨(),[(2,some 14)],rfl,⟨zB rfl,zG rfl,zB rfl,zF rfl,zD (zH rfl rfl),zB rfl,zF rfl,trivial⟩,⟨⟨rfl,zE λj hj=>(qo.sh _ j hj).le⟩,⟨rfl,⟨rfl,rfl,rfl,rfl,λp hp j hj=>ql hj λh=>zc h⟩⟩,⟨rfl,zA⟩,⟨rfl,zE (Zr ⟨zC rfl,zC rfl,zH rfl rfl⟩)⟩,trivial⟩⟩
     . have e1 : s1 = s:=by rw [<- es1];exact if_pos (by omega)
       conv=>whnf
       exact ⟨(),[],rfl,⟨zB rfl,zG rfl,zB rfl,zF rfl,zD (zH rfl rfl),zB rfl,zF rfl,trivial⟩,⟨⟨rfl,zE λj hj=>(qo.sh _ j hj).le⟩,⟨rfl,⟨rfl,rfl,rfl,rfl,λp hp j hj=>ql hj λh=>zc h⟩⟩,⟨rfl,zR (by rw [e1])⟩,⟨rfl,zE (Zr ⟨zC (by rw [e1]),zC (by rw [e1]),zH rfl (by rw [e1])⟩)⟩,trivial⟩⟩
   . intro _;exact ht s1 es1 hok1 hmin hno (by rw [<- es1];unfold ze;split;exact hno;exact Qb hok.h hno)
theorem zFn (L : List Sed) (a : Nat) (now : Int) (c : Cas) (deaf : Bool) (draw : Int) (hI : AcR L a now c draw) (R : List Sed × Bool × Int) (hR : R = (L.set a (ZX (L.getD a default) now c deaf draw).1,(ZX (L.getD a default) now c deaf draw).2,0)) :
 Sem Try.prog Try.f39.ntmps 0 (Zc 6 (Try.f39.body.getD Code.ret)) (SAr L a now c deaf draw ()).fr (SAr L a now c deaf draw ()).H (SAr L a now c deaf draw ()).nx (qQ T Try.f39.results.toList λx H _=>FinN (some R.1.length) (Zz R) (Zj ZB 78 R.1) x H):=by
 have h9:=hI.n;have hl:=hI.lt;rcases (show a = 0 \/ a = 1 \/ a = 2 \/ a = 3 \/ a = 4 \/ a = 5 \/ a = 6 \/ a = 7 \/ a = 8 by omega) with rfl | rfl | rfl | rfl | rfl | rfl | rfl | rfl | rfl
 . exact racc_0 L now c deaf draw hI R hR λs1 e1 h1 h2 h3 h4=>YN L 0 _ s1 now c deaf draw hl h2 h3 h4 e1 h1 hI.num hI.d hI.now hI.dr R hR
 . exact racc_1 L now c deaf draw hI R hR λs1 e1 h1 h2 h3 h4=>YN L 1 _ s1 now c deaf draw hl h2 h3 h4 e1 h1 hI.num hI.d hI.now hI.dr R hR
 . exact racc_2 L now c deaf draw hI R hR λs1 e1 h1 h2 h3 h4=>YN L 2 _ s1 now c deaf draw hl h2 h3 h4 e1 h1 hI.num hI.d hI.now hI.dr R hR
 . exact racc_3 L now c deaf draw hI R hR λs1 e1 h1 h2 h3 h4=>YN L 3 _ s1 now c deaf draw hl h2 h3 h4 e1 h1 hI.num hI.d hI.now hI.dr R hR
 . exact racc_4 L now c deaf draw hI R hR λs1 e1 h1 h2 h3 h4=>YN L 4 _ s1 now c deaf draw hl h2 h3 h4 e1 h1 hI.num hI.d hI.now hI.dr R hR
 . exact racc_5 L now c deaf draw hI R hR λs1 e1 h1 h2 h3 h4=>YN L 5 _ s1 now c deaf draw hl h2 h3 h4 e1 h1 hI.num hI.d hI.now hI.dr R hR
 . exact racc_6 L now c deaf draw hI R hR λs1 e1 h1 h2 h3 h4=>YN L 6 _ s1 now c deaf draw hl h2 h3 h4 e1 h1 hI.num hI.d hI.now hI.dr R hR
 . exact racc_7 L now c deaf draw hI R hR λs1 e1 h1 h2 h3 h4=>YN L 7 _ s1 now c deaf draw hl h2 h3 h4 e1 h1 hI.num hI.d hI.now hI.dr R hR
 . exact racc_8 L now c deaf draw hI R hR λs1 e1 h1 h2 h3 h4=>YN L 8 _ s1 now c deaf draw hl h2 h3 h4 e1 h1 hI.num hI.d hI.now hI.dr R hR
def SFr (L : List Sed) (now : Int) (c : Cas) (deaf : Bool) (draw : Int) (_ : Unit) : Hd:=
 ⟨[(1,zL (.int .i64 now)),(3,zL (.bool deaf)),(4,zL (.int .u32 draw)),(7,zL (.ptr 0 0 0 false)),(13,zL (.os 1 0 L.length))],
  (0,some ⟨32,1,3,true,λ_=>qo.cell c⟩) :: (1,some (qp 2 L.length L)) :: hepP 2 L,10⟩
theorem zFk {d n : Nat} {L : List Sed} (hn : n = L.length) : Ys neI n (λk j=>Zg d L (0 + k) j) = L.map Sed.id:=by
 subst hn;apply List.ext_getElem
 . simp [Ys]
 . intro i h1 h2;have hi : i < L.length:=by simpa using h2
   simp only [Ys,List.getElem_map,List.getElem_range];show Ya (Zg d L (0 + i) 0) = _;rw [Nat.zero_add];show (L.getD i default).id = _;rw [List.getD_eq_getElem?_getD,List.getElem?_eq_getElem hi];rfl
theorem fndR_no {c : Cas} {L : List Sed} (hv : ZA L = true) (h : (Zf c.id L 0).2 = false) : zBK c.id (L.map Sed.id) 0 = -1:=by
 rw [zDP (zCw hv),h];rfl
theorem zFl {c : Cas} {L : List Sed} (hv : ZA L = true) (h : (Zf c.id L 0).2 = true) : zBK c.id (L.map Sed.id) 0 = ((Zf c.id L 0).1 : Int):=by
 rw [zDP (zCw hv),h];rfl
def zBb (g : Nat) (L : List Sed) (k j : Nat) : CV:=bif Nat.beq k g && Nat.beq j 2 then .nils else zo ZB L k j
theorem zCq {g k j : Nat} {L : List Sed} (h : k ≠ g \/ j ≠ 2) : zBb g L k j = zo ZB L k j:=by
 unfold zBb;rcases h with h | h
 . rw [zAz h];rfl
 . rw [zAz h,Bool.and_false];rfl
theorem rowZ_g {g : Nat} {L : List Sed} : zBb g L g 2 = .nils:=by unfold zBb;rw [QE];rfl
theorem zE9 {c : Wc} {g k j : Nat} {L : List Sed} (hj : j < 3) : Zu c (zBb g L k j) (zBb g L k j):=by
 by_cases h : k ≠ g \/ j ≠ 2
 . rw [zCq h];exact (ZB.sh _ j hj).le
 . obtain ⟨rfl,rfl⟩ : k = g /\ j = 2:=by omega
   rw [rowZ_g];exact zq
theorem rowZ_app {g k j : Nat} {L Z : List Sed} (h : k < L.length) : zBb g (L ++ Z) k j = zBb g L k j:=by
 have e : zo ZB (L ++ Z) k j = zo ZB L k j:=congrArg (λz=>ZB.cell z j) (by rw [List.getD_eq_getElem?_getD,List.getElem?_append_left h,<- List.getD_eq_getElem?_getD]);unfold zBb;rw [e]
theorem zBc {g j : Nat} {L : List Sed} {x : Sed} (h : L.length ≠ g \/ j ≠ 2) : zBb g (L ++ [x]) L.length j = ZB.cell x j:=by
 rw [zCq h];exact congrArg (λz=>ZB.cell z j) (by simp [List.getD_eq_getElem?_getD])
theorem snocZ {c : Wc} {Z : List Sed} {x : Sed} {g n k j : Nat} {A B C : CV} (hn : n = Z.length) (hk : k < n + 1) (hj : j < 3) (hA : k < n -> Zu c A (zBb g Z k j)) (h : Zu c B (zBb g (Z ++ [x]) n j)) : Zu c (Zp (Nat.blt k n) A (Zp (Nat.beq (0 + (k - n)) 0) B C)) (zBb g (Z ++ [x]) k j):=by
 subst hn;by_cases hkz : k < Z.length
 . refine ZU (Nat.ble_eq_true_of_le hkz) ?_;rw [rowZ_app hkz];exact hA hkz
 . obtain rfl : k = Z.length:=by omega
   exact Zd (Zt _) (ZU (by rw [Nat.sub_self];rfl) h)
theorem snocG {c : Wc} {n k : Nat} {A B C D : CV} (hk : k < n + 1) (hA : k < n -> Zu c A D) (hB : k = n -> Zu c B D) : Zu c (Zp (Nat.blt k n) A (Zp (Nat.beq (0 + (k - n)) 0) B C)) D:=by
 by_cases h : k < n
 . exact ZU (Nat.ble_eq_true_of_le h) (hA h)
 . obtain rfl : k = n:=by omega
   exact Zd (Zt _) (ZU (by rw [Nat.sub_self];rfl) (hB rfl))
theorem zBd {c : Wc} {d a j : Nat} {L : List Sed} (hj : j < 3) (h : c.src 2 = some (d + a)) : Zu c (Zg d L a j) (QO 2 (L.getD a default) a L a j):=by
 rw [zAL];rcases j with _ | _ | _ | j
 . exact zC rfl
 . exact zC rfl
 . exact zH h rfl
 . omega
theorem rowZ_A {c : Wc} {g k j : Nat} {I : List Sed} (hj : j < 3) (h0 : (I.getD g default).held.length = 0) : Zu c (zBb g I k j) (QO 2 (I.getD g default) g I k j):=by
 by_cases hk : k = g
 . subst hk;rw [zAL];rcases j with _ | _ | _ | j
   . rw [zCq (.inr (by decide))];exact zC rfl
   . rw [zCq (.inr (by decide))];exact zC rfl
   . rw [rowZ_g];exact Zh h0
   . omega
 . rw [zc hk,zCq (.inl hk)];exact (ZB.sh _ j hj).le
theorem zFm (L : List Sed) (now : Int) (c : Cas) (deaf : Bool) (draw : Int) (hv : ZA L = true) (h8 : (Zf c.id L 0).2 = false -> L.length < 8) (hnum : 0 <= c.num /\ c.num < 1073741824) (R : List Sed × Bool × Int)
 (ht : Sem Try.prog Try.f39.ntmps 0 (Zc 6 (Try.f39.body.getD Code.ret)) (SAr (Qn c L) (Zf c.id L 0).1 now c deaf draw ()).fr (SAr (Qn c L) (Zf c.id L 0).1 now c deaf draw ()).H (SAr (Qn c L) (Zf c.id L 0).1 now c deaf draw ()).nx (qQ T Try.f39.results.toList λx H _=>FinN (some R.1.length) (Zz R) (Zj ZB 78 R.1) x H)) :
 Sem Try.prog Try.f39.ntmps 0 (Zc 5 (Try.f39.body.getD Code.ret)) (SFr L now c deaf draw ()).fr (SFr L now c deaf draw ()).H (SFr L now c deaf draw ()).nx (qQ T Try.f39.results.toList λx H _=>FinN (some R.1.length) (Zz R) (Zj ZB 78 R.1) x H):=by
 have hl8:=Zv hv;obtain ⟨u,hu⟩ : ∃ u,(Zf c.id L 0).2 = u:=⟨_,rfl⟩;obtain ⟨g,hg⟩ : ∃ g,(Zf c.id L 0).1 = g:=⟨_,rfl⟩;obtain ⟨hle,hle2,_⟩:=zAU (id:=c.id) (L:=L) (k:=0);rw [hg,Nat.zero_add] at hle hle2;rw [hu] at hle2;rw [hg] at ht;unfold SFr hepP;cases u with
 | true=>
   have hF:=zFl hv hu;rw [hg] at hF;have eA : Qn c L = L:=by unfold Qn;rw [if_pos hu]
   rw [eA] at ht;have hgl:=hle2 rfl;refine Zb (wd:=1) (by decide) zN (zb zy) (zV zy) zP (SAr L g now c deaf draw) (by intro _;rfl) ?_ λ_=>ht;repeat' (first | (apply And.intro<;>intro hc<;>(first | exact Bool.noConfusion hc | (exfalso;first | exact absurd rfl hc | omega) | (simp only [zl] at hc<;>first | exact absurd rfl hc | (exfalso;first | exact absurd rfl hc | omega) | skip) | skip)) | (refine And.intro zj ?_) | (apply And.intro) | (intro s hs;(have q:=YO hs (zFk rfl) hF;clear hs;subst q)) | (refine Exists.intro _ (And.intro ⟨rfl,rfl,rfl⟩ ?_)))
   . exact λ_ _=>rfl
   . show (Ys neI L.length λk j=>Zg 2 L (0 + k) j).length <= 9223372036854775807;rw [QW];omega
   conv=>whnf
   clear hF ht hg hle hle2;rcases (show g = 0 \/ g = 1 \/ g = 2 \/ g = 3 \/ g = 4 \/ g = 5 \/ g = 6 \/ g = 7 by omega) with rfl | rfl | rfl | rfl | rfl | rfl | rfl | rfl
   . refine ⟨(),[(1,some 1),(2,some 2)],rfl,⟨zB rfl,zG rfl,zB rfl,zF rfl,zD (zH rfl rfl),trivial⟩,⟨⟨rfl,zE λj hj=>(qo.sh _ j hj).le⟩,⟨rfl,⟨rfl,rfl,rfl,rfl,λp hp j hj=>?_⟩⟩,⟨rfl,zA⟩,trivial⟩⟩;have hp : p < L.length:=hp;have hj : j < 3:=hj;show Zu _ (Zg 2 L p j) (QO 2 (L.getD 0 default) 0 L p j);rcases (show p = 0 \/ p = 1 \/ p = 2 \/ p = 3 \/ p = 4 \/ p = 5 \/ p = 6 \/ p = 7 by omega) with rfl | rfl | rfl | rfl | rfl | rfl | rfl | rfl;all_goals first
      | (rw [zc (by decide)];exact Qt hj rfl rfl)
      | exact zBd hj rfl
   . refine ⟨(),[(1,some 1),(2,some 3)],rfl,⟨zB rfl,zG rfl,zB rfl,zF rfl,zD (zH rfl rfl),trivial⟩,⟨⟨rfl,zE λj hj=>(qo.sh _ j hj).le⟩,⟨rfl,⟨rfl,rfl,rfl,rfl,λp hp j hj=>?_⟩⟩,⟨rfl,zA⟩,trivial⟩⟩;have hp : p < L.length:=hp;have hj : j < 3:=hj;show Zu _ (Zg 2 L p j) (QO 2 (L.getD 1 default) 1 L p j);rcases (show p = 0 \/ p = 1 \/ p = 2 \/ p = 3 \/ p = 4 \/ p = 5 \/ p = 6 \/ p = 7 by omega) with rfl | rfl | rfl | rfl | rfl | rfl | rfl | rfl;all_goals first
      | (rw [zc (by decide)];exact Qt hj rfl rfl)
      | exact zBd hj rfl
   . refine ⟨(),[(1,some 1),(2,some 4)],rfl,⟨zB rfl,zG rfl,zB rfl,zF rfl,zD (zH rfl rfl),trivial⟩,⟨⟨rfl,zE λj hj=>(qo.sh _ j hj).le⟩,⟨rfl,⟨rfl,rfl,rfl,rfl,λp hp j hj=>?_⟩⟩,⟨rfl,zA⟩,trivial⟩⟩;have hp : p < L.length:=hp;have hj : j < 3:=hj;show Zu _ (Zg 2 L p j) (QO 2 (L.getD 2 default) 2 L p j);rcases (show p = 0 \/ p = 1 \/ p = 2 \/ p = 3 \/ p = 4 \/ p = 5 \/ p = 6 \/ p = 7 by omega) with rfl | rfl | rfl | rfl | rfl | rfl | rfl | rfl;all_goals first
      | (rw [zc (by decide)];exact Qt hj rfl rfl)
      | exact zBd hj rfl
   . refine ⟨(),[(1,some 1),(2,some 5)],rfl,⟨zB rfl,zG rfl,zB rfl,zF rfl,zD (zH rfl rfl),trivial⟩,⟨⟨rfl,zE λj hj=>(qo.sh _ j hj).le⟩,⟨rfl,⟨rfl,rfl,rfl,rfl,λp hp j hj=>?_⟩⟩,⟨rfl,zA⟩,trivial⟩⟩;have hp : p < L.length:=hp;have hj : j < 3:=hj;show Zu _ (Zg 2 L p j) (QO 2 (L.getD 3 default) 3 L p j);rcases (show p = 0 \/ p = 1 \/ p = 2 \/ p = 3 \/ p = 4 \/ p = 5 \/ p = 6 \/ p = 7 by omega) with rfl | rfl | rfl | rfl | rfl | rfl | rfl | rfl;all_goals first
      | (rw [zc (by decide)];exact Qt hj rfl rfl)
      | exact zBd hj rfl
   . refine ⟨(),[(1,some 1),(2,some 6)],rfl,⟨zB rfl,zG rfl,zB rfl,zF rfl,zD (zH rfl rfl),trivial⟩,⟨⟨rfl,zE λj hj=>(qo.sh _ j hj).le⟩,⟨rfl,⟨rfl,rfl,rfl,rfl,λp hp j hj=>?_⟩⟩,⟨rfl,zA⟩,trivial⟩⟩;have hp : p < L.length:=hp;have hj : j < 3:=hj;show Zu _ (Zg 2 L p j) (QO 2 (L.getD 4 default) 4 L p j);rcases (show p = 0 \/ p = 1 \/ p = 2 \/ p = 3 \/ p = 4 \/ p = 5 \/ p = 6 \/ p = 7 by omega) with rfl | rfl | rfl | rfl | rfl | rfl | rfl | rfl;all_goals first
      | (rw [zc (by decide)];exact Qt hj rfl rfl)
      | exact zBd hj rfl
   . refine ⟨(),[(1,some 1),(2,some 7)],rfl,⟨zB rfl,zG rfl,zB rfl,zF rfl,zD (zH rfl rfl),trivial⟩,⟨⟨rfl,zE λj hj=>(qo.sh _ j hj).le⟩,⟨rfl,⟨rfl,rfl,rfl,rfl,λp hp j hj=>?_⟩⟩,⟨rfl,zA⟩,trivial⟩⟩;have hp : p < L.length:=hp;have hj : j < 3:=hj;show Zu _ (Zg 2 L p j) (QO 2 (L.getD 5 default) 5 L p j);rcases (show p = 0 \/ p = 1 \/ p = 2 \/ p = 3 \/ p = 4 \/ p = 5 \/ p = 6 \/ p = 7 by omega) with rfl | rfl | rfl | rfl | rfl | rfl | rfl | rfl;all_goals first
      | (rw [zc (by decide)];exact Qt hj rfl rfl)
      | exact zBd hj rfl
   . refine ⟨(),[(1,some 1),(2,some 8)],rfl,⟨zB rfl,zG rfl,zB rfl,zF rfl,zD (zH rfl rfl),trivial⟩,⟨⟨rfl,zE λj hj=>(qo.sh _ j hj).le⟩,⟨rfl,⟨rfl,rfl,rfl,rfl,λp hp j hj=>?_⟩⟩,⟨rfl,zA⟩,trivial⟩⟩;have hp : p < L.length:=hp;have hj : j < 3:=hj;show Zu _ (Zg 2 L p j) (QO 2 (L.getD 6 default) 6 L p j);rcases (show p = 0 \/ p = 1 \/ p = 2 \/ p = 3 \/ p = 4 \/ p = 5 \/ p = 6 \/ p = 7 by omega) with rfl | rfl | rfl | rfl | rfl | rfl | rfl | rfl;all_goals first
      | (rw [zc (by decide)];exact Qt hj rfl rfl)
      | exact zBd hj rfl
   . refine ⟨(),[(1,some 1),(2,some 9)],rfl,⟨zB rfl,zG rfl,zB rfl,zF rfl,zD (zH rfl rfl),trivial⟩,⟨⟨rfl,zE λj hj=>(qo.sh _ j hj).le⟩,⟨rfl,⟨rfl,rfl,rfl,rfl,λp hp j hj=>?_⟩⟩,⟨rfl,zA⟩,trivial⟩⟩;have hp : p < L.length:=hp;have hj : j < 3:=hj;show Zu _ (Zg 2 L p j) (QO 2 (L.getD 7 default) 7 L p j);rcases (show p = 0 \/ p = 1 \/ p = 2 \/ p = 3 \/ p = 4 \/ p = 5 \/ p = 6 \/ p = 7 by omega) with rfl | rfl | rfl | rfl | rfl | rfl | rfl | rfl;all_goals first
      | (rw [zc (by decide)];exact Qt hj rfl rfl)
      | exact zBd hj rfl
 | false=>
   have hF:=fndR_no hv hu;have h7:=h8 hu;have hlt : ∀ p,p < g -> (L.getD p default).id < c.id:=λp hp=>by
    have:=fnd_lt (n:=c.id) (L:=L) (k:=0) (p:=p) (Nat.zero_le _) (by rw [hg];exact hp);rwa [Nat.sub_zero] at this
   have hat : g < L.length -> c.id < (L.getD g default).id:=λhp=>by
    have:=fnd_at (n:=c.id) (L:=L) (k:=0) hu (by rw [hg];exact hp);rwa [hg,Nat.sub_zero] at this
   obtain ⟨x,ex⟩ : ∃ x : Sed,(⟨c.id,c.num,[]⟩ : Sed) = x:=⟨_,rfl⟩;have eA : Qn c L = Zn g x L:=by unfold Qn;rw [if_neg (by rw [hu];simp),hg,ex]
   have xi : x.id = c.id:=by rw [<- ex]
   have xm : x.mn = c.num:=by rw [<- ex]
   have xh : x.held = []:=by rw [<- ex]
   rw [eA] at ht;refine Zb (wd:=1) (by decide) zN (zb zy) (zV zy) zP (SAr (Zn g x L) g now c deaf draw) (by intro _;rfl) ?_ λ_=>ht;repeat' (first | (apply And.intro<;>intro hc<;>(first | exact Bool.noConfusion hc | (exfalso;first | exact absurd rfl hc | omega) | (simp only [zl] at hc<;>first | exact absurd rfl hc | (exfalso;first | exact absurd rfl hc | omega) | skip) | skip)) | (refine And.intro zj ?_) | (apply And.intro) | (intro s hs;(have q:=YO hs (zFk rfl) hF;clear hs;subst q)) | (refine Exists.intro _ (And.intro ⟨rfl,rfl,rfl⟩ ?_)))
   . exact λ_ _=>rfl
   . show (Ys neI L.length λk j=>Zg 2 L (0 + k) j).length <= 9223372036854775807;rw [QW];omega
   conv=>whnf
   clear hF ht hg hle2 eA h8 hu;refine zU (zV zy) (λu : {u : Nat × Bool × List Sed // u.1 <= L.length /\ InsI g x L u.1 u.2.1 u.2.2}=>(⟨[(1,zL (.int .i64 now)),(3,zL (.bool deaf)),(4,zL (.int .u32 draw)),(7,zL (.ptr 0 0 0 false)),(14,zL (.os 2 0 u.1.2.2.length)),(15,zL (.bool u.1.2.1)),(72,zL (.os 1 0 L.length)),(73,zL (.int .i64 (L.length : Int))),(74,zL (.int .i64 (u.1.1 : Int)))],[(0,some ⟨32,1,3,true,λ_=>qo.cell c⟩),(1,some (Zj ZB 78 L)),(2,some ⟨78,u.1.2.2.length,3,false,zBb g u.1.2.2⟩)],3⟩ : Hd)) (λu=>L.length - u.1.1) (λ_=>rfl) ?_ ⟨(0,false,[]),Nat.zero_le _,.no (Nat.zero_le _)⟩ [(2,none)] ⟨rfl,⟨zB rfl,zG rfl,zB rfl,zF rfl,zD (Zh rfl),zG rfl,zD (zH rfl rfl),zB rfl,zB rfl,trivial⟩,⟨⟨rfl,zE λj hj=>(qo.sh _ j hj).le⟩,⟨rfl,⟨rfl,rfl,rfl,rfl,λp hp j hj=>?_⟩⟩,⟨rfl,rfl,rfl,Nat.le_of_ble_eq_true rfl⟩,trivial⟩⟩;rotate_left
   . have hp : p < L.length:=hp;have hj : j < 3:=hj;show Zu _ (Zg 2 L p j) (zo ZB L p j);rcases (show p = 0 \/ p = 1 \/ p = 2 \/ p = 3 \/ p = 4 \/ p = 5 \/ p = 6 \/ p = 7 by omega) with rfl | rfl | rfl | rfl | rfl | rfl | rfl | rfl;all_goals exact Qt hj rfl rfl
   rintro ⟨⟨p,dn,Lo⟩,hp,hIn⟩;dsimp only at hp hIn ⊢;by_cases hpl : p < L.length
   . have w5 : IntKind.i64.wrap ((p : Int) + 1) = ((p + 1 : Nat) : Int):=(IntWalk.i64_in _ (by omega)).trans (by omega);have z1 : 0 + (p : Int).toNat = p:=Nat.zero_add p;obtain ⟨s,es⟩ : ∃ s,L.getD p default = s:=⟨_,rfl⟩;have eck : zo ZB L p = ZB.cell s:=congrArg ZB.cell es;have hLl:=ins_len hIn;cases hIn with
     | no hpg=>
       by_cases hpq : p < g
       . have hlt1:=hlt p hpq;rw [es] at hlt1;have hnx:=ins_no (x:=x) hpq hpl;rw [es] at hnx;have hlz : (L.take p).length = p:=by rw [List.length_take];omega
         repeat' (first | (simp only [z1,eck]) | (apply And.intro<;>intro hc<;>(first | exact Bool.noConfusion hc | (exfalso;first | exact absurd rfl hc | omega) | (simp only [zl] at hc<;>first | exact absurd rfl hc | (exfalso;first | exact absurd rfl hc | omega) | skip) | skip)) | (refine And.intro zj ?_) | (apply And.intro) | (intro s hs;skip) | (refine Exists.intro _ (And.intro ⟨rfl,rfl,rfl⟩ ?_)))
         conv=>whnf
         refine ⟨⟨(p + 1,false,L.take p ++ [s]),hpl,hnx⟩,[(2,some 20)],by dsimp only;omega,rfl,⟨zB rfl,zG rfl,zB rfl,zF rfl,zD (zH rfl (by rw [List.length_append];rfl)),zG rfl,zD (zH rfl rfl),zB rfl,zB w5,trivial⟩,⟨⟨rfl,zE λj hj=>(qo.sh _ j hj).le⟩,⟨rfl,zA⟩,⟨rfl,⟨rfl,by show _ = (L.take p ++ [s]).length;rw [List.length_append];rfl,rfl,rfl,λk hk j hj=>snocZ (Z:=L.take p) (x:=s) rfl hk hj (λ_=>zE9 hj) ?_⟩⟩,trivial⟩⟩;rw [zBc (.inl (by omega))];have hj : j < 3:=hj;rcases j with _ | _ | _ | j
         . exact zC rfl
         . exact zC rfl
         . exact (ZB.sh s 2 (by decide)).le
         . omega
       . obtain rfl : p = g:=by omega
         have hat1:=hat hpl;rw [es] at hat1;have hnx:=ins_at (x:=x) hpl;rw [es] at hnx;have hlz : (L.take p).length = p:=by rw [List.length_take];omega
         repeat' (first | (simp only [z1,eck]) | (apply And.intro<;>intro hc<;>(first | exact Bool.noConfusion hc | (exfalso;first | exact absurd rfl hc | omega) | (simp only [zl] at hc<;>first | exact absurd rfl hc | (exfalso;first | exact absurd rfl hc | omega) | skip) | skip)) | (refine And.intro zj ?_) | (apply And.intro) | (intro s hs;skip) | (refine Exists.intro _ (And.intro ⟨rfl,rfl,rfl⟩ ?_)))
         conv=>whnf
         refine ⟨⟨(p + 1,true,(L.take p ++ [x]) ++ [s]),hpl,hnx⟩,[(2,some 30)],by dsimp only;omega,rfl,⟨zB rfl,zG rfl,zB rfl,zF rfl,zD (zH rfl (by rw [List.length_append,List.length_append];rfl)),zG rfl,zD (zH rfl rfl),zB rfl,zB w5,trivial⟩,⟨⟨rfl,zE λj hj=>(qo.sh _ j hj).le⟩,⟨rfl,zA⟩,⟨rfl,⟨rfl,by show _ = ((L.take p ++ [x]) ++ [s]).length;rw [List.length_append,List.length_append];rfl,rfl,rfl,λk hk j hj=>snocZ (Z:=L.take p ++ [x]) (x:=s) (by rw [List.length_append];rfl) hk hj (λhk1=>snocZ (Z:=L.take p) (x:=x) rfl hk1 hj (λ_=>zE9 hj) ?_) ?_⟩⟩,trivial⟩⟩
         . have hj : j < 3:=hj;rcases j with _ | _ | _ | j
           . rw [zBc (.inr (by decide))];exact zC xi.symm
           . rw [zBc (.inr (by decide))];exact zC xm.symm
           . rw [hlz,rowZ_g];exact zq
           . omega
         . have e : (L.take p ++ [x]).length = (L.take p).length + 1:=by rw [List.length_append];rfl
           rw [<- e,zBc (.inl (by omega))];have hj : j < 3:=hj;rcases j with _ | _ | _ | j
           . exact zC rfl
           . exact zC rfl
           . exact (ZB.sh s 2 (by decide)).le
           . omega
     | yes hgp=>
       have hnx:=ins_yes (x:=x) hgp hpl;rw [es] at hnx;have hlz : ((Zn g x L).take (p + 1)).length = p + 1:=by rw [List.length_take,qf (by omega)];omega
       repeat' (first | (simp only [z1,eck]) | (apply And.intro<;>intro hc<;>(first | exact Bool.noConfusion hc | (exfalso;first | exact absurd rfl hc | omega) | (simp only [zl] at hc<;>first | exact absurd rfl hc | (exfalso;first | exact absurd rfl hc | omega) | skip) | skip)) | (refine And.intro zj ?_) | (apply And.intro) | (intro s hs;skip) | (refine Exists.intro _ (And.intro ⟨rfl,rfl,rfl⟩ ?_)))
       conv=>whnf
       refine ⟨⟨(p + 1,true,(Zn g x L).take (p + 1) ++ [s]),hpl,hnx⟩,[(2,some 20)],by dsimp only;omega,rfl,⟨zB rfl,zG rfl,zB rfl,zF rfl,zD (zH rfl (by rw [List.length_append];rfl)),zG rfl,zD (zH rfl rfl),zB rfl,zB w5,trivial⟩,⟨⟨rfl,zE λj hj=>(qo.sh _ j hj).le⟩,⟨rfl,zA⟩,⟨rfl,⟨rfl,by show _ = ((Zn g x L).take (p + 1) ++ [s]).length;rw [List.length_append];rfl,rfl,rfl,λk hk j hj=>snocZ (Z:=(Zn g x L).take (p + 1)) (x:=s) rfl hk hj (λ_=>zE9 hj) ?_⟩⟩,trivial⟩⟩;rw [zBc (.inl (by omega))];have hj : j < 3:=hj;rcases j with _ | _ | _ | j
       . exact zC rfl
       . exact zC rfl
       . exact (ZB.sh s 2 (by decide)).le
       . omega
   . obtain rfl : p = L.length:=by omega
     cases hIn with
     | no hpg=>
       obtain rfl : L.length = g:=by omega
       have hlz : (L.take L.length).length = L.length:=by rw [List.length_take];omega
       have eI : Zn L.length x L = L.take L.length ++ [x]:=zFp.symm;have eD : (Zn L.length x L).getD L.length default = x:=QD (Nat.le_refl _);repeat' (first | (apply And.intro<;>intro hc<;>(first | exact Bool.noConfusion hc | (exfalso;first | exact absurd rfl hc | omega) | (simp only [zl] at hc<;>first | exact absurd rfl hc | (exfalso;first | exact absurd rfl hc | omega) | skip) | skip)) | (refine And.intro zj ?_) | (apply And.intro) | (intro s hs;skip) | (refine Exists.intro _ (And.intro ⟨rfl,rfl,rfl⟩ ?_)))
       conv=>whnf
       refine ⟨(),[(1,some 13),(2,none)],rfl,⟨zB rfl,zG rfl,zB rfl,zF rfl,zD (zH rfl (by rw [eI,List.length_append];rfl)),trivial⟩,⟨⟨rfl,zE λj hj=>(qo.sh _ j hj).le⟩,⟨rfl,⟨rfl,by rw [eI,List.length_append];rfl,rfl,rfl,λk hk j hj=>?_⟩⟩,?_,trivial⟩⟩
       . have hj : j < 3:=hj;refine snocG hk (λh=>?_) (λh=>?_)
         . show Zu _ (zBb L.length (L.take L.length) k j) (QO 2 ((Zn L.length x L).getD L.length default) L.length (Zn L.length x L) k j);rw [zc (by omega),zCq (.inl (by omega)),show zo ZB (Zn L.length x L) k j = zo ZB (L.take L.length) k j from congrArg (λz=>ZB.cell z j) (by rw [Yb (Nat.le_refl _) (by omega),List.take_length])];exact (ZB.sh _ j hj).le
         . obtain rfl : k = L.length:=by omega
           show Zu _ _ (QO 2 ((Zn L.length x L).getD L.length default) L.length (Zn L.length x L) L.length j);rw [zAL,eD];rcases j with _ | _ | _ | j
           . exact zC xi.symm
           . exact zC xm.symm
           . exact Zh (by rw [xh];rfl)
           . omega
       . rw [eD,xh];exact ⟨rfl,rfl,rfl,Nat.le_of_ble_eq_true rfl⟩
     | yes hgp=>
       have hlz : ((Zn g x L).take (L.length + 1)).length = L.length + 1:=by rw [List.length_take,qf (by omega)];omega
       have eI : Zn g x L = (Zn g x L).take (L.length + 1):=(zFq (by omega)).symm;have eD : (Zn g x L).getD g default = x:=QD (by omega);repeat' (first | (apply And.intro<;>intro hc<;>(first | exact Bool.noConfusion hc | (exfalso;first | exact absurd rfl hc | omega) | (simp only [zl] at hc<;>first | exact absurd rfl hc | (exfalso;first | exact absurd rfl hc | omega) | skip) | skip)) | (refine And.intro zj ?_) | (apply And.intro) | (intro s hs;skip) | (refine Exists.intro _ (And.intro ⟨rfl,rfl,rfl⟩ ?_)))
       conv=>whnf
       refine ⟨(),[(1,some 2),(2,none)],rfl,⟨zB rfl,zG rfl,zB rfl,zF rfl,zD (zH rfl (by rw [<- eI])),trivial⟩,⟨⟨rfl,zE λj hj=>(qo.sh _ j hj).le⟩,⟨rfl,⟨rfl,by rw [<- eI],rfl,rfl,λk hk j hj=>?_⟩⟩,?_,trivial⟩⟩
       . have hj : j < 3:=hj;show Zu _ (zBb g ((Zn g x L).take (L.length + 1)) k j) (QO 2 ((Zn g x L).getD g default) g (Zn g x L) k j);rw [<- eI];exact rowZ_A hj (by rw [eD,xh];rfl)
       . rw [eD,xh];exact ⟨rfl,rfl,rfl,Nat.le_of_ble_eq_true rfl⟩
structure AccR (L : List Sed) (c : Cas) (d : Int) : Prop where
 h : LHp L
 i : 0 <= c.id
 d : ZS d
theorem racc1 (L : List Sed) (now : Int) (c : Cas) (deaf : Bool) (draw : Int) (hP : AccR L c draw) : zBG Try.prog 39 [(cNS ZB qA).enc L,(cI .i64).enc now,(cN qo).enc c,cB.enc deaf,(cI .u32).enc draw] (some (qD L now c deaf draw).1.length) (Zz (qD L now c deaf draw)) (Zj ZB 78 (qD L now c deaf draw).1):=by
 obtain ⟨hL,hid,hdr⟩:=hP;obtain ⟨R,hR⟩ : ∃ R,qD L now c deaf draw = R:=⟨_,rfl⟩;rw [hR];obtain ⟨V,hV⟩ : ∃ V,ZA L = V:=⟨_,rfl⟩;obtain ⟨F,hF⟩ : ∃ F,zBK c.id (L.map Sed.id) 0 = F:=⟨_,rfl⟩;obtain ⟨B,hB⟩ : ∃ B,ZD now = B:=⟨_,rfl⟩;have hV0 : V = false -> R = ([],false,1):=λh=>by rw [<- hR];unfold qD;rw [if_pos (.inl (hV.trans h))]
 have hI0 : c.id = 0 -> R = ([],false,1):=λh=>by rw [<- hR];unfold qD;rw [if_pos (.inr (.inl h))]
 have hD0 : 64 < c.data.length -> R = ([],false,1):=λh=>by rw [<- hR];unfold qD;rw [if_pos (.inr (.inr h))]
 have h1 : V = true -> ¬ c.id = 0 -> ¬ 64 < c.data.length -> R = if ZD now = false \/ c.num < 0 \/ 1073741824 <= c.num then ([],false,2) else
  if (Zf c.id L 0).2 = false /\ 8 <= L.length then ([],false,10) else
  ((Qn c L).set (Zf c.id L 0).1 (ZX ((Qn c L).getD (Zf c.id L 0).1 default) now c deaf draw).1,(ZX ((Qn c L).getD (Zf c.id L 0).1 default) now c deaf draw).2,0):=λha hb hd=>by
  rw [<- hR];unfold qD;rw [if_neg (by rw [hV,ha];simp;omega)]
 clear hR;refine zBC zN Try.func39 rfl _ (by show 5 <= _;decide) (λi _ j hj=>zB4 _ hj) ?_;refine zK (wd:=1) (by decide) zN (zb zy) zP ?_;refine zK (wd:=1) (by decide) zN (zb zy) zP ?_;repeat' (first | (apply And.intro<;>intro hc<;>(first | exact Bool.noConfusion hc | (exfalso;first | exact absurd rfl hc) | (simp only [zl] at hc<;>first | exact absurd rfl hc | (exfalso;first | exact absurd rfl hc) | skip) | skip)) | (refine And.intro zj ?_) | (apply And.intro) | (intro s hs;(have q : V = s:=zAT hs (zr ZL _) hV;clear hs;subst q)) | (refine Exists.intro _ (And.intro ⟨rfl,rfl,rfl⟩ ?_)))
 . exact λ_ _=>⟨rfl,Zy _⟩
 . exact Eq.mpr (congrArg LHp (zr ZL _)) hL
 . exact qc (hV0 ‹_›)
 . exact qc (hI0 ‹_›)
 . exact qc (hD0 (by omega))
 rename_i hi;have h2:=h1 ‹_› hi (by omega);clear h1 hV0 hI0 hD0;refine zK (wd:=1) (by decide) zN (zb zy) zP ?_;repeat' (first | (apply And.intro<;>intro hc<;>(first | exact Bool.noConfusion hc | (exfalso;first | exact absurd rfl hc) | (simp only [zl] at hc<;>first | exact absurd rfl hc | (exfalso;first | exact absurd rfl hc) | skip) | skip)) | (refine And.intro zj ?_) | (apply And.intro) | (intro s hs;(have q : B = s:=hB.symm.trans hs.symm;clear hs;subst q)) | (refine Exists.intro _ (And.intro ⟨rfl,rfl,rfl⟩ ?_)))
 . exact qc (h2.trans (if_pos (.inl (hB.trans ‹_›))))
 . exact qc (h2.trans (if_pos (.inr (.inl ‹_›))))
 . exact qc (h2.trans (if_pos (.inr (.inr hc))))
 rename_i hn;have h3:=h2.trans (if_neg (by rw [hB,show B = true by assumption];simp;omega));clear h2;have hVt : ZA L = true:=hV.trans ‹_›;have hl8:=Zv hVt;have hc8:=vl_c8 hVt;refine zK (wd:=1) (by decide) zN (zb zy) zP ?_;repeat' (first | (apply And.intro<;>intro hc<;>(first | exact Bool.noConfusion hc | (exfalso;first | exact absurd rfl hc | omega) | (simp only [zl] at hc<;>first | exact absurd rfl hc | (exfalso;first | exact absurd rfl hc | omega) | skip) | skip)) | (refine And.intro zj ?_) | (apply And.intro) | (intro s hs;(have q:=YO hs (toNI L) hF;clear hs;subst q)) | (refine Exists.intro _ (And.intro ⟨rfl,rfl,rfl⟩ ?_)))
 . show (Ys neI L.length (zo ZB L)).length <= 9223372036854775807;rw [QW];omega
 . have hu : (Zf c.id L 0).2 = false:=by
    cases hu : (Zf c.id L 0).2 with
    | false=>rfl
    | true=>have:=zFl hVt hu;omega
   exact qc (h3.trans (if_pos ⟨hu,by omega⟩))
 . have h4:=h3.trans (if_neg (by omega));clear h3;have hAcc:=zEg (c:=c) hVt (by omega) ⟨by omega,by omega⟩ (.inr (by omega));obtain ⟨a1,a2,a3⟩:=hAcc;have hI : AcR (Qn c L) (Zf c.id L 0).1 now c draw:=⟨a2,by have:=Zv a1;omega,(qq a1 _ (zw a2)).2,⟨by omega,by omega⟩,by omega,zCV (hB.trans ‹_›),hdr,zFr a1 a2 a3⟩;change Sem _ _ _ _ _ _ _ _;refine Zb (wd:=9) (by decide) zN (zb zy) (zV zy) zP (SFr L now c deaf draw) (by intro _;rfl) ?_ λ_=>zFm L now c deaf draw hVt (λ_=>by omega) ⟨by omega,by omega⟩ R (zFn (Qn c L) (Zf c.id L 0).1 now c deaf draw hI R h4);clear hI a1 a2 a3 h4 hF;repeat' (first | (apply And.intro<;>intro hc<;>(first | exact Bool.noConfusion hc | (exfalso;first | exact absurd rfl hc) | (simp only [zl] at hc<;>first | exact absurd rfl hc | (exfalso;first | exact absurd rfl hc) | skip) | skip)) | (refine And.intro zj ?_) | (apply And.intro) | (intro s hs;(have q : L = s:=(hs.trans (zr ZL _)).symm;clear hs;subst q)) | (refine Exists.intro _ (And.intro ⟨rfl,rfl,rfl⟩ ?_)))
   . exact λ_ _=>⟨rfl,Zy _⟩
   . exact Eq.mpr (congrArg Cl8 (zr ZL _)) hc8
   conv=>whnf
   exact ⟨(),[(1,some 50),(2,some 51),(3,some 52),(4,some 53),(5,some 54),(6,some 55),(7,some 56),(8,some 57),(9,some 58)],rfl,⟨zB rfl,zG rfl,zB rfl,zF rfl,zD (zH rfl rfl),trivial⟩,⟨⟨rfl,zE λj hj=>(qo.sh _ j hj).le⟩,⟨rfl,⟨rfl,rfl,rfl,rfl,λp hp j hj=>qm hj (qJ (P:=λp=>Wc.src _ (2 + p) = some (51 + p)) rfl rfl rfl rfl rfl rfl rfl rfl p (Nat.lt_of_lt_of_le hp (Zv hVt)))⟩⟩,⟨rfl,zA⟩,⟨rfl,zA⟩,⟨rfl,zA⟩,⟨rfl,zA⟩,⟨rfl,zA⟩,⟨rfl,zA⟩,⟨rfl,zA⟩,⟨rfl,zA⟩,trivial⟩⟩
 . have hu : (Zf c.id L 0).2 = true:=by
    cases hu : (Zf c.id L 0).2 with
    | true=>rfl
    | false=>have:=fndR_no hVt hu;omega
   have h4:=h3.trans (if_neg (by rw [hu];simp));clear h3;have hAcc:=zEg (c:=c) hVt (by omega) ⟨by omega,by omega⟩ (.inl hu);obtain ⟨a1,a2,a3⟩:=hAcc;have hI : AcR (Qn c L) (Zf c.id L 0).1 now c draw:=⟨a2,by have:=Zv a1;omega,(qq a1 _ (zw a2)).2,⟨by omega,by omega⟩,by omega,zCV (hB.trans ‹_›),hdr,zFr a1 a2 a3⟩;change Sem _ _ _ _ _ _ _ _;refine Zb (wd:=9) (by decide) zN (zb zy) (zV zy) zP (SFr L now c deaf draw) (by intro _;rfl) ?_ λ_=>zFm L now c deaf draw hVt (λh=>by rw [hu] at h;cases h) ⟨by omega,by omega⟩ R (zFn (Qn c L) (Zf c.id L 0).1 now c deaf draw hI R h4);clear hI a1 a2 a3 h4 hF;repeat' (first | (apply And.intro<;>intro hc<;>(first | exact Bool.noConfusion hc | (exfalso;first | exact absurd rfl hc) | (simp only [zl] at hc<;>first | exact absurd rfl hc | (exfalso;first | exact absurd rfl hc) | skip) | skip)) | (refine And.intro zj ?_) | (apply And.intro) | (intro s hs;(have q : L = s:=(hs.trans (zr ZL _)).symm;clear hs;subst q)) | (refine Exists.intro _ (And.intro ⟨rfl,rfl,rfl⟩ ?_)))
   . exact λ_ _=>⟨rfl,Zy _⟩
   . exact Eq.mpr (congrArg Cl8 (zr ZL _)) hc8
   conv=>whnf
   exact ⟨(),[(1,some 50),(2,some 51),(3,some 52),(4,some 53),(5,some 54),(6,some 55),(7,some 56),(8,some 57),(9,some 58)],rfl,⟨zB rfl,zG rfl,zB rfl,zF rfl,zD (zH rfl rfl),trivial⟩,⟨⟨rfl,zE λj hj=>(qo.sh _ j hj).le⟩,⟨rfl,⟨rfl,rfl,rfl,rfl,λp hp j hj=>qm hj (qJ (P:=λp=>Wc.src _ (2 + p) = some (51 + p)) rfl rfl rfl rfl rfl rfl rfl rfl p (Nat.lt_of_lt_of_le hp (Zv hVt)))⟩⟩,⟨rfl,zA⟩,⟨rfl,zA⟩,⟨rfl,zA⟩,⟨rfl,zA⟩,⟨rfl,zA⟩,⟨rfl,zA⟩,⟨rfl,zA⟩,⟨rfl,zA⟩,trivial⟩⟩
abbrev raccE : Zk:=newE (AC.cons (cNS ZB qA) (AC.cons (cI .i64) (AC.cons (cN qo) (AC.cons cB (AC.cons (cI .u32) AC.nil))))) (λa=>AccR a.1 a.2.2.1 a.2.2.2.2.1) (λa=>qD a.1 a.2.1 a.2.2.1 a.2.2.2.1 a.2.2.2.2.1) (λs=>some s.1.length) Zz (λs=>Zj ZB 78 s.1)
theorem raccE_ok : EntOk Try.prog 39 raccE:=zA2 ⟨_,Try.func39,rfl,by kernel_rfl⟩ (λs l h x hx=>by
 injection h with h;subst h;rcases List.mem_cons.1 hx with rfl | hx
 . exact zCy zB7
 . rcases List.mem_cons.1 hx with rfl | hx
   . exact zCy zA1
   . cases hx) λa h=>racc1 a.1 a.2.1 a.2.2.1 a.2.2.2.1 a.2.2.2.2.1 h
theorem nff_slBb {L : List Int} : NFF (.e (.c (slR eB L))):=nff_c (zD9 λi _ j _=>(eB.flat _ _).nf)
structure BytT (n : Nat) (l : List Int) (K : Nat) where
 i : Nat
 L : List Int
 q : Int
 hi : i <= K
 hL : L.length = K
 hb : BL L
 ht : TapeOk n (rI l) q
theorem u8rb (z : Int) : 0 <= IntKind.u8.wrap z /\ IntKind.u8.wrap z < 256:=by
 simp only [IntKind.wrap,IntKind.signed,IntKind.bits];constructor
 . exact Int.emod_nonneg _ (by decide)
 . exact Int.emod_lt_of_pos _ (by decide)
theorem bl_setb {L : List Int} {i : Nat} {v : Int} (h : BL L) (hv : 0 <= v /\ v < 256) : BL (L.set i v):=⟨λx hx=>by
 rcases List.mem_or_eq_of_mem_set hx with h1 | h1
 . exact h.m x h1
 . rw [h1];exact hv⟩
theorem bl_repb (n : Nat) : BL (List.replicate n 0):=⟨λx hx=>by rw [(List.mem_replicate.1 hx).2];omega⟩
theorem leN_setIb {c : Wc} {t : TypeId} {L : List Int} {idx i n : Nat} {x : Int} {g : Nat -> CV} (e : idx = i) (hn : n = L.length) (hi : i < L.length) (hg : g 0 = .int .u8 x) : LeN c ⟨t,n,eB.sz,false,zBW false (QG eB L) idx g⟩ (zA0 eB t (L.set i x)):=by
 subst e;refine leN_set hn hi (λi _ j _=>(eB.flat _ _).le) λj hj=>?_;have hj : j < 1:=hj;obtain rfl : j = 0:=by omega
 rw [hg];exact zC rfl
theorem leN_repb {c : Wc} {t : TypeId} {n : Nat} : LeN c ⟨t,n,1,false,λ_=>nth [CV.int .u8 0]⟩ (zA0 eB t (List.replicate n 0)):=by
 refine ⟨rfl,by show n = (List.replicate n (0 : Int)).length;rw [List.length_replicate],rfl,rfl,λk hk j hj=>?_⟩;have hk : k < n:=hk;have hj : j < 1:=hj;obtain rfl : j = 0:=by omega
 refine zC ?_;show (0 : Int) = (List.replicate n (0 : Int)).getD k default;simp [List.getD_eq_getElem?_getD,List.getElem?_replicate,hk]
theorem bytesB_ok (n : Nat) (l : List Int) (q m : Int) (ht : TapeOk n (rI l) q) (h1 : 0 <= m) (h2 : m <= 2000) :
 ∃ (r : List Int) (q' : Int),(BL r /\ (r.length : Int) <= m) /\ TapeOk n (rI l) q' /\ YE Try.prog 28 [(cI .i64).enc m] (qM n (rI l) q) (.e (.c (slR eB r))) (qM n (rI l) q'):=by
 have w1 : IntKind.i64.wrap (m + 1) = m + 1:=IntWalk.i64_in _ (by omega);refine qw (S:=λr=>BL r /\ (r.length : Int) <= m) (enc:=λr=>.e (.c (slR eB r))) (wd:=1) (by decide) zN (zb zE7) zP Try.func28 rfl _ (by show 1 + 1 <= _;decide) (λ_=>nff_slBb) ?_;repeat' (first | (apply And.intro<;>intro hc<;>(first | exact Bool.noConfusion hc | (simp only [zb0] at hc) | skip)) | (refine And.intro zj ?_) | (apply And.intro) | (intro s hs))
 rename_i s1 hs1;have hs1' : 0 <= s1 /\ s1 < IntKind.i64.wrap (m + 1):=hs1;rw [w1] at hs1';refine zU (zV zE7) (λs : BytT n l s1.toNat=>(⟨[(0,zL (.ptr 0 0 0 false)),(5,zL (.os 6 0 s.L.length)),(6,zL (.int .i64 (s.i : Int)))],
  [(0,some (qM n (rI l) s.q)),(6,some (zA0 eB 5 s.L))],7⟩ : Hd)) (λs=>s1.toNat - s.i) (λ_=>rfl) ?_ ⟨0,List.replicate s1.toNat 0,_,by omega,by simp,bl_repb _,hs⟩ [] ?_
 . rintro ⟨i,L,q2,hi,hL,hb,ht2⟩;dsimp only at hi hL hb ht2 ⊢;repeat' (first | (apply And.intro<;>intro hc<;>(first | exact Bool.noConfusion hc | (simp only [zb0] at hc) | skip)) | (refine And.intro zj ?_) | (apply And.intro) | (intro s hs))
   . rename_i s2 hs2;refine ⟨⟨i + 1,L.set i (IntKind.u8.wrap s2),_,by omega,by rw [List.length_set];exact hL,bl_setb hb (u8rb _),hs⟩,[],by dsimp only;omega,rfl,?_,?_⟩
     . repeat' (first | exact zw0 | refine zB ?_ | refine zG ?_ | exact zw1 | apply And.intro)
       . exact zD (zH rfl (by dsimp only;rw [List.length_set]))
       . refine (IntWalk.i64_in _ ?_).trans ?_
         . constructor<;>omega
         . dsimp only;omega
     . repeat' (first | exact zw0 | refine zB ?_ | refine zG ?_ | exact zw1 | apply And.intro)
       . exact ZW
       . exact leN_setIb (by omega) rfl (by omega) rfl
   . exact ⟨(L,q2),⟨⟨hb,(show (L.length : Int) <= m by omega)⟩,ht2⟩,⟨zD (zCx rfl rfl),ZW⟩⟩
 . refine ⟨rfl,?_,?_⟩
   . repeat' (first | exact zw0 | refine zB ?_ | refine zG ?_ | exact zw1 | apply And.intro)
     exact zD (zH rfl (by simp))
   . repeat' (first | exact zw0 | refine zB ?_ | refine zG ?_ | exact zw1 | apply And.intro)
     . exact ZW
     . exact leN_repb
abbrev bytesBE : Zk:=zAc (AC.cons (cI .i64) AC.nil) (λa=>0 <= a.1 /\ a.1 <= 2000) (λa (r : List Int)=>BL r /\ (r.length : Int) <= a.1) (λr=>.e (.c (slR eB r)))
theorem zGP : EntOk Try.prog 28 bytesBE:=Qp ⟨_,Try.func28,rfl,by kernel_rfl⟩ λn l q a ht hp=>bytesB_ok n l q a.1 ht hp.1 hp.2
structure CasM (c : Cas) : Prop where
 i : 0 < c.id
 n : 10 <= c.num /\ c.num < 60
 d : c.data.length <= 5
theorem nff_cas {c : Cas} : NFF ((cN qo).enc c):=by
 rintro r r' X W w v ⟨cs,rfl,c1,c2⟩;refine ⟨cs,rfl,c1,λi u hu=>?_⟩;have hi : i < qo.sz:=by rw [<- c1];exact (Array.getElem?_eq_some_iff.1 hu).1
 exact (qo.sh c i hi).nf _ _ _ _ _ _ (c2 i u hu)
theorem nff_sds {L : List Sed} : NFF (.e (.c (slN ZB L))):=nff_c (zD9 λi _ j hj=>(ZB.sh _ j hj).nf)
theorem u32okt (x : Int) : ZS (IntKind.u32.wrap x):=by unfold ZS;rw [IntKind.wrap_u32'];omega
theorem eui_ok (n : Nat) (l : List Int) (q : Int) (ht : TapeOk n (rI l) q) :
 ∃ (r q' : Int),(1 <= r /\ r <= 5) /\ TapeOk n (rI l) q' /\ YE Try.prog 42 [] (qM n (rI l) q) ((cI .u64).enc r) (qM n (rI l) q'):=by
 refine qw (wd:=1) (by decide) zN (zb zBA) zP Try.func42 rfl _ (by show 0 + 1 <= _;decide) (λ_=>zCR) ?_;repeat' (first | (apply And.intro<;>intro hc<;>(first | exact Bool.noConfusion hc | (simp only [zb0] at hc) | skip)) | (refine And.intro zj ?_) | (apply And.intro) | (intro s hs))
 rename_i r hr;have hr' : 0 <= r /\ r < 5:=hr;exact ⟨(1 + r,_),⟨⟨by omega,by omega⟩,by assumption⟩,⟨zB (by rw [IntWalk.i64_in (1 + r) (by omega),IntWalk.u64_in (1 + r) (by omega)]),ZW⟩⟩
abbrev euiE : Zk:=zAc AC.nil (λ_=>True) (λa (r : Int)=>1 <= r /\ r <= 5) (cI .u64).enc
def LMu : CsL:=(42,some euiE) :: (28,some bytesBE) :: LTb
theorem LMu_ok : qV Try.prog LMu:=⟨Qp ⟨_,Try.func42,rfl,by kernel_rfl⟩ λn l q a ht hp=>eui_ok n l q ht,zGP,zBA⟩
theorem mcast_ok (n : Nat) (l : List Int) (q : Int) (ht : TapeOk n (rI l) q) :
 ∃ (r : Cas) (q' : Int),CasM r /\ TapeOk n (rI l) q' /\ YE Try.prog 18 [] (qM n (rI l) q) ((cN qo).enc r) (qM n (rI l) q'):=by
 refine qw (wd:=1) (by decide) zN (zb LMu_ok) zP Try.func18 rfl _ (by show 0 + 1 <= _;decide) (λ_=>nff_cas) ?_;repeat' (first | (apply And.intro<;>intro hc<;>(first | exact Bool.noConfusion hc | (simp only [zb0] at hc) | skip)) | (refine And.intro zj ?_) | (apply And.intro) | (intro s hs))
 rename_i x hx q1 hq1 y hy q2 hq2 b hb;have hx' : 1 <= x /\ x <= 5:=hx;have hy' : 0 <= y /\ y < 50:=hy;have hb' : BL b /\ (b.length : Int) <= 5:=hb;have w1 : IntKind.i64.wrap (10 + y) = 10 + y:=IntWalk.i64_in _ (by omega);refine ⟨(⟨x,10 + y,b⟩,_),⟨⟨by dsimp only;omega,by dsimp only;omega,by dsimp only;omega⟩,hs⟩,⟨QJ (zEl (m:=3) rfl λj hj=>?_),ZW⟩⟩;have hj : j < 3:=hj;rcases j with _ | _ | _ | j
 . exact zC rfl
 . exact zC w1
 . exact (qo.sh ⟨x,10 + y,b⟩ 2 (by decide)).le
 . omega
abbrev mcastE : Zk:=zAc AC.nil (λ_=>True) (λa (r : Cas)=>CasM r) (cN qo).enc
theorem cas_i {c : Cas} (h : CasM c) : 0 <= c.id:=by have:=h.i;omega
theorem zDz {L : List Sed} (h : ZA L = true) : LHp L:=⟨vl_hn h,λx hx=>by have:=(qq h x hx).1;omega⟩
theorem acc_okv {s : List Sed × Bool × Int} {M L : List Sed} {now : Int} {c' c : Cas} {deaf : Bool} {draw : Int} (hs : s = qD M now c' deaf draw) (hM : M = L) (hc : c' = c) (hi : 0 <= c.id) (he : s.2.2 = 0) : ZA s.1 = true:=by
 subst hM hc;rw [hs] at he ⊢;exact zBy hi he
theorem give_St {c : Wc} {k : Nat} {t : TypeId} {x : List Sed} {n : Nat} (hn : n = x.length) (hd : zX c.H k = some (Zj ZB t x)) (hk : c.dead k = true) : Zu c (.os k 0 n) (slN ZB x):=by
 subst hn;refine ZQ hd hk rfl rfl (Nat.le_of_eq (Nat.zero_add _)) λq hq j hj=>?_;show Zu c (zo ZB x (0 + q) j) (zo ZB x q j);rw [Nat.zero_add];exact (ZB.sh _ j hj).le
structure SdsS (n : Nat) (l : List Int) where
 k : Nat
 L : List Sed
 q : Int
 hk : k <= 9
 h : ZA L = true
 ht : TapeOk n (rI l) q
def LMv : CsL:=(18,some mcastE) :: (17,some wtimeE) :: (39,some raccE) :: LTb
theorem LMv_ok : qV Try.prog LMv:=⟨Qp ⟨_,Try.func18,rfl,by kernel_rfl⟩ λn l q a ht hp=>mcast_ok n l q ht,Qp ⟨_,Try.func17,rfl,by kernel_rfl⟩ λn l q a ht hp=>time_ok n l q a.1 ht hp,raccE_ok,zBA⟩
theorem seeds_ok (n : Nat) (l : List Int) (q now : Int) (ht : TapeOk n (rI l) q) (hnow : 0 <= now /\ now <= 1099511627776) :
 ∃ (r : List Sed) (q' : Int),ZA r = true /\ TapeOk n (rI l) q' /\ YE Try.prog 15 [(cI .i64).enc now] (qM n (rI l) q) (.e (.c (slN ZB r))) (qM n (rI l) q'):=by
 refine qw (enc:=λr=>.e (.c (slN ZB r))) (wd:=1) (by decide) zN (zb LMv_ok) zP Try.func15 rfl _ (by show 1 + 1 <= _;decide) (λ_=>nff_sds) ?_;repeat' (first | (apply And.intro<;>intro hc<;>(first | exact Bool.noConfusion hc | (simp only [zb0] at hc) | skip)) | (refine And.intro zj ?_) | (apply And.intro) | (intro s hs))
 rename_i k0 hk0;have hk0' : 0 <= k0 /\ k0 < 10:=hk0;refine zU (zV LMv_ok) (λs : SdsS n l=>(⟨[(0,zL (.ptr 0 0 0 false)),(1,zL (.int .i64 now)),(5,zL (slN ZB s.L)),(6,zL (.int .i64 (s.k : Int)))],
  [(0,some (qM n (rI l) s.q))],1⟩ : Hd)) (λs=>s.k) (λ_=>rfl) ?_ ⟨k0.toNat,[],_,by omega,rfl,hs⟩ [] ⟨rfl,⟨zF rfl,zB rfl,zD (qi rfl),zB (by dsimp only;omega),trivial⟩,⟨⟨rfl,ZW⟩,trivial⟩⟩
 rintro ⟨k,L,q1,hk,hL,ht1⟩;dsimp only at hk hL ht1 ⊢;by_cases hk0 : 0 < k
 . repeat' (first | (apply And.intro<;>intro hc<;>(first | exact Bool.noConfusion hc | (exfalso;first | exact absurd rfl hc | omega) | (simp only [zl] at hc<;>first | exact absurd rfl hc | (exfalso;first | exact absurd rfl hc | omega) | skip) | skip)) | (refine And.intro zj ?_) | (apply And.intro) | (intro s hs;skip))
   . exact ⟨rfl,Zy _⟩
   . exact ⟨rfl,ZG _⟩
   . exact ⟨Eq.mpr (congrArg LHp (zr ZL _)) (zDz hL),Eq.mpr (congrArg (λz : Cas=>0 <= z.id) (zEi _)) (cas_i ‹_›),u32okt _⟩
   . have hv:=acc_okv hs (zr ZL _) (zEi _) (cas_i ‹_›) hc;conv=>whnf
     exact ⟨⟨k - 1,s.1,_,by omega,hv,by assumption⟩,[],by dsimp only;omega,rfl,⟨zF rfl,zB rfl,zD (give_St rfl rfl rfl),zB ((IntWalk.i64_in _ (by omega)).trans (by dsimp only;omega)),trivial⟩,⟨⟨rfl,ZW⟩,trivial⟩⟩
   . conv=>whnf
     exact ⟨⟨k - 1,L,_,by omega,hL,by assumption⟩,[],by dsimp only;omega,rfl,⟨zF rfl,zB rfl,zD (qK _).le,zB ((IntWalk.i64_in _ (by omega)).trans (by dsimp only;omega)),trivial⟩,⟨⟨rfl,ZW⟩,trivial⟩⟩
 . obtain rfl : k = 0:=by omega
   repeat' (first | (apply And.intro<;>intro hc<;>(first | exact Bool.noConfusion hc | (exfalso;first | exact absurd rfl hc | omega) | (simp only [zl] at hc<;>first | exact absurd rfl hc | (exfalso;first | exact absurd rfl hc | omega) | skip) | skip)) | (refine And.intro zj ?_) | (apply And.intro) | (intro s hs;skip))
   conv=>whnf
   exact ⟨(L,_),⟨hL,ht1⟩,⟨zD (qK _).le,ZW⟩⟩
abbrev seedsE : Zk:=zAc (AC.cons (cI .i64) AC.nil) (λa=>0 <= a.1 /\ a.1 <= 1099511627776) (λa (r : List Sed)=>ZA r = true) (λr=>.e (.c (slN ZB r)))
structure TrkS (n : Nat) (l : List Int) where
 k : Int
 x : Trk
 q : Int
 hk : 0 <= k /\ k <= 4
 hx : ZN x = true
 ht : TapeOk n (rI l) q
theorem zGQ (n : Nat) (l : List Int) (q b : Int) (ht : TapeOk n (rI l) q) (hb : 0 <= b /\ b <= 1099511627776) :
 ∃ (r : Trk) (q' : Int),ZN r = true /\ TapeOk n (rI l) q' /\ YE Try.prog 44 [(cI .i64).enc b] (qM n (rI l) q) ((cE eTk).enc r) (qM n (rI l) q'):=by
 refine qw (enc:=(cE eTk).enc) (wd:=1) (by decide) zN (zb zCn) zP Try.func44 rfl _ (by show 1 + 1 <= _;decide) (λr=>nff_elem eTk r) ?_;repeat' (first | (apply And.intro<;>intro hc<;>(first | exact Bool.noConfusion hc | (simp only [zb0] at hc) | skip)) | (refine And.intro zj ?_) | (apply And.intro) | (intro s hs))
 all_goals first
  | assumption
  | exact hb.1
  | exact hb.2
  | exact (zCQ _).1
  | exact (zCQ _).2
  | skip
 rename_i v1 hv1 q1 hq1 v2 hv2 q2 hq2 v3 hv3 q3 hq3 v4 hv4 q4 hq4 v5 hv5 q5 hq5 s0 hs0 v6 hv6;have hv1' : 0 <= v1 /\ v1 < 9:=hv1;have hv2' : 0 <= v2 /\ v2 < 5:=hv2;have hv3' : 0 <= v3 /\ v3 < 4:=hv3;have hv4' : 0 <= v4 /\ v4 <= 1099511627776:=hv4;have hv6' : 0 <= v6 /\ v6 < 5:=hv6;have hsv : ZN s0.1 = true:=by
  have e : s0 = zAA (IntKind.i64.wrap (2 + v1)) v2 v3 v4 (IntKind.u32.wrap v5):=hs0;rw [e,IntWalk.i64_in (2 + v1) (by omega)];exact zEW (Qv.2 (by omega)) hv4'
 clear hs0;refine zU (zV zCn) (λs : TrkS n l=>(⟨[(0,zL (.ptr 0 0 0 false)),(4,zL (.ptr 1 0 0 false)),(5,zL (.ptr 19 0 0 false)),(7,zL (.int .i64 s.k))],
  [(0,some (qM n (rI l) s.q)),(1,some ⟨82,1,8,true,λ_=>eTk.cell YL⟩),(19,some ⟨82,1,8,true,λ_=>eTk.cell s.x⟩)],20⟩ : Hd)) (λs=>s.k.toNat) (λ_=>rfl) ?_ ⟨v6,s0.1,s,by omega,hsv,hs⟩ [] ?_
 . rintro ⟨k,x,q,hk,hx,ht⟩;dsimp only;have hxn:=qx hx;have w1 : IntKind.i64.wrap (x.start + x.len) = x.start + x.len:=IntWalk.i64_in _ (by omega);repeat' (first | (apply And.intro<;>intro hc<;>(first | exact Bool.noConfusion hc | (simp only [zb0] at hc) | skip)) | (refine And.intro zj ?_) | (apply And.intro) | (intro s hs))
   all_goals first
    | exact (zCQ _).1
    | exact (zCQ _).2
    | skip
   . rename_i y1 hy1 p1 hp1 y2 hy2 p2 hp2;have hy1' : 0 <= y1 /\ y1 < 2:=hy1;have w2 : IntKind.i64.wrap (x.start + x.len - y1) = x.start + x.len - y1:=IntWalk.i64_in _ (by omega);have hzv : ZN s.1 = true:=by
      have e : s = Qr x (if IntKind.i64.wrap (IntKind.i64.wrap (x.start + x.len) - y1) < 1099511627776 then IntKind.i64.wrap (IntKind.i64.wrap (x.start + x.len) - y1) else 1099511627776) (IntKind.u32.wrap y2):=hs;rw [e,w1,w2];refine zGG hx ?_ ?_
      . split<;>omega
      . split<;>omega
     refine ⟨⟨k - 1,s.1,p2,by omega,hzv,by assumption⟩,[],by dsimp only<;>omega,rfl,?_,?_⟩
     . repeat' (first | exact zw0 | refine zB ?_ | refine zG ?_ | exact zw1 | apply And.intro)
       exact IntWalk.i64_in _ (by omega)
     . repeat' (first | exact zw0 | refine zB ?_ | refine zG ?_ | exact zw1 | apply And.intro)
       all_goals first
        | exact ZW
        | (change LeN _ _ _;refine zA3 ?_;repeat' (first | exact zw2 | refine Zo ?_ | exact zW ‹_› | apply And.intro))
   . rename_i y1 hy1;refine ⟨({ x with heard:=y1 },_),⟨zFa hx hy1,by assumption⟩,⟨QJ (Zo ?_),ZW⟩⟩;repeat' (first | exact zw2 | refine Zo ?_ | exact zW ‹_› | apply And.intro)
 . refine ⟨rfl,?_,?_⟩
   . exact zwf
   . repeat' (first | exact zw0 | refine zB ?_ | refine zG ?_ | exact zw1 | apply And.intro)
     . exact ZW
     all_goals (change LeN _ _ _;refine zA3 ?_;repeat' (first | exact zw2 | refine Zo ?_ | exact zW ‹_› | apply And.intro))
abbrev trickleE : Zk:=zAc (AC.cons (cI .i64) AC.nil) (λa=>0 <= a.1 /\ a.1 <= 1099511627776) (λa (r : Trk)=>ZN r = true) (cE eTk).enc
def LSo : CsL:=(43,some zFC) :: (44,some trickleE) :: LTb
theorem LSo_ok : qV Try.prog LSo:=⟨zCr,Qp ⟨_,Try.func44,rfl,by kernel_rfl⟩ λn l q a ht hp=>zGQ n l q a.1 ht hp,zBA⟩
theorem zAj {L : List Sed} {y : Sed} (h : ZA L = true) (h0 : 0 <= y.id) (hh : y.held.length <= 9223372036854775807) : LHp (L ++ [y]):=by
 have h8:=Zv h;have hp:=zDz h;refine ⟨⟨λx hx=>?_,by rw [List.length_append];show L.length + 1 <= _;omega⟩,λx hx=>?_⟩
 . rcases List.mem_append.1 hx with g | g
   . exact hp.h.h x g
   . rw [List.mem_singleton.1 g];exact hh
 . rcases List.mem_append.1 hx with g | g
   . exact hp.i x g
   . rw [List.mem_singleton.1 g];exact h0
theorem zAk {c : Wc} {k m : Nat} {t : TypeId} {L : List Sed} {y : Sed} {v : Bool} {f : Nat -> Nat -> CV} (hm : L.length = m) (hk : zX c.H k = some ⟨t,m + 1,3,v,f⟩) (hd : c.dead k = true) (h1 : ∀ p,p < m -> ∀ j,j < 3 -> Zu c (f p j) (zo ZB L p j)) (h2 : ∀ j,j < 3 -> Zu c (f m j) (ZB.cell y j)) : Zu c (.os k 0 (m + 1)) (slN ZB (L ++ [y])):=by
 subst hm;have hl : (L ++ [y]).length = L.length + 1:=by rw [List.length_append];rfl
 refine ZQ hk hd rfl hl.symm (Nat.le_of_eq (Nat.zero_add _)) λq hq j hj=>?_;have hj : j < 3:=hj;have hq : q < L.length + 1:=by omega
 show Zu c (f (0 + q) j) (zo ZB (L ++ [y]) q j);rw [Nat.zero_add];by_cases h : q < L.length
 . rw [show zo ZB (L ++ [y]) q j = zo ZB L q j from congrArg (λz=>ZB.cell z j) (by rw [List.getD_eq_getElem?_getD,List.getElem?_append_left h,<- List.getD_eq_getElem?_getD])];exact h1 q h j hj
 . obtain rfl : q = L.length:=by omega
   rw [show zo ZB (L ++ [y]) L.length j = ZB.cell y j from congrArg (λz=>ZB.cell z j) (by simp [List.getD_eq_getElem?_getD])];exact h2 j hj
theorem zAd {c : Wc} {k : Nat} {t : TypeId} {v : Bool} {h : Hel} {f : Nat -> Nat -> CV} (hk : zX c.H k = some ⟨t,1,11,v,f⟩) (hd : c.dead k = true) (h1 : ∀ j,j < 11 -> Zu c (f 0 j) (zm.cell h j)) : Zu c (.os k 0 1) (slN zm [h]):=by
 refine ZQ hk hd rfl rfl (Nat.le_refl _) λq hq j hj=>?_;obtain rfl : q = 0:=by omega
 exact h1 j hj
theorem held2_le {c : Wc} {k : Nat} {t : TypeId} {v : Bool} {h h' : Hel} {f : Nat -> Nat -> CV} (hk : zX c.H k = some ⟨t,2,11,v,f⟩) (hd : c.dead k = true) (h1 : ∀ j,j < 11 -> Zu c (f 0 j) (zm.cell h j)) (h2 : ∀ j,j < 11 -> Zu c (f 1 j) (zm.cell h' j)) : Zu c (.os k 0 2) (slN zm [h,h']):=by
 refine ZQ hk hd rfl rfl (Nat.le_refl _) λq hq j hj=>?_;rcases (show q = 0 \/ q = 1 by omega) with rfl | rfl
 . exact h1 j hj
 . exact h2 j hj
theorem zFj {α : Type} [Inhabited α] {E : NElem α} (hE : ∀ a,E.rd (E.cell a) = a) {l : List α} {k : Nat} (h : l.length = k) : Ys E k (zo E l) = l:=by
 subst h;exact zr hE l
theorem Yi {c : Wc} {k : Nat} {t : TypeId} {v : Bool} (hk : zX c.H k = some ⟨t,65,1,v,λ_=>nth [CV.int .u8 0]⟩) (hd : c.dead k = true) : Zu c (.os k 0 65) (slR eB (List.replicate 65 0)):=by
 refine ZQ hk hd rfl (by rw [List.length_replicate]) (Nat.le_refl _) λq hq j hj=>?_;have hj : j < 1:=hj;obtain rfl : j = 0:=by omega
 refine zC ?_;show (0 : Int) = (List.replicate 65 (0 : Int)).getD q default;rw [List.getD_eq_getElem?_getD,List.getElem?_replicate];split<;>rfl
theorem spoilS_ok (n : Nat) (l : List Int) (q : Int) (L : List Sed) (ht : TapeOk n (rI l) q) (hL : ZA L = true) :
 ∃ (r : List Sed) (q' : Int),LHp r /\ TapeOk n (rI l) q' /\ YE Try.prog 20 [(cNS ZB qA).enc L] (qM n (rI l) q) (.e (.c (slN ZB r))) (qM n (rI l) q'):=by
 have hc8:=vl_c8 hL;have h8:=Zv hL;refine qw (enc:=λr=>.e (.c (slN ZB r))) (wd:=9) (by decide) zN (zb LSo_ok) zP Try.func20 rfl _ (by show 1 + 1 <= _;decide) (λ_=>nff_sds) ?_;rcases (show L.length = 0 \/ L.length = 1 \/ L.length = 2 \/ L.length = 3 \/ L.length = 4 \/ L.length = 5 \/ L.length = 6 \/ L.length = 7 \/ L.length = 8 by omega) with hK | hK | hK | hK | hK | hK | hK | hK | hK;all_goals
  have wL : IntKind.i64.wrap (((L.length + 1 : Nat) : Int) - 1) = (L.length : Int):=(IntWalk.i64_in _ (by omega)).trans (by omega);rw [hK] at wL;repeat' (first | (simp only [hK,wL]) | (apply And.intro<;>intro hc<;>(first | exact Bool.noConfusion hc | (exfalso;first | exact absurd rfl hc | omega) | (simp only [zl] at hc<;>first | exact absurd rfl hc | (exfalso;first | exact absurd rfl hc | omega) | skip) | skip)) | (refine And.intro zj ?_) | (apply And.intro) | (intro s hs;(first | (have q : L = s:=(hs.trans (zFj ZL hK)).symm;clear hs;subst q) | skip)))
  all_goals try first
   | exact ⟨rfl,Zy _⟩
   | exact λ_ _=>⟨rfl,Zy _⟩
   | exact Eq.mpr (congrArg Cl8 (zFj ZL hK)) hc8
   | exact Eq.mpr (congrArg Cl8 (zr ZL _)) hc8
  . rename_i T hT q1 hq1 v hv;conv=>whnf
    refine ⟨(L ++ [⟨0,3,[⟨4,[],T,0⟩]⟩],_),⟨zAj hL (by dsimp only;omega) (Nat.le_of_ble_eq_true rfl),hs⟩,⟨zD (zAk hK rfl rfl (λp hp j hj=>?_) (λj hj=>?_)),ZW⟩⟩
    . rcases (show p = 0 \/ p = 1 \/ p = 2 \/ p = 3 \/ p = 4 \/ p = 5 \/ p = 6 \/ p = 7 by omega) with rfl | rfl | rfl | rfl | rfl | rfl | rfl | rfl
      . first | exact absurd hp (by decide) | (rcases j with _ | _ | _ | j<;>first | exact zC rfl | exact zh (L:=L) (p:=0) rfl rfl | exact absurd hj (by omega))
      . first | exact absurd hp (by decide) | (rcases j with _ | _ | _ | j<;>first | exact zC rfl | exact zh (L:=L) (p:=1) rfl rfl | exact absurd hj (by omega))
      . first | exact absurd hp (by decide) | (rcases j with _ | _ | _ | j<;>first | exact zC rfl | exact zh (L:=L) (p:=2) rfl rfl | exact absurd hj (by omega))
      . first | exact absurd hp (by decide) | (rcases j with _ | _ | _ | j<;>first | exact zC rfl | exact zh (L:=L) (p:=3) rfl rfl | exact absurd hj (by omega))
      . first | exact absurd hp (by decide) | (rcases j with _ | _ | _ | j<;>first | exact zC rfl | exact zh (L:=L) (p:=4) rfl rfl | exact absurd hj (by omega))
      . first | exact absurd hp (by decide) | (rcases j with _ | _ | _ | j<;>first | exact zC rfl | exact zh (L:=L) (p:=5) rfl rfl | exact absurd hj (by omega))
      . first | exact absurd hp (by decide) | (rcases j with _ | _ | _ | j<;>first | exact zC rfl | exact zh (L:=L) (p:=6) rfl rfl | exact absurd hj (by omega))
      . first | exact absurd hp (by decide) | (rcases j with _ | _ | _ | j<;>first | exact zC rfl | exact zh (L:=L) (p:=7) rfl rfl | exact absurd hj (by omega))
    . rcases j with _ | _ | _ | j
      . exact zC rfl
      . exact zC rfl
      . refine zAd rfl rfl λj hj=>?_;iterate 11 (rcases j with _ | j;· first | exact zC rfl | exact zW rfl | exact qi rfl | exact Yi rfl rfl)
        exact absurd hj (by omega)
      . exact absurd hj (by omega)
  . rename_i T hT q1 hq1 v hv c0;conv=>whnf
    refine ⟨(L ++ [⟨99,-1,[⟨4,[],T,0⟩]⟩],_),⟨zAj hL (by dsimp only;omega) (Nat.le_of_ble_eq_true rfl),hs⟩,⟨zD (zAk hK rfl rfl (λp hp j hj=>?_) (λj hj=>?_)),ZW⟩⟩
    . rcases (show p = 0 \/ p = 1 \/ p = 2 \/ p = 3 \/ p = 4 \/ p = 5 \/ p = 6 \/ p = 7 by omega) with rfl | rfl | rfl | rfl | rfl | rfl | rfl | rfl
      . first | exact absurd hp (by decide) | (rcases j with _ | _ | _ | j<;>first | exact zC rfl | exact zh (L:=L) (p:=0) rfl rfl | exact absurd hj (by omega))
      . first | exact absurd hp (by decide) | (rcases j with _ | _ | _ | j<;>first | exact zC rfl | exact zh (L:=L) (p:=1) rfl rfl | exact absurd hj (by omega))
      . first | exact absurd hp (by decide) | (rcases j with _ | _ | _ | j<;>first | exact zC rfl | exact zh (L:=L) (p:=2) rfl rfl | exact absurd hj (by omega))
      . first | exact absurd hp (by decide) | (rcases j with _ | _ | _ | j<;>first | exact zC rfl | exact zh (L:=L) (p:=3) rfl rfl | exact absurd hj (by omega))
      . first | exact absurd hp (by decide) | (rcases j with _ | _ | _ | j<;>first | exact zC rfl | exact zh (L:=L) (p:=4) rfl rfl | exact absurd hj (by omega))
      . first | exact absurd hp (by decide) | (rcases j with _ | _ | _ | j<;>first | exact zC rfl | exact zh (L:=L) (p:=5) rfl rfl | exact absurd hj (by omega))
      . first | exact absurd hp (by decide) | (rcases j with _ | _ | _ | j<;>first | exact zC rfl | exact zh (L:=L) (p:=6) rfl rfl | exact absurd hj (by omega))
      . first | exact absurd hp (by decide) | (rcases j with _ | _ | _ | j<;>first | exact zC rfl | exact zh (L:=L) (p:=7) rfl rfl | exact absurd hj (by omega))
    . rcases j with _ | _ | _ | j
      . exact zC rfl
      . exact zC rfl
      . refine zAd rfl rfl λj hj=>?_;iterate 11 (rcases j with _ | j;· first | exact zC rfl | exact zW rfl | exact qi rfl | exact Yi rfl rfl)
        exact absurd hj (by omega)
      . exact absurd hj (by omega)
  . rename_i T hT q1 hq1 v hv c0 c1;conv=>whnf
    refine ⟨(L ++ [⟨99,3,[⟨2,[],T,0⟩]⟩],_),⟨zAj hL (by dsimp only;omega) (Nat.le_of_ble_eq_true rfl),hs⟩,⟨zD (zAk hK rfl rfl (λp hp j hj=>?_) (λj hj=>?_)),ZW⟩⟩
    . rcases (show p = 0 \/ p = 1 \/ p = 2 \/ p = 3 \/ p = 4 \/ p = 5 \/ p = 6 \/ p = 7 by omega) with rfl | rfl | rfl | rfl | rfl | rfl | rfl | rfl
      . first | exact absurd hp (by decide) | (rcases j with _ | _ | _ | j<;>first | exact zC rfl | exact zh (L:=L) (p:=0) rfl rfl | exact absurd hj (by omega))
      . first | exact absurd hp (by decide) | (rcases j with _ | _ | _ | j<;>first | exact zC rfl | exact zh (L:=L) (p:=1) rfl rfl | exact absurd hj (by omega))
      . first | exact absurd hp (by decide) | (rcases j with _ | _ | _ | j<;>first | exact zC rfl | exact zh (L:=L) (p:=2) rfl rfl | exact absurd hj (by omega))
      . first | exact absurd hp (by decide) | (rcases j with _ | _ | _ | j<;>first | exact zC rfl | exact zh (L:=L) (p:=3) rfl rfl | exact absurd hj (by omega))
      . first | exact absurd hp (by decide) | (rcases j with _ | _ | _ | j<;>first | exact zC rfl | exact zh (L:=L) (p:=4) rfl rfl | exact absurd hj (by omega))
      . first | exact absurd hp (by decide) | (rcases j with _ | _ | _ | j<;>first | exact zC rfl | exact zh (L:=L) (p:=5) rfl rfl | exact absurd hj (by omega))
      . first | exact absurd hp (by decide) | (rcases j with _ | _ | _ | j<;>first | exact zC rfl | exact zh (L:=L) (p:=6) rfl rfl | exact absurd hj (by omega))
      . first | exact absurd hp (by decide) | (rcases j with _ | _ | _ | j<;>first | exact zC rfl | exact zh (L:=L) (p:=7) rfl rfl | exact absurd hj (by omega))
    . rcases j with _ | _ | _ | j
      . exact zC rfl
      . exact zC rfl
      . refine zAd rfl rfl λj hj=>?_;iterate 11 (rcases j with _ | j;· first | exact zC rfl | exact zW rfl | exact qi rfl | exact Yi rfl rfl)
        exact absurd hj (by omega)
      . exact absurd hj (by omega)
  . rename_i T hT q1 hq1 v hv c0 c1 c2;conv=>whnf
    refine ⟨(L ++ [⟨99,3,[⟨35,[],T,0⟩]⟩],_),⟨zAj hL (by dsimp only;omega) (Nat.le_of_ble_eq_true rfl),hs⟩,⟨zD (zAk hK rfl rfl (λp hp j hj=>?_) (λj hj=>?_)),ZW⟩⟩
    . rcases (show p = 0 \/ p = 1 \/ p = 2 \/ p = 3 \/ p = 4 \/ p = 5 \/ p = 6 \/ p = 7 by omega) with rfl | rfl | rfl | rfl | rfl | rfl | rfl | rfl
      . first | exact absurd hp (by decide) | (rcases j with _ | _ | _ | j<;>first | exact zC rfl | exact zh (L:=L) (p:=0) rfl rfl | exact absurd hj (by omega))
      . first | exact absurd hp (by decide) | (rcases j with _ | _ | _ | j<;>first | exact zC rfl | exact zh (L:=L) (p:=1) rfl rfl | exact absurd hj (by omega))
      . first | exact absurd hp (by decide) | (rcases j with _ | _ | _ | j<;>first | exact zC rfl | exact zh (L:=L) (p:=2) rfl rfl | exact absurd hj (by omega))
      . first | exact absurd hp (by decide) | (rcases j with _ | _ | _ | j<;>first | exact zC rfl | exact zh (L:=L) (p:=3) rfl rfl | exact absurd hj (by omega))
      . first | exact absurd hp (by decide) | (rcases j with _ | _ | _ | j<;>first | exact zC rfl | exact zh (L:=L) (p:=4) rfl rfl | exact absurd hj (by omega))
      . first | exact absurd hp (by decide) | (rcases j with _ | _ | _ | j<;>first | exact zC rfl | exact zh (L:=L) (p:=5) rfl rfl | exact absurd hj (by omega))
      . first | exact absurd hp (by decide) | (rcases j with _ | _ | _ | j<;>first | exact zC rfl | exact zh (L:=L) (p:=6) rfl rfl | exact absurd hj (by omega))
      . first | exact absurd hp (by decide) | (rcases j with _ | _ | _ | j<;>first | exact zC rfl | exact zh (L:=L) (p:=7) rfl rfl | exact absurd hj (by omega))
    . rcases j with _ | _ | _ | j
      . exact zC rfl
      . exact zC rfl
      . refine zAd rfl rfl λj hj=>?_;iterate 11 (rcases j with _ | j;· first | exact zC rfl | exact zW rfl | exact qi rfl | exact Yi rfl rfl)
        exact absurd hj (by omega)
      . exact absurd hj (by omega)
  . rename_i T hT q1 hq1 v hv c0 c1 c2 c3;conv=>whnf
    refine ⟨(L ++ [⟨99,3,[⟨4,List.replicate 65 0,T,0⟩]⟩],_),⟨zAj hL (by dsimp only;omega) (Nat.le_of_ble_eq_true rfl),hs⟩,⟨zD (zAk hK rfl rfl (λp hp j hj=>?_) (λj hj=>?_)),ZW⟩⟩
    . rcases (show p = 0 \/ p = 1 \/ p = 2 \/ p = 3 \/ p = 4 \/ p = 5 \/ p = 6 \/ p = 7 by omega) with rfl | rfl | rfl | rfl | rfl | rfl | rfl | rfl
      . first | exact absurd hp (by decide) | (rcases j with _ | _ | _ | j<;>first | exact zC rfl | exact zh (L:=L) (p:=0) rfl rfl | exact absurd hj (by omega))
      . first | exact absurd hp (by decide) | (rcases j with _ | _ | _ | j<;>first | exact zC rfl | exact zh (L:=L) (p:=1) rfl rfl | exact absurd hj (by omega))
      . first | exact absurd hp (by decide) | (rcases j with _ | _ | _ | j<;>first | exact zC rfl | exact zh (L:=L) (p:=2) rfl rfl | exact absurd hj (by omega))
      . first | exact absurd hp (by decide) | (rcases j with _ | _ | _ | j<;>first | exact zC rfl | exact zh (L:=L) (p:=3) rfl rfl | exact absurd hj (by omega))
      . first | exact absurd hp (by decide) | (rcases j with _ | _ | _ | j<;>first | exact zC rfl | exact zh (L:=L) (p:=4) rfl rfl | exact absurd hj (by omega))
      . first | exact absurd hp (by decide) | (rcases j with _ | _ | _ | j<;>first | exact zC rfl | exact zh (L:=L) (p:=5) rfl rfl | exact absurd hj (by omega))
      . first | exact absurd hp (by decide) | (rcases j with _ | _ | _ | j<;>first | exact zC rfl | exact zh (L:=L) (p:=6) rfl rfl | exact absurd hj (by omega))
      . first | exact absurd hp (by decide) | (rcases j with _ | _ | _ | j<;>first | exact zC rfl | exact zh (L:=L) (p:=7) rfl rfl | exact absurd hj (by omega))
    . rcases j with _ | _ | _ | j
      . exact zC rfl
      . exact zC rfl
      . refine zAd rfl rfl λj hj=>?_;iterate 11 (rcases j with _ | j;· first | exact zC rfl | exact zW rfl | exact qi rfl | exact Yi rfl rfl)
        exact absurd hj (by omega)
      . exact absurd hj (by omega)
  . rename_i T hT q1 hq1 v hv c0 c1 c2 c3 c4;conv=>whnf
    refine ⟨(L ++ [⟨99,3,[⟨4,[],{ T with len:=1 },0⟩]⟩],_),⟨zAj hL (by dsimp only;omega) (Nat.le_of_ble_eq_true rfl),hs⟩,⟨zD (zAk hK rfl rfl (λp hp j hj=>?_) (λj hj=>?_)),ZW⟩⟩
    . rcases (show p = 0 \/ p = 1 \/ p = 2 \/ p = 3 \/ p = 4 \/ p = 5 \/ p = 6 \/ p = 7 by omega) with rfl | rfl | rfl | rfl | rfl | rfl | rfl | rfl
      . first | exact absurd hp (by decide) | (rcases j with _ | _ | _ | j<;>first | exact zC rfl | exact zh (L:=L) (p:=0) rfl rfl | exact absurd hj (by omega))
      . first | exact absurd hp (by decide) | (rcases j with _ | _ | _ | j<;>first | exact zC rfl | exact zh (L:=L) (p:=1) rfl rfl | exact absurd hj (by omega))
      . first | exact absurd hp (by decide) | (rcases j with _ | _ | _ | j<;>first | exact zC rfl | exact zh (L:=L) (p:=2) rfl rfl | exact absurd hj (by omega))
      . first | exact absurd hp (by decide) | (rcases j with _ | _ | _ | j<;>first | exact zC rfl | exact zh (L:=L) (p:=3) rfl rfl | exact absurd hj (by omega))
      . first | exact absurd hp (by decide) | (rcases j with _ | _ | _ | j<;>first | exact zC rfl | exact zh (L:=L) (p:=4) rfl rfl | exact absurd hj (by omega))
      . first | exact absurd hp (by decide) | (rcases j with _ | _ | _ | j<;>first | exact zC rfl | exact zh (L:=L) (p:=5) rfl rfl | exact absurd hj (by omega))
      . first | exact absurd hp (by decide) | (rcases j with _ | _ | _ | j<;>first | exact zC rfl | exact zh (L:=L) (p:=6) rfl rfl | exact absurd hj (by omega))
      . first | exact absurd hp (by decide) | (rcases j with _ | _ | _ | j<;>first | exact zC rfl | exact zh (L:=L) (p:=7) rfl rfl | exact absurd hj (by omega))
    . rcases j with _ | _ | _ | j
      . exact zC rfl
      . exact zC rfl
      . refine zAd rfl rfl λj hj=>?_;iterate 11 (rcases j with _ | j;· first | exact zC rfl | exact zW rfl | exact qi rfl | exact Yi rfl rfl)
        exact absurd hj (by omega)
      . exact absurd hj (by omega)
  . rename_i T hT q1 hq1 v hv c0 c1 c2 c3 c4 c5;conv=>whnf
    refine ⟨(L ++ [⟨99,3,[⟨4,[],T,-1⟩]⟩],_),⟨zAj hL (by dsimp only;omega) (Nat.le_of_ble_eq_true rfl),hs⟩,⟨zD (zAk hK rfl rfl (λp hp j hj=>?_) (λj hj=>?_)),ZW⟩⟩
    . rcases (show p = 0 \/ p = 1 \/ p = 2 \/ p = 3 \/ p = 4 \/ p = 5 \/ p = 6 \/ p = 7 by omega) with rfl | rfl | rfl | rfl | rfl | rfl | rfl | rfl
      . first | exact absurd hp (by decide) | (rcases j with _ | _ | _ | j<;>first | exact zC rfl | exact zh (L:=L) (p:=0) rfl rfl | exact absurd hj (by omega))
      . first | exact absurd hp (by decide) | (rcases j with _ | _ | _ | j<;>first | exact zC rfl | exact zh (L:=L) (p:=1) rfl rfl | exact absurd hj (by omega))
      . first | exact absurd hp (by decide) | (rcases j with _ | _ | _ | j<;>first | exact zC rfl | exact zh (L:=L) (p:=2) rfl rfl | exact absurd hj (by omega))
      . first | exact absurd hp (by decide) | (rcases j with _ | _ | _ | j<;>first | exact zC rfl | exact zh (L:=L) (p:=3) rfl rfl | exact absurd hj (by omega))
      . first | exact absurd hp (by decide) | (rcases j with _ | _ | _ | j<;>first | exact zC rfl | exact zh (L:=L) (p:=4) rfl rfl | exact absurd hj (by omega))
      . first | exact absurd hp (by decide) | (rcases j with _ | _ | _ | j<;>first | exact zC rfl | exact zh (L:=L) (p:=5) rfl rfl | exact absurd hj (by omega))
      . first | exact absurd hp (by decide) | (rcases j with _ | _ | _ | j<;>first | exact zC rfl | exact zh (L:=L) (p:=6) rfl rfl | exact absurd hj (by omega))
      . first | exact absurd hp (by decide) | (rcases j with _ | _ | _ | j<;>first | exact zC rfl | exact zh (L:=L) (p:=7) rfl rfl | exact absurd hj (by omega))
    . rcases j with _ | _ | _ | j
      . exact zC rfl
      . exact zC rfl
      . refine zAd rfl rfl λj hj=>?_;iterate 11 (rcases j with _ | j;· first | exact zC rfl | exact zW rfl | exact qi rfl | exact Yi rfl rfl)
        exact absurd hj (by omega)
      . exact absurd hj (by omega)
  . rename_i T hT q1 hq1 v hv c0 c1 c2 c3 c4 c5;conv=>whnf
    refine ⟨(L ++ [⟨99,3,[⟨4,[],T,0⟩,⟨4,[],T,0⟩]⟩],_),⟨zAj hL (by dsimp only;omega) (Nat.le_of_ble_eq_true rfl),hs⟩,⟨zD (zAk hK rfl rfl (λp hp j hj=>?_) (λj hj=>?_)),ZW⟩⟩
    . rcases (show p = 0 \/ p = 1 \/ p = 2 \/ p = 3 \/ p = 4 \/ p = 5 \/ p = 6 \/ p = 7 by omega) with rfl | rfl | rfl | rfl | rfl | rfl | rfl | rfl
      . first | exact absurd hp (by decide) | (rcases j with _ | _ | _ | j<;>first | exact zC rfl | exact zh (L:=L) (p:=0) rfl rfl | exact absurd hj (by omega))
      . first | exact absurd hp (by decide) | (rcases j with _ | _ | _ | j<;>first | exact zC rfl | exact zh (L:=L) (p:=1) rfl rfl | exact absurd hj (by omega))
      . first | exact absurd hp (by decide) | (rcases j with _ | _ | _ | j<;>first | exact zC rfl | exact zh (L:=L) (p:=2) rfl rfl | exact absurd hj (by omega))
      . first | exact absurd hp (by decide) | (rcases j with _ | _ | _ | j<;>first | exact zC rfl | exact zh (L:=L) (p:=3) rfl rfl | exact absurd hj (by omega))
      . first | exact absurd hp (by decide) | (rcases j with _ | _ | _ | j<;>first | exact zC rfl | exact zh (L:=L) (p:=4) rfl rfl | exact absurd hj (by omega))
      . first | exact absurd hp (by decide) | (rcases j with _ | _ | _ | j<;>first | exact zC rfl | exact zh (L:=L) (p:=5) rfl rfl | exact absurd hj (by omega))
      . first | exact absurd hp (by decide) | (rcases j with _ | _ | _ | j<;>first | exact zC rfl | exact zh (L:=L) (p:=6) rfl rfl | exact absurd hj (by omega))
      . first | exact absurd hp (by decide) | (rcases j with _ | _ | _ | j<;>first | exact zC rfl | exact zh (L:=L) (p:=7) rfl rfl | exact absurd hj (by omega))
    . rcases j with _ | _ | _ | j
      . exact zC rfl
      . exact zC rfl
      . refine held2_le rfl rfl (λj hj=>?_) (λj hj=>?_)
        . iterate 11 (rcases j with _ | j;· first | exact zC rfl | exact zW rfl | exact qi rfl | exact Yi rfl rfl)
          exact absurd hj (by omega)
        . iterate 11 (rcases j with _ | j;· first | exact zC rfl | exact zW rfl | exact qi rfl | exact Yi rfl rfl)
          exact absurd hj (by omega)
      . exact absurd hj (by omega)
abbrev spoilSE : Zk:=zAc (AC.cons (cNS ZB qA) AC.nil) (λa=>ZA a.1 = true) (λa (r : List Sed)=>LHp r) (λr=>.e (.c (slN ZB r)))
theorem zGM : EntOk Try.prog 20 spoilSE:=Qp ⟨_,Try.func20,rfl,by kernel_rfl⟩ λn l q a ht hp=>spoilS_ok n l q a.1 ht hp
structure byL (l : List Int) : Prop where
 q : ∀ x ∈ l,0 <= x /\ x < 256
theorem eI_sz {k : IntKind} : 0 < (eI k).sz:=by show 0 < 1;omega
theorem zD1 {P : Program} {w : World} {a : Addr} : (loadCells a 0).run P w = .ok #[] w:=by
 have:=run_loadCells_list (P:=P) w a [] (λj v h=>by cases h);simpa using this
theorem zFx {P : Program} {r : QK} {X W : Nat -> Prop} {w : World} {x : List Int} {v : Value} {src dst e : TypeId} (hs : P.underlying src = some (.slice e)) (he : P.underlying e = some (.int .u8)) (hd : P.underlying dst = some .string)
 (h : (CV.sl false x.length 1 (QG (eI .u8) x)).rel r X W w v) : (convert src dst v).run P w = .ok (.string (strOfNums x)) w:=by
 obtain ⟨a,cap,rfl,hn,hc⟩:=h;rcases Nat.eq_zero_or_pos x.length with h0 | h0
 . have hx : x = []:=List.length_eq_zero_iff.1 h0;subst hx;cases a with
   | none=>exact run_convert_bytes_nil w src e hs he 0 cap dst hd
   | some ad=>
     show (convert src dst (.slice (some ad) 0 cap)).run P w = _;rw [run_convert_bytes_string w src dst e _ 0 cap hs he hd,run_bytesToString w ad 0 cap [] zD1];rfl
 . obtain ⟨ad,rfl,hsp,_,_,_,hcell⟩:=hc h0;obtain ⟨b,off,sp⟩:=ad;have hsp : sp = none:=hsp;subst hsp;refine run_convert_bytes_arg w src e hs he b off x.length cap x rfl (λi hi=>?_) dst hd;obtain ⟨u,hu,hr⟩:=hcell i hi 0 (by omega);have hr' : u = .int .u8 (x.getD i default):=hr;rw [show i * 1 + 0 = i by omega] at hu;rw [hu,hr'];rfl
theorem bequal_ok (x : List Int) : Ze Try.prog 82 [(cSl (eI .u8) eI_sz).enc x,(cSl (eI .u8) eI_sz).enc x] (cB.enc true):=by
 intro X w vals hrel hX;obtain ⟨v0,v1,rfl⟩ : ∃ v0 v1,vals = #[v0,v1]:=by
  have h2 : vals.size = 2:=hrel.1;match vals,h2 with
  | ⟨[a,b]⟩,_=>exact ⟨a,b,rfl⟩
 have h0 : (CV.sl false x.length 1 (QG (eI .u8) x)).rel (λ_=>none) X (λ_=>False) w v0:=hrel.2 0 _ v0 rfl rfl;have h1 : (CV.sl false x.length 1 (QG (eI .u8) x)).rel (λ_=>none) X (λ_=>False) w v1:=hrel.2 1 _ v1 rfl rfl;have r0:=zFx (dst:=9) Try.underlying30 Try.underlying5 Try.underlying9 h0;have r1:=zFx (dst:=9) Try.underlying30 Try.underlying5 Try.underlying9 h1;clear h0 h1 hrel;have key : Calls Try.prog 82 #[v0,v1] w λe w'=>e = .returned (.bool true) /\ w' = w:=by
  go_enter Try.func82,Try.ntmps82
  go_wp2
  go_ret
  exact ⟨rfl,rfl⟩
 refine key.mono λe w' ⟨he,hw⟩=>?_;subst he hw;exact ⟨_,rfl,Below.refl _ _,rfl⟩
def isIBt : CV -> Bool
 | .int _ _=>true
 | .bool _=>true
 | _=>false
theorem eqC_selft {x : CV} (h : isIBt x = true) : zA5 x x = true:=by
 cases x with
 | int k a=>show (a == a) = true;exact beq_self_eq_true _
 | bool a=>show (a == a) = true;exact beq_self_eq_true _
 | _=>cases h
theorem eqF_selft (f : Nat -> CV) (n : Nat) (h : ∀ i,i < n -> isIBt (f i) = true) : ZF f f n 0 = true:=
 zF2.2 λi hi=>by rw [Nat.zero_add];exact eqC_selft (h i hi)
def cFn (f : FuncId) : Codec Unit where
 enc _:=.e (.c (.fn f 0 0 λ_=>.top))
 dec H x:=match x with
  | .e (.c (.fn g n m _))=>bif Nat.beq g f && Nat.beq n 0 && Nat.beq m 0 then some ((),none,[]) else none
  | _=>none
 sound H H' x a p rd h hp hh:=by
  split at h
  . rename_i g n m a0;cases hb : (Nat.beq g f && Nat.beq n 0 && Nat.beq m 0) with
    | true=>
      rw [hb,cond_true] at h;injection h with h;injection h with h h';injection h' with h' h'';subst h h' h'';simp only [Bool.and_eq_true] at hb;have b1:=Nat.eq_of_beq_eq_true hb.1.1;have b2:=Nat.eq_of_beq_eq_true hb.1.2;have b3:=Nat.eq_of_beq_eq_true hb.2;subst b1 b2 b3;rintro cx r w v st ⟨fs,cs,rfl,h1,h2,h3,h4⟩;refine ⟨fs,cs,rfl,h1,h2,λk u hu=>?_,λk u hu=>?_⟩
      . have:=(Array.getElem?_eq_some_iff.1 hu).1;omega
      . have:=(Array.getElem?_eq_some_iff.1 hu).1;omega
    | false=>rw [hb] at h;cases h
  . cases h
abbrev beqtE : Zk:=qr (AC.cons (cSl (eI .u8) eI_sz) (AC.cons (cSl (eI .u8) eI_sz) AC.nil)) (λa=>a.1 = a.2.1) (λ_=>true) cB.enc
theorem beqtE_ok : EntOk Try.prog 82 beqtE:=zx ⟨_,Try.func82,rfl,by kernel_rfl⟩ λa h=>by
 obtain ⟨p,q,u⟩:=a;have h : p = q:=h;subst h;exact bequal_ok p
def LMta : CsL:=(82,some beqtE) :: []
theorem LMta_ok : qV Try.prog LMta:=⟨beqtE_ok,trivial⟩
theorem sameH_ok (h : Hel) : Ze Try.prog 81 [(cN zm).enc h,(cN zm).enc h] (cB.enc true):=by
 have s1 : ZF (λq=>helC h (2 + q)) (λq=>helC h (2 + q)) 8 0 = true:=eqF_selft _ 8 λi hi=>by
  iterate 8 (rcases i with _ | i;· exact rfl)
  exact absurd hi (by omega)
 refine zt (wd:=1) (by decide) zN (zb LMta_ok) zP Try.func81 rfl _ (by show 2 <= _;decide) _ ?_;repeat' (first | (apply And.intro<;>intro hc<;>(first | exact Bool.noConfusion hc | (exfalso;first | exact absurd rfl hc | exact absurd (beq_self_eq_true _) (by rw [hc];decide) | exact Bool.noConfusion (s1.symm.trans hc)) | (simp only [zl] at hc<;>first | exact absurd rfl hc | (exfalso;first | exact absurd rfl hc | exact absurd (beq_self_eq_true _) (by rw [hc];decide) | exact Bool.noConfusion (s1.symm.trans hc)) | skip) | skip)) | (refine And.intro zj ?_) | (apply And.intro) | (intro s hs;subst hs))
 . exact λ_=>rfl
 . exact λ_=>rfl
 . exact rfl
 . conv=>whnf
   exact Done.mk (zG (beq_self_eq_true _))
abbrev sameHE : Zk:=qr (AC.cons (cN zm) (AC.cons (cN zm) AC.nil)) (λa=>a.1 = a.2.1) (λ_=>true) cB.enc
theorem sameHE_ok : EntOk Try.prog 81 sameHE:=zx ⟨_,Try.func81,rfl,by kernel_rfl⟩ λa h=>by
 obtain ⟨p,q,u⟩:=a;have h : p = q:=h;subst h;exact sameH_ok p
def LMtb : CsL:=(81,some sameHE) :: []
theorem LMtb_ok : qV Try.prog LMtb:=⟨sameHE_ok,trivial⟩
theorem eqfH_ok (l : List Hel) (h : l.length <= 9223372036854775807) : Ze Try.prog 80 [(cNS zm zAy).enc l,(cNS zm zAy).enc l,(cFn 81).enc ()] (cB.enc true):=by
 refine zt (wd:=1) (by decide) zN (zb LMtb_ok) zP Try.func80 rfl _ (by show 3 <= _;decide) _ ?_;repeat' (first | (apply And.intro<;>intro hc<;>(first | exact Bool.noConfusion hc | (exfalso;first | exact absurd rfl hc | exact absurd (beq_self_eq_true _) (by rw [hc];decide) | omega) | (simp only [zl] at hc<;>first | exact absurd rfl hc | (exfalso;first | exact absurd rfl hc | exact absurd (beq_self_eq_true _) (by rw [hc];decide) | omega) | skip) | skip)) | (refine And.intro zj ?_) | (apply And.intro) | (intro s hs;subst hs))
 conv=>whnf
 refine zU (zV LMtb_ok) (λs : {i : Nat // i <= l.length}=>(⟨[(1,zL (ZT zm l)),(2,(cFn 81).enc ()),(15,zL (ZT zm l)),(16,zL (.int .i64 (l.length : Int))),(17,zL (.int .i64 (s.1 : Int)))],[],0⟩ : Hd)) (λs=>l.length - s.1) (λ_=>rfl) ?_ ⟨0,Nat.zero_le _⟩ [] ⟨rfl,⟨zD (zJ (zI l)),zD (zBg λk hk=>absurd hk (by omega)),zD (zJ (zI l)),zB rfl,zB rfl,trivial⟩,trivial⟩;rintro ⟨p,hp⟩;dsimp only at hp ⊢;unfold ZT;by_cases hpl : p < l.length
 . have w4 : IntKind.i64.wrap ((p : Int) + 1) = ((p + 1 : Nat) : Int):=(IntWalk.i64_in _ (by omega)).trans (by omega);repeat' (first | (apply And.intro<;>intro hc<;>(first | exact Bool.noConfusion hc | (exfalso;first | exact absurd rfl hc | exact absurd hc (by decide) | omega) | (simp only [zl] at hc<;>first | exact absurd rfl hc | (exfalso;first | exact absurd rfl hc | exact absurd hc (by decide) | omega) | skip) | skip)) | (refine And.intro zj ?_) | (apply And.intro) | (intro s hs;subst hs))
   . exact ⟨rfl,ZG _⟩
   . exact ⟨rfl,ZG _⟩
   . exact rfl
   . conv=>whnf
     exact ⟨⟨p + 1,hpl⟩,[],by dsimp only;omega,rfl,⟨zD (zJ (zI l)),zD (zBg λk hk=>absurd hk (by omega)),zD (zJ (zI l)),zB rfl,zB w4,trivial⟩,trivial⟩
 . repeat' (first | (apply And.intro<;>intro hc<;>(first | exact Bool.noConfusion hc | (exfalso;first | exact absurd rfl hc | omega) | (simp only [zl] at hc<;>first | exact absurd rfl hc | (exfalso;first | exact absurd rfl hc | omega) | skip) | skip)) | (refine And.intro zj ?_) | (apply And.intro) | (intro s hs;subst hs))
   conv=>whnf
   exact Done.mk (zG rfl)
abbrev eqfHE : Zk:=qr (AC.cons (cNS zm zAy) (AC.cons (cNS zm zAy) (AC.cons (cFn 81) AC.nil))) (λa=>a.1 = a.2.1 /\ a.1.length <= 9223372036854775807) (λ_=>true) cB.enc
theorem eqfHE_ok : EntOk Try.prog 80 eqfHE:=zx ⟨_,Try.func80,rfl,by kernel_rfl⟩ λa h=>by
 obtain ⟨p,q,r,u⟩:=a;obtain ⟨h,hn⟩:=h;dsimp only at h hn;subst h;exact eqfH_ok p hn
def LMtc : CsL:=(80,some eqfHE) :: []
theorem LMtc_ok : qV Try.prog LMtc:=⟨eqfHE_ok,trivial⟩
theorem sameS_ok (s : Sed) (h : s.held.length <= 9223372036854775807) : Ze Try.prog 71 [(cN ZB).enc s,(cN ZB).enc s] (cB.enc true):=by
 refine zt (wd:=1) (by decide) zN (zb LMtc_ok) zP Try.func71 rfl _ (by show 2 <= _;decide) _ ?_;repeat' (first | (apply And.intro<;>intro hc<;>(first | exact Bool.noConfusion hc | (exfalso;first | exact absurd rfl hc | exact absurd (beq_self_eq_true _) (by rw [hc];decide) | omega) | (simp only [zl] at hc<;>first | exact absurd rfl hc | (exfalso;first | exact absurd rfl hc | exact absurd (beq_self_eq_true _) (by rw [hc];decide) | omega) | skip) | skip)) | (refine And.intro zj ?_) | (apply And.intro) | (intro s hs;subst hs))
 . exact λ_=>⟨rfl,ZG _⟩
 . exact λ_=>⟨rfl,ZG _⟩
 . exact rfl
 . show (Ys zm s.held.length (zo zm s.held)).length <= _;rw [QW];exact h
 . conv=>whnf
   exact Done.mk (zG rfl)
abbrev sameSE : Zk:=qr (AC.cons (cN ZB) (AC.cons (cN ZB) AC.nil)) (λa=>a.1 = a.2.1 /\ a.1.held.length <= 9223372036854775807) (λ_=>true) cB.enc
theorem sameSE_ok : EntOk Try.prog 71 sameSE:=zx ⟨_,Try.func71,rfl,by kernel_rfl⟩ λa h=>by
 obtain ⟨p,q,u⟩:=a;obtain ⟨h,hn⟩:=h;dsimp only at h hn;subst h;exact sameS_ok p hn
def LMtd : CsL:=(71,some sameSE) :: []
theorem LMtd_ok : qV Try.prog LMtd:=⟨sameSE_ok,trivial⟩
theorem eqfS_ok (l : List Sed) (hk : ∀ x ∈ l,x.held.length <= 9223372036854775807) (h : l.length <= 9223372036854775807) : Ze Try.prog 70 [(cNS ZB qA).enc l,(cNS ZB qA).enc l,(cFn 71).enc ()] (cB.enc true):=by
 refine zt (wd:=1) (by decide) zN (zb LMtd_ok) zP Try.func70 rfl _ (by show 3 <= _;decide) _ ?_;repeat' (first | (apply And.intro<;>intro hc<;>(first | exact Bool.noConfusion hc | (exfalso;first | exact absurd rfl hc | exact absurd (beq_self_eq_true _) (by rw [hc];decide) | omega) | (simp only [zl] at hc<;>first | exact absurd rfl hc | (exfalso;first | exact absurd rfl hc | exact absurd (beq_self_eq_true _) (by rw [hc];decide) | omega) | skip) | skip)) | (refine And.intro zj ?_) | (apply And.intro) | (intro s hs;subst hs))
 conv=>whnf
 refine zU (zV LMtd_ok) (λs : {i : Nat // i <= l.length}=>(⟨[(1,zL (ZT ZB l)),(2,(cFn 71).enc ()),(15,zL (ZT ZB l)),(16,zL (.int .i64 (l.length : Int))),(17,zL (.int .i64 (s.1 : Int)))],[],0⟩ : Hd)) (λs=>l.length - s.1) (λ_=>rfl) ?_ ⟨0,Nat.zero_le _⟩ [] ⟨rfl,⟨zD (zJ (zI l)),zD (zBg λk hk=>absurd hk (by omega)),zD (zJ (zI l)),zB rfl,zB rfl,trivial⟩,trivial⟩;rintro ⟨p,hp⟩;dsimp only at hp ⊢;unfold ZT;by_cases hpl : p < l.length
 . have w4 : IntKind.i64.wrap ((p : Int) + 1) = ((p + 1 : Nat) : Int):=(IntWalk.i64_in _ (by omega)).trans (by omega);repeat' (first | (apply And.intro<;>intro hc<;>(first | exact Bool.noConfusion hc | (exfalso;first | exact absurd rfl hc | exact absurd hc (by decide) | omega) | (simp only [zl] at hc<;>first | exact absurd rfl hc | (exfalso;first | exact absurd rfl hc | exact absurd hc (by decide) | omega) | skip) | skip)) | (refine And.intro zj ?_) | (apply And.intro) | (intro s hs;subst hs))
   . exact ⟨rfl,Zy _⟩
   . exact ⟨rfl,Zy _⟩
   . exact rfl
   . exact Eq.mpr (congrArg (λz : List Hel=>z.length <= 9223372036854775807) (zD8 _)) (hk _ (zw hpl))
   . conv=>whnf
     exact ⟨⟨p + 1,hpl⟩,[],by dsimp only;omega,rfl,⟨zD (zJ (zI l)),zD (zBg λk hk=>absurd hk (by omega)),zD (zJ (zI l)),zB rfl,zB w4,trivial⟩,trivial⟩
 . repeat' (first | (apply And.intro<;>intro hc<;>(first | exact Bool.noConfusion hc | (exfalso;first | exact absurd rfl hc | omega) | (simp only [zl] at hc<;>first | exact absurd rfl hc | (exfalso;first | exact absurd rfl hc | omega) | skip) | skip)) | (refine And.intro zj ?_) | (apply And.intro) | (intro s hs;subst hs))
   conv=>whnf
   exact Done.mk (zG rfl)
abbrev eqfSE : Zk:=qr (AC.cons (cNS ZB qA) (AC.cons (cNS ZB qA) (AC.cons (cFn 71) AC.nil))) (λa=>a.1 = a.2.1 /\ (∀ x ∈ a.1,x.held.length <= 9223372036854775807) /\ a.1.length <= 9223372036854775807) (λ_=>true) cB.enc
theorem eqfSE_ok : EntOk Try.prog 70 eqfSE:=zx ⟨_,Try.func70,rfl,by kernel_rfl⟩ λa h=>by
 obtain ⟨p,q,r,u⟩:=a;obtain ⟨h,hk,hn⟩:=h;dsimp only at h hk hn;subst h;exact eqfS_ok p hk hn
def LMtf : CsL:=(70,some eqfSE) :: []
theorem LMtf_ok : qV Try.prog LMtf:=⟨eqfSE_ok,trivial⟩
theorem sames_ok (L : List Sed) (hL : LHn L) : Ze Try.prog 41 [(cNS ZB qA).enc L,(cNS ZB qA).enc L] (cB.enc true):=by
 refine zt (wd:=1) (by decide) zN (zb LMtf_ok) zP Try.func41 rfl _ (by show 2 <= _;decide) _ ?_;repeat' (first | (apply And.intro<;>intro hc<;>(first | exact Bool.noConfusion hc | (exfalso;first | exact absurd rfl hc | omega) | (simp only [zl] at hc<;>first | exact absurd rfl hc | (exfalso;first | exact absurd rfl hc | omega) | skip) | skip)) | (refine And.intro zj ?_) | (apply And.intro) | (intro s hs;subst hs))
 . exact λ_=>⟨rfl,Zy _⟩
 . exact λ_=>⟨rfl,Zy _⟩
 . exact rfl
 . exact Eq.mpr (congrArg (λz : List Sed=>∀ x ∈ z,x.held.length <= 9223372036854775807) (zr ZL _)) hL.h
 . exact Eq.mpr (congrArg (λz : List Sed=>z.length <= 9223372036854775807) (zr ZL _)) hL.n
 . conv=>whnf
   exact Done.mk (zG rfl)
abbrev samesE : Zk:=qr (AC.cons (cNS ZB qA) (AC.cons (cNS ZB qA) AC.nil)) (λa=>a.1 = a.2.1 /\ LHn a.1) (λ_=>true) cB.enc
theorem samesE_ok : EntOk Try.prog 41 samesE:=zx ⟨_,Try.func41,rfl,by kernel_rfl⟩ λa h=>by
 obtain ⟨p,q,u⟩:=a;obtain ⟨h,hn⟩:=h;dsimp only at h hn;subst h;exact sames_ok p hn
end Go.Proofs.Ytfaibcgakcmhcaa.AX
namespace Go.Proofs.Ytfaibcgakcmhcaa.AX
open Go.RowKit
def LRu : CsL:=(40,some zDF) :: []
theorem LRu_ok : qV Try.prog LRu:=⟨zx ⟨_,Try.func40,rfl,by kernel_rfl⟩ λa h=>zBf a.1 h,trivial⟩
theorem rsumm_ok (L : List Sed) (hL : LHp L) : zBG Try.prog 23 [(cNS ZB qA).enc L] (some (YY L).length) none (zA0 zu 60 (YY L)):=by
 obtain ⟨V,hV⟩ : ∃ V,ZA L = V:=⟨_,rfl⟩;obtain ⟨R,hR⟩ : ∃ R,YY L = R:=⟨_,rfl⟩;have h8' : V = true -> L.length <= 8:=λh=>Zv (hV.trans h);rw [hR];refine zBh (wd:=1) (by decide) zN (zb LRu_ok) zP Try.func23 rfl _ (by show 1 <= _;decide) (λi _ j _=>row_nf zu R i j) ?_;repeat' (first | (apply And.intro<;>intro hc<;>(first | exact Bool.noConfusion hc | (exfalso;first | exact absurd rfl hc | omega) | (simp only [zl] at hc<;>first | exact absurd rfl hc | (exfalso;first | exact absurd rfl hc | omega) | skip) | skip)) | (refine And.intro zj ?_) | (apply And.intro) | (intro s hs;(have q : V = s:=zAT hs (zr ZL _) hV;clear hs;subst q)))
 . exact λ_ _=>⟨rfl,Zy _⟩
 . exact Eq.mpr (congrArg LHp (zr ZL _)) hL
 . have e : R = []:=by rw [<- hR];unfold YY;rw [if_neg (by rw [hV,(by assumption : V = false)];simp)]
   subst e;conv=>whnf
   exact ⟨none,zD (Zh rfl),⟨rfl,rfl,Nat.le_of_ble_eq_true rfl⟩⟩
 have hVt : ZA L = true:=hV.trans ‹_›;have h8:=Zv hVt;have eR : L.map sumS = R:=by rw [<- hR];unfold YY;rw [if_pos hVt]
 conv=>whnf
 refine zU (zV LRu_ok) (λs : SySt L R=>(⟨[(3,zL (.os 50 0 s.O.length)),(12,zL (ZT ZB L)),(13,zL (.int .i64 (L.length : Int))),(14,zL (.int .i64 (s.i : Int)))],[(50,some (zA0 zu 60 s.O))],51⟩ : Hd)) (λs=>L.length - s.i) (λ_=>rfl) ?_ ⟨0,[],Nat.zero_le _,eR,rfl⟩ [(50,none)] ⟨rfl,⟨zD (Zh rfl),zD (zJ (zI L)),zB rfl,zB rfl,trivial⟩,⟨rfl,rfl,rfl,Nat.le_of_ble_eq_true rfl⟩,trivial⟩;rintro ⟨i,O,hi,hO,hOl⟩;dsimp only at hi hO hOl ⊢;unfold ZT;by_cases hil : i < L.length
 . have hx:=(qq hVt _ (zw hil)).2;obtain ⟨x,ex⟩ : ∃ x,L.getD i default = x:=⟨_,rfl⟩;have ec : zo ZB L i = ZB.cell x:=congrArg ZB.cell ex;rw [ex] at hx;have hO2 : (O ++ [sumS x]) ++ (L.drop (i + 1)).map sumS = R:=by rw [qL hil,ex] at hO;rw [<- hO];simp
   have z0 : (i : Int).toNat = i:=rfl;repeat' (first | (simp only [z0,ec]) | (apply And.intro<;>intro hc<;>(first | exact Bool.noConfusion hc | (exfalso;first | exact absurd rfl hc | omega) | (simp only [zl] at hc<;>first | exact absurd rfl hc | (exfalso;first | exact absurd rfl hc | omega) | skip) | skip)) | (refine And.intro zj ?_) | (apply And.intro) | (intro s hs;skip))
   conv=>whnf
   obtain ⟨W,eW⟩ : ∃ W,bitsF x.mn x.held 0 = W:=⟨_,rfl⟩;refine zU (zV LRu_ok) (λs : {p : Nat × Int // p.1 <= x.held.length /\ bitsF x.mn (x.held.drop p.1) p.2 = W}=>(⟨[(3,zL (.os 50 0 O.length)),(12,zL (ZT ZB L)),(13,zL (.int .i64 (L.length : Int))),(14,zL (.int .i64 (i : Int))),(5,zL (.ptr 51 0 0 false)),(6,zL (.ptr 52 0 0 false)),(24,zL (slN zm x.held)),(25,zL (.int .i64 (x.held.length : Int))),(26,zL (.int .i64 (s.1.1 : Int)))],[(50,some (zA0 zu 60 O)),(51,some ⟨78,1,3,true,λ_=>ZB.cell x⟩),(52,some ⟨60,1,3,true,λ_=>zu.cell ⟨x.id,x.mn,s.1.2⟩⟩)],53⟩ : Hd)) (λs=>x.held.length - s.1.1) (λ_=>rfl) ?_ ⟨(0,0),Nat.zero_le _,eW⟩ [(51,some 54),(52,some 61)] ⟨rfl,⟨zD (zH rfl rfl),zD (zJ (zI L)),zB rfl,zB rfl,zF rfl,zF rfl,zD (qK _).le,zB rfl,zB rfl,trivial⟩,⟨⟨rfl,zBM⟩,⟨rfl,zE λj hj=>(ZB.sh _ j hj).le⟩,⟨rfl,zE (Zr ⟨zC rfl,zC rfl,zC rfl⟩)⟩,trivial⟩⟩;rintro ⟨⟨k,b⟩,hk,hb⟩;dsimp only at hk hb ⊢;unfold ZT;by_cases hkn : k < x.held.length
   . have hm:=QQ hx (zw hkn);have hm1:=(QI hx.h _ (zw hkn)).1;have hmn:=hx.mn;have hmw:=hm.w;have hxn:=hx.n;have hst : bitsF x.mn (x.held.drop (k + 1)) (bits .or .u32 b (Yq .u32 1 ((x.held.getD k default).num - x.mn))) = W:=by rw [<- hb,qL hkn];rfl
     have w4 : IntKind.i64.wrap ((k : Int) + 1) = ((k + 1 : Nat) : Int):=(IntWalk.i64_in _ (by omega)).trans (by omega);have w5 : IntKind.i64.wrap ((x.held.getD k default).num - x.mn) = (x.held.getD k default).num - x.mn:=IntWalk.i64_in _ (by omega);have w7 : IntKind.u64.wrap ((x.held.getD k default).num - x.mn) = (x.held.getD k default).num - x.mn:=IntWalk.u64_in _ (by omega);have z1 : (k : Int).toNat = k:=rfl;repeat' (first | (simp only [z1,w4,w5,w7]) | (apply And.intro<;>intro hc<;>(first | exact Bool.noConfusion hc | (exfalso;first | exact absurd rfl hc | omega) | (simp only [zl] at hc<;>first | exact absurd rfl hc | (exfalso;first | exact absurd rfl hc | omega) | skip) | skip)) | (refine And.intro zj ?_) | (apply And.intro) | (intro s hs;skip))
     . show (0 : Int) <= (x.held.getD k default).num - x.mn;omega
     conv=>whnf
     exact ⟨⟨(k + 1,_),hkn,hst⟩,[],by dsimp only;omega,rfl,⟨zD (zH rfl rfl),zD (zJ (zI L)),zB rfl,zB rfl,zF rfl,zF rfl,zD (qK _).le,zB rfl,zB w4,trivial⟩,⟨⟨rfl,zBM⟩,⟨rfl,zE λj hj=>(ZB.sh _ j hj).le⟩,⟨rfl,zE (Zr ⟨zC rfl,zC rfl,zC rfl⟩)⟩,trivial⟩⟩
   . have e : b = W:=by rw [<- hb,List.drop_of_length_le (by omega)];rfl
     subst e;repeat' (first | (apply And.intro<;>intro hc<;>(first | exact Bool.noConfusion hc | (exfalso;first | exact absurd rfl hc | omega) | (simp only [zl] at hc<;>first | exact absurd rfl hc | (exfalso;first | exact absurd rfl hc | omega) | skip) | skip)) | (refine And.intro zj ?_) | (apply And.intro) | (intro s hs;skip))
     have w4 : IntKind.i64.wrap ((i : Int) + 1) = ((i + 1 : Nat) : Int):=(IntWalk.i64_in _ (by omega)).trans (by omega);conv=>whnf
     refine ⟨⟨i + 1,O ++ [sumS x],hil,hO2,by rw [List.length_append,hOl];rfl⟩,[(50,some 57)],by dsimp only;omega,rfl,⟨zD (zH rfl (by rw [List.length_append];rfl)),zD (zJ (zI L)),zB rfl,zB w4,trivial⟩,⟨⟨rfl,?_⟩,trivial⟩⟩;refine zDV (E:=zu) (L:=O) (x:=sumS x) rfl (λi hi j hj=>ZU (Nat.ble_eq_true_of_le hi) (Elem.flat _ _ _).le) ?_;repeat' (first | exact trivial | (refine Zd (Zt _) ?_;rw [Nat.sub_self];first | exact zC rfl | exact zC eW.symm) | apply And.intro)
 . have hi2 : i = L.length:=by omega
   subst hi2;have e : O = R:=by rw [<- hO,List.drop_of_length_le (Nat.le_refl _)];simp
   subst e;repeat' (first | (apply And.intro<;>intro hc<;>(first | exact Bool.noConfusion hc | (exfalso;first | exact absurd rfl hc | omega) | (simp only [zl] at hc<;>first | exact absurd rfl hc | (exfalso;first | exact absurd rfl hc | omega) | skip) | skip)) | (refine And.intro zj ?_) | (apply And.intro) | (intro s hs;skip))
   conv=>whnf
   exact ⟨some 50,zD (zH rfl rfl),zBM⟩
abbrev rsummE : Zk:=newE (AC.cons (cNS ZB qA) AC.nil) (λa=>LHp a.1) (λa=>YY a.1) (λs=>some s.length) (λ_=>none) (λs=>zA0 zu 60 s)
theorem rsummE_ok : EntOk Try.prog 23 rsummE:=zA2 ⟨_,Try.func23,rfl,by kernel_rfl⟩ (λs l h x hx=>by cases h) λa h=>rsumm_ok a.1 h
theorem cp_0 (L : List Sed) (S : List Smy) (now draw : Int) (hv : ZA L = true) (hS : ZR S = true) (hd : ZS draw) (ht : 0 <= now /\ now <= 1099511627776) (s : MapI (QU S now draw) L) (hi : s.i = 0) (hil : s.i < L.length) (K : Kt) :
 qR T (qH LMq) 1 Try.f29.ntmps 0 (Qg (Zc 4 (Try.f29.body.getD Code.ret))) (SC L S now draw s).fr (SC L S now draw s).H (SC L S now draw s).nx (Yt (λfr H _=>zA8 (SC L S now draw) (λs=>L.length - s.i) 0 (L.length - s.i) fr H) K):=by
 have h8:=Zv hv;obtain ⟨hS8,hSm⟩:=vys hS;have hX : SdOk (L.getD s.i default):=(qq hv _ (zw hil)).2;obtain ⟨s',es'⟩ : ∃ s',s.next hil _ rfl = s':=⟨_,rfl⟩;have f1 : s'.M = s.M.set s.i (QU S now draw (L.getD s.i default)):=by rw [<- es'];rfl
 have f4 : s'.i = s.i + 1:=by rw [<- es'];rfl
 clear es';obtain ⟨i,M,hn,hi0,h1,h2⟩:=s;dsimp only at hi hil hX f1 f4;subst hi;have hiM : 0 < M.length:=by omega
 have e0:=h2 0 (Nat.le_refl _);rw [<- e0] at hX f1;have hk:=hX.n;have hmn:=hX.mn;unfold SC;dsimp only;clear h1 h2 e0;repeat' (first | (apply And.intro<;>intro hc<;>(first | exact Bool.noConfusion hc | (exfalso;first | exact absurd rfl hc | omega) | (simp only [zl] at hc<;>first | exact absurd rfl hc | (exfalso;first | exact absurd rfl hc | omega) | skip) | skip)) | (refine And.intro zj ?_) | (apply And.intro) | (intro s hs;skip) | (refine Exists.intro _ (And.intro ⟨rfl,rfl,rfl⟩ ?_)))
 conv=>whnf
 obtain ⟨W,eW⟩ : ∃ W,ZK (M.getD 0 default).id S ⟨0,0,0⟩ = W:=⟨_,rfl⟩;refine zU (zV qz) (λs : {p : Nat × Smy // p.1 <= S.length /\ ZK (M.getD 0 default).id (S.drop p.1) p.2 = W}=>(⟨[(0,zL (ZT ZB L)),(1,zL (.int .i64 now)),(2,zL (Qy zu S)),(3,zL (.int .u32 draw)),(11,zL (.os 1 0 M.length)),(35,zL (.int .i64 (L.length : Int))),(36,zL (.int .i64 ((0 : Nat) : Int))),(12,zL (.int .i64 ((0 : Nat) : Int))),(13,zL (.ptr 10 0 0 false)),(39,zL (Qy zu S)),(40,zL (.int .i64 (S.length : Int))),(41,zL (.int .i64 (s.1.1 : Int)))],[(1,some (qp 2 M.length M)),(2,some (zS (M.getD 0 default).held)),(3,some (zS (M.getD 1 default).held)),(4,some (zS (M.getD 2 default).held)),(5,some (zS (M.getD 3 default).held)),(6,some (zS (M.getD 4 default).held)),(7,some (zS (M.getD 5 default).held)),(8,some (zS (M.getD 6 default).held)),(9,some (zS (M.getD 7 default).held)),(10,some ⟨60,1,3,true,λ_=>zu.cell s.1.2⟩)],11⟩ : Hd)) (λs=>S.length - s.1.1) (λ_=>rfl) ?_ ⟨(0,⟨0,0,0⟩),Nat.zero_le _,eW⟩ [(10,some 13)] ⟨rfl,⟨zD (zJ (zI L)),zB rfl,zM (zO zu S),zB rfl,zD (zH rfl rfl),zB rfl,zB rfl,zB rfl,zF rfl,zM (zO zu S),zB rfl,zB rfl,trivial⟩,⟨⟨rfl,zQ (by omega) (qJ rfl rfl rfl rfl rfl rfl rfl rfl)⟩,⟨rfl,zA⟩,⟨rfl,zA⟩,⟨rfl,zA⟩,⟨rfl,zA⟩,⟨rfl,zA⟩,⟨rfl,zA⟩,⟨rfl,zA⟩,⟨rfl,zA⟩,⟨rfl,zE (Zr ⟨zC rfl,zC rfl,zC rfl⟩)⟩,trivial⟩⟩;rintro ⟨⟨p,a⟩,hp,hW⟩;dsimp only at hp hW ⊢;unfold Qy;by_cases hpl : p < S.length
 . have w4 : IntKind.i64.wrap ((p : Int) + 1) = ((p + 1 : Nat) : Int):=(IntWalk.i64_in _ (by omega)).trans (by omega);have hst : ZK (M.getD 0 default).id (S.drop (p + 1)) (if (S.getD p default).id = (M.getD 0 default).id then S.getD p default else a) = W:=by rw [<- hW,qL hpl];rfl
   have n1 : (S.getD p default).id = (M.getD 0 default).id -> ZK (M.getD 0 default).id (S.drop (p + 1)) (S.getD p default) = W:=λh=>by rw [if_pos h] at hst;exact hst
   have n2 : ¬ (S.getD p default).id = (M.getD 0 default).id -> ZK (M.getD 0 default).id (S.drop (p + 1)) a = W:=λh=>by rw [if_neg h] at hst;exact hst
   clear hst;repeat' (first | (simp only [w4]) | (apply And.intro<;>intro hc<;>(first | exact Bool.noConfusion hc | (exfalso;first | exact absurd rfl hc | omega) | (simp only [zl] at hc<;>first | exact absurd rfl hc | (exfalso;first | exact absurd rfl hc | omega) | skip) | skip)) | (refine And.intro zj ?_) | (apply And.intro) | (intro s hs;skip) | (refine Exists.intro _ (And.intro ⟨rfl,rfl,rfl⟩ ?_)))
   . conv=>whnf
     exact ⟨⟨(p + 1,_),hpl,n1 hc⟩,[],by dsimp only;omega,rfl,⟨zD (zJ (zI L)),zB rfl,zM (zO zu S),zB rfl,zD (zH rfl rfl),zB rfl,zB rfl,zB rfl,zF rfl,zM (zO zu S),zB rfl,zB w4,trivial⟩,⟨⟨rfl,zQ (by omega) (qJ rfl rfl rfl rfl rfl rfl rfl rfl)⟩,⟨rfl,zA⟩,⟨rfl,zA⟩,⟨rfl,zA⟩,⟨rfl,zA⟩,⟨rfl,zA⟩,⟨rfl,zA⟩,⟨rfl,zA⟩,⟨rfl,zA⟩,⟨rfl,zE (Zr ⟨zC rfl,zC rfl,zC rfl⟩)⟩,trivial⟩⟩
   . conv=>whnf
     exact ⟨⟨(p + 1,a),hpl,n2 hc⟩,[],by dsimp only;omega,rfl,⟨zD (zJ (zI L)),zB rfl,zM (zO zu S),zB rfl,zD (zH rfl rfl),zB rfl,zB rfl,zB rfl,zF rfl,zM (zO zu S),zB rfl,zB w4,trivial⟩,⟨⟨rfl,zQ (by omega) (qJ rfl rfl rfl rfl rfl rfl rfl rfl)⟩,⟨rfl,zA⟩,⟨rfl,zA⟩,⟨rfl,zA⟩,⟨rfl,zA⟩,⟨rfl,zA⟩,⟨rfl,zA⟩,⟨rfl,zA⟩,⟨rfl,zA⟩,⟨rfl,zE λj hj=>(Elem.flat _ _ _).le⟩,trivial⟩⟩
 . obtain rfl : a = W:=by
    rw [List.drop_of_length_le (by omega)] at hW;exact hW
   clear hW;have hWm : 0 <= a.mn /\ a.mn <= 1073741824:=by rw [<- eW];exact Qi (λx hx=>(hSm x hx).2) ⟨Int.le_refl _,by decide⟩
   repeat' (first | (apply And.intro<;>intro hc<;>(first | exact Bool.noConfusion hc | (exfalso;first | exact absurd rfl hc | omega) | (simp only [zl] at hc<;>first | exact absurd rfl hc | (exfalso;first | exact absurd rfl hc | omega) | skip) | skip)) | (refine And.intro zj ?_) | (apply And.intro) | (intro s hs;skip) | (refine Exists.intro _ (And.intro ⟨rfl,rfl,rfl⟩ ?_)))
   conv=>whnf
   refine zU (zV qz) (λs : MapI (zAC a now draw) (M.getD 0 default).held=>(⟨[(0,zL (ZT ZB L)),(1,zL (.int .i64 now)),(2,zL (Qy zu S)),(3,zL (.int .u32 draw)),(11,zL (.os 1 0 M.length)),(35,zL (.int .i64 (L.length : Int))),(36,zL (.int .i64 ((0 : Nat) : Int))),(12,zL (.int .i64 ((0 : Nat) : Int))),(13,zL (.ptr 10 0 0 false)),(60,zL (.int .i64 ((M.getD 0 default).held.length : Int))),(61,zL (.int .i64 (s.i : Int)))],[(1,some (qp 2 M.length M)),(2,some (zS s.M)),(3,some (zS (M.getD 1 default).held)),(4,some (zS (M.getD 2 default).held)),(5,some (zS (M.getD 3 default).held)),(6,some (zS (M.getD 4 default).held)),(7,some (zS (M.getD 5 default).held)),(8,some (zS (M.getD 6 default).held)),(9,some (zS (M.getD 7 default).held)),(10,some ⟨60,1,3,true,λ_=>zu.cell a⟩)],11⟩ : Hd)) (λs=>(M.getD 0 default).held.length - s.i) (λ_=>rfl) ?_ (MapI.start _ _) [] ⟨rfl,⟨zD (zJ (zI L)),zB rfl,zM (zO zu S),zB rfl,zD (zH rfl rfl),zB rfl,zB rfl,zB rfl,zF rfl,zB rfl,zB rfl,trivial⟩,⟨⟨rfl,zQ (by omega) (qJ rfl rfl rfl rfl rfl rfl rfl rfl)⟩,⟨rfl,zA⟩,⟨rfl,zA⟩,⟨rfl,zA⟩,⟨rfl,zA⟩,⟨rfl,zA⟩,⟨rfl,zA⟩,⟨rfl,zA⟩,⟨rfl,zA⟩,⟨rfl,zE λj hj=>(Elem.flat _ _ _).le⟩,trivial⟩⟩;intro s0;by_cases hkn : s0.i < (M.getD 0 default).held.length
   . have w4 : IntKind.i64.wrap ((s0.i : Int) + 1) = ((s0.i + 1 : Nat) : Int):=(IntWalk.i64_in _ (by omega)).trans (by omega);have z0 : 0 + (s0.i : Int).toNat = s0.i:=Nat.zero_add s0.i;have eh:=s0.h2 s0.i (Nat.le_refl _);have hl:=s0.n;have bk : Nat.beq s0.i s0.i = true:=Nat.beq_refl _;have hx:=QQ hX (zw hkn);have hx1:=(QI hX.h _ (zw hkn)).1;rw [<- eh] at hx hx1;have hxb:=hx.b;obtain ⟨B,eB2⟩ : ∃ B,YC a (s0.M.getD s0.i default).num = B:=⟨_,rfl⟩;obtain ⟨T,eT⟩ : ∃ T,Zq (s0.M.getD s0.i default).tm now draw = T:=⟨_,rfl⟩;repeat' (first | (simp only [z0,w4,bk,Bool.cond_true]) | (apply And.intro<;>intro hc<;>(first | exact Bool.noConfusion hc | (exfalso;first | exact absurd rfl hc | omega) | (simp only [zl] at hc<;>first | exact absurd rfl hc | (exfalso;first | exact absurd rfl hc | omega) | skip) | skip)) | (refine And.intro zj ?_) | (apply And.intro) | (intro s hs;(first | (have q : B = s:=eB2.symm.trans hs.symm;clear hs;subst q) | (have q : T = s:=eT.symm.trans hs.symm;clear hs;subst q))) | (refine Exists.intro _ (And.intro ⟨rfl,rfl,rfl⟩ ?_)))
     . exact hc
     . conv=>whnf
       refine ⟨s0.next hkn (s0.M.set s0.i { s0.M.getD s0.i default with tm:=T.1 }) (by rw [<- eh,Qa ‹_› (eB2.trans ‹_›) eT]),[],by dsimp only [MapI.next];omega,rfl,⟨zD (zJ (zI L)),zB rfl,zM (zO zu S),zB rfl,zD (zH rfl rfl),zB rfl,zB rfl,zB rfl,zF rfl,zB rfl,zB w4,trivial⟩,⟨⟨rfl,zQ (by omega) (qJ rfl rfl rfl rfl rfl rfl rfl rfl)⟩,⟨rfl,qI ?_⟩,⟨rfl,zA⟩,⟨rfl,zA⟩,⟨rfl,zA⟩,⟨rfl,zA⟩,⟨rfl,zA⟩,⟨rfl,zA⟩,⟨rfl,zA⟩,⟨rfl,zE λj hj=>(Elem.flat _ _ _).le⟩,trivial⟩⟩;exact qd (by rw [hl];exact hkn) (qn ⟨zC rfl,(zm.sh _ 1 (by decide)).le,zC rfl,zC rfl,zC rfl,zC rfl,zC rfl,zC rfl,zC rfl,zW rfl,zC rfl⟩)
     . conv=>whnf
       exact ⟨s0.next hkn s0.M (by rw [<- eh,Qm (eB2.trans ‹_›)];exact ZH (by rw [hl];exact hkn)),[],by dsimp only [MapI.next];omega,rfl,⟨zD (zJ (zI L)),zB rfl,zM (zO zu S),zB rfl,zD (zH rfl rfl),zB rfl,zB rfl,zB rfl,zF rfl,zB rfl,zB w4,trivial⟩,⟨⟨rfl,zQ (by omega) (qJ rfl rfl rfl rfl rfl rfl rfl rfl)⟩,⟨rfl,zA⟩,⟨rfl,zA⟩,⟨rfl,zA⟩,⟨rfl,zA⟩,⟨rfl,zA⟩,⟨rfl,zA⟩,⟨rfl,zA⟩,⟨rfl,zA⟩,⟨rfl,zE λj hj=>(Elem.flat _ _ _).le⟩,trivial⟩⟩
     . conv=>whnf
       exact ⟨s0.next hkn s0.M (by rw [<- eh,Ql ‹_›];exact ZH (by rw [hl];exact hkn)),[],by dsimp only [MapI.next];omega,rfl,⟨zD (zJ (zI L)),zB rfl,zM (zO zu S),zB rfl,zD (zH rfl rfl),zB rfl,zB rfl,zB rfl,zF rfl,zB rfl,zB w4,trivial⟩,⟨⟨rfl,zQ (by omega) (qJ rfl rfl rfl rfl rfl rfl rfl rfl)⟩,⟨rfl,zA⟩,⟨rfl,zA⟩,⟨rfl,zA⟩,⟨rfl,zA⟩,⟨rfl,zA⟩,⟨rfl,zA⟩,⟨rfl,zA⟩,⟨rfl,zA⟩,⟨rfl,zE λj hj=>(Elem.flat _ _ _).le⟩,trivial⟩⟩
   . have l1:=s0.last hkn;have hkk:=s0.hi;have hl:=s0.n;have w6 : IntKind.i64.wrap ((0 : Int) + 1) = ((0 + 1 : Nat) : Int):=rfl;repeat' (first | (apply And.intro<;>intro hc<;>(first | exact Bool.noConfusion hc | (exfalso;first | exact absurd rfl hc | omega) | (simp only [zl] at hc<;>first | exact absurd rfl hc | (exfalso;first | exact absurd rfl hc | omega) | skip) | skip)) | (refine And.intro zj ?_) | (apply And.intro) | (intro s hs;skip) | (refine Exists.intro _ (And.intro ⟨rfl,rfl,rfl⟩ ?_)))
     conv=>whnf
     refine ⟨s',[],by show L.length - s'.i < _;rw [f4];omega,rfl,⟨zD (zJ (zI L)),zB rfl,zM (zO zu S),zB rfl,zD (zH rfl (by rw [f1,List.length_set])),zB rfl,zB (by rw [f4];rfl),trivial⟩,⟨⟨rfl,⟨rfl,by show _ = s'.M.length;rw [f1,List.length_set];rfl,rfl,rfl,λp hp j hj=>?_⟩⟩,⟨rfl,zR (by rw [f1,Qw hiM];exact l1.trans (by rw [<- eW];rfl))⟩,⟨rfl,zR (by rw [f1];exact congrArg Sed.held (zg (by decide)).symm)⟩,⟨rfl,zR (by rw [f1];exact congrArg Sed.held (zg (by decide)).symm)⟩,⟨rfl,zR (by rw [f1];exact congrArg Sed.held (zg (by decide)).symm)⟩,⟨rfl,zR (by rw [f1];exact congrArg Sed.held (zg (by decide)).symm)⟩,⟨rfl,zR (by rw [f1];exact congrArg Sed.held (zg (by decide)).symm)⟩,⟨rfl,zR (by rw [f1];exact congrArg Sed.held (zg (by decide)).symm)⟩,⟨rfl,zR (by rw [f1];exact congrArg Sed.held (zg (by decide)).symm)⟩,trivial⟩⟩;have hp : p < M.length:=hp;have hj : j < 3:=hj;show Zu _ (Zg 2 M p j) (Zg 2 s'.M p j);rw [f1];rcases (show p = 0 \/ p = 1 \/ p = 2 \/ p = 3 \/ p = 4 \/ p = 5 \/ p = 6 \/ p = 7 by omega) with rfl | rfl | rfl | rfl | rfl | rfl | rfl | rfl;all_goals first
      | exact qF hj (by decide) rfl rfl
      | skip
     refine qG hiM ?_;rcases j with _ | _ | _ | j
     . exact zC rfl
     . exact zC rfl
     . exact zH rfl (by show _ = (List.map _ _).length;rw [List.length_map])
     . omega
theorem cp_1 (L : List Sed) (S : List Smy) (now draw : Int) (hv : ZA L = true) (hS : ZR S = true) (hd : ZS draw) (ht : 0 <= now /\ now <= 1099511627776) (s : MapI (QU S now draw) L) (hi : s.i = 1) (hil : s.i < L.length) (K : Kt) :
 qR T (qH LMq) 1 Try.f29.ntmps 0 (Qg (Zc 4 (Try.f29.body.getD Code.ret))) (SC L S now draw s).fr (SC L S now draw s).H (SC L S now draw s).nx (Yt (λfr H _=>zA8 (SC L S now draw) (λs=>L.length - s.i) 0 (L.length - s.i) fr H) K):=by
 have h8:=Zv hv;obtain ⟨hS8,hSm⟩:=vys hS;have hX : SdOk (L.getD s.i default):=(qq hv _ (zw hil)).2;obtain ⟨s',es'⟩ : ∃ s',s.next hil _ rfl = s':=⟨_,rfl⟩;have f1 : s'.M = s.M.set s.i (QU S now draw (L.getD s.i default)):=by rw [<- es'];rfl
 have f4 : s'.i = s.i + 1:=by rw [<- es'];rfl
 clear es';obtain ⟨i,M,hn,hi0,h1,h2⟩:=s;dsimp only at hi hil hX f1 f4;subst hi;have hiM : 1 < M.length:=by omega
 have e0:=h2 1 (Nat.le_refl _);rw [<- e0] at hX f1;have hk:=hX.n;have hmn:=hX.mn;unfold SC;dsimp only;clear h1 h2 e0;repeat' (first | (apply And.intro<;>intro hc<;>(first | exact Bool.noConfusion hc | (exfalso;first | exact absurd rfl hc | omega) | (simp only [zl] at hc<;>first | exact absurd rfl hc | (exfalso;first | exact absurd rfl hc | omega) | skip) | skip)) | (refine And.intro zj ?_) | (apply And.intro) | (intro s hs;skip) | (refine Exists.intro _ (And.intro ⟨rfl,rfl,rfl⟩ ?_)))
 conv=>whnf
 obtain ⟨W,eW⟩ : ∃ W,ZK (M.getD 1 default).id S ⟨0,0,0⟩ = W:=⟨_,rfl⟩;refine zU (zV qz) (λs : {p : Nat × Smy // p.1 <= S.length /\ ZK (M.getD 1 default).id (S.drop p.1) p.2 = W}=>(⟨[(0,zL (ZT ZB L)),(1,zL (.int .i64 now)),(2,zL (Qy zu S)),(3,zL (.int .u32 draw)),(11,zL (.os 1 0 M.length)),(35,zL (.int .i64 (L.length : Int))),(36,zL (.int .i64 ((1 : Nat) : Int))),(12,zL (.int .i64 ((1 : Nat) : Int))),(13,zL (.ptr 10 0 0 false)),(39,zL (Qy zu S)),(40,zL (.int .i64 (S.length : Int))),(41,zL (.int .i64 (s.1.1 : Int)))],[(1,some (qp 2 M.length M)),(2,some (zS (M.getD 0 default).held)),(3,some (zS (M.getD 1 default).held)),(4,some (zS (M.getD 2 default).held)),(5,some (zS (M.getD 3 default).held)),(6,some (zS (M.getD 4 default).held)),(7,some (zS (M.getD 5 default).held)),(8,some (zS (M.getD 6 default).held)),(9,some (zS (M.getD 7 default).held)),(10,some ⟨60,1,3,true,λ_=>zu.cell s.1.2⟩)],11⟩ : Hd)) (λs=>S.length - s.1.1) (λ_=>rfl) ?_ ⟨(0,⟨0,0,0⟩),Nat.zero_le _,eW⟩ [(10,some 13)] ⟨rfl,⟨zD (zJ (zI L)),zB rfl,zM (zO zu S),zB rfl,zD (zH rfl rfl),zB rfl,zB rfl,zB rfl,zF rfl,zM (zO zu S),zB rfl,zB rfl,trivial⟩,⟨⟨rfl,zQ (by omega) (qJ rfl rfl rfl rfl rfl rfl rfl rfl)⟩,⟨rfl,zA⟩,⟨rfl,zA⟩,⟨rfl,zA⟩,⟨rfl,zA⟩,⟨rfl,zA⟩,⟨rfl,zA⟩,⟨rfl,zA⟩,⟨rfl,zA⟩,⟨rfl,zE (Zr ⟨zC rfl,zC rfl,zC rfl⟩)⟩,trivial⟩⟩;rintro ⟨⟨p,a⟩,hp,hW⟩;dsimp only at hp hW ⊢;unfold Qy;by_cases hpl : p < S.length
 . have w4 : IntKind.i64.wrap ((p : Int) + 1) = ((p + 1 : Nat) : Int):=(IntWalk.i64_in _ (by omega)).trans (by omega);have hst : ZK (M.getD 1 default).id (S.drop (p + 1)) (if (S.getD p default).id = (M.getD 1 default).id then S.getD p default else a) = W:=by rw [<- hW,qL hpl];rfl
   have n1 : (S.getD p default).id = (M.getD 1 default).id -> ZK (M.getD 1 default).id (S.drop (p + 1)) (S.getD p default) = W:=λh=>by rw [if_pos h] at hst;exact hst
   have n2 : ¬ (S.getD p default).id = (M.getD 1 default).id -> ZK (M.getD 1 default).id (S.drop (p + 1)) a = W:=λh=>by rw [if_neg h] at hst;exact hst
   clear hst;repeat' (first | (simp only [w4]) | (apply And.intro<;>intro hc<;>(first | exact Bool.noConfusion hc | (exfalso;first | exact absurd rfl hc | omega) | (simp only [zl] at hc<;>first | exact absurd rfl hc | (exfalso;first | exact absurd rfl hc | omega) | skip) | skip)) | (refine And.intro zj ?_) | (apply And.intro) | (intro s hs;skip) | (refine Exists.intro _ (And.intro ⟨rfl,rfl,rfl⟩ ?_)))
   . conv=>whnf
     exact ⟨⟨(p + 1,_),hpl,n1 hc⟩,[],by dsimp only;omega,rfl,⟨zD (zJ (zI L)),zB rfl,zM (zO zu S),zB rfl,zD (zH rfl rfl),zB rfl,zB rfl,zB rfl,zF rfl,zM (zO zu S),zB rfl,zB w4,trivial⟩,⟨⟨rfl,zQ (by omega) (qJ rfl rfl rfl rfl rfl rfl rfl rfl)⟩,⟨rfl,zA⟩,⟨rfl,zA⟩,⟨rfl,zA⟩,⟨rfl,zA⟩,⟨rfl,zA⟩,⟨rfl,zA⟩,⟨rfl,zA⟩,⟨rfl,zA⟩,⟨rfl,zE (Zr ⟨zC rfl,zC rfl,zC rfl⟩)⟩,trivial⟩⟩
   . conv=>whnf
     exact ⟨⟨(p + 1,a),hpl,n2 hc⟩,[],by dsimp only;omega,rfl,⟨zD (zJ (zI L)),zB rfl,zM (zO zu S),zB rfl,zD (zH rfl rfl),zB rfl,zB rfl,zB rfl,zF rfl,zM (zO zu S),zB rfl,zB w4,trivial⟩,⟨⟨rfl,zQ (by omega) (qJ rfl rfl rfl rfl rfl rfl rfl rfl)⟩,⟨rfl,zA⟩,⟨rfl,zA⟩,⟨rfl,zA⟩,⟨rfl,zA⟩,⟨rfl,zA⟩,⟨rfl,zA⟩,⟨rfl,zA⟩,⟨rfl,zA⟩,⟨rfl,zE λj hj=>(Elem.flat _ _ _).le⟩,trivial⟩⟩
 . obtain rfl : a = W:=by
    rw [List.drop_of_length_le (by omega)] at hW;exact hW
   clear hW;have hWm : 0 <= a.mn /\ a.mn <= 1073741824:=by rw [<- eW];exact Qi (λx hx=>(hSm x hx).2) ⟨Int.le_refl _,by decide⟩
   repeat' (first | (apply And.intro<;>intro hc<;>(first | exact Bool.noConfusion hc | (exfalso;first | exact absurd rfl hc | omega) | (simp only [zl] at hc<;>first | exact absurd rfl hc | (exfalso;first | exact absurd rfl hc | omega) | skip) | skip)) | (refine And.intro zj ?_) | (apply And.intro) | (intro s hs;skip) | (refine Exists.intro _ (And.intro ⟨rfl,rfl,rfl⟩ ?_)))
   conv=>whnf
   refine zU (zV qz) (λs : MapI (zAC a now draw) (M.getD 1 default).held=>(⟨[(0,zL (ZT ZB L)),(1,zL (.int .i64 now)),(2,zL (Qy zu S)),(3,zL (.int .u32 draw)),(11,zL (.os 1 0 M.length)),(35,zL (.int .i64 (L.length : Int))),(36,zL (.int .i64 ((1 : Nat) : Int))),(12,zL (.int .i64 ((1 : Nat) : Int))),(13,zL (.ptr 10 0 0 false)),(60,zL (.int .i64 ((M.getD 1 default).held.length : Int))),(61,zL (.int .i64 (s.i : Int)))],[(1,some (qp 2 M.length M)),(2,some (zS (M.getD 0 default).held)),(3,some (zS s.M)),(4,some (zS (M.getD 2 default).held)),(5,some (zS (M.getD 3 default).held)),(6,some (zS (M.getD 4 default).held)),(7,some (zS (M.getD 5 default).held)),(8,some (zS (M.getD 6 default).held)),(9,some (zS (M.getD 7 default).held)),(10,some ⟨60,1,3,true,λ_=>zu.cell a⟩)],11⟩ : Hd)) (λs=>(M.getD 1 default).held.length - s.i) (λ_=>rfl) ?_ (MapI.start _ _) [] ⟨rfl,⟨zD (zJ (zI L)),zB rfl,zM (zO zu S),zB rfl,zD (zH rfl rfl),zB rfl,zB rfl,zB rfl,zF rfl,zB rfl,zB rfl,trivial⟩,⟨⟨rfl,zQ (by omega) (qJ rfl rfl rfl rfl rfl rfl rfl rfl)⟩,⟨rfl,zA⟩,⟨rfl,zA⟩,⟨rfl,zA⟩,⟨rfl,zA⟩,⟨rfl,zA⟩,⟨rfl,zA⟩,⟨rfl,zA⟩,⟨rfl,zA⟩,⟨rfl,zE λj hj=>(Elem.flat _ _ _).le⟩,trivial⟩⟩;intro s0;by_cases hkn : s0.i < (M.getD 1 default).held.length
   . have w4 : IntKind.i64.wrap ((s0.i : Int) + 1) = ((s0.i + 1 : Nat) : Int):=(IntWalk.i64_in _ (by omega)).trans (by omega);have z0 : 0 + (s0.i : Int).toNat = s0.i:=Nat.zero_add s0.i;have eh:=s0.h2 s0.i (Nat.le_refl _);have hl:=s0.n;have bk : Nat.beq s0.i s0.i = true:=Nat.beq_refl _;have hx:=QQ hX (zw hkn);have hx1:=(QI hX.h _ (zw hkn)).1;rw [<- eh] at hx hx1;have hxb:=hx.b;obtain ⟨B,eB2⟩ : ∃ B,YC a (s0.M.getD s0.i default).num = B:=⟨_,rfl⟩;obtain ⟨T,eT⟩ : ∃ T,Zq (s0.M.getD s0.i default).tm now draw = T:=⟨_,rfl⟩;repeat' (first | (simp only [z0,w4,bk,Bool.cond_true]) | (apply And.intro<;>intro hc<;>(first | exact Bool.noConfusion hc | (exfalso;first | exact absurd rfl hc | omega) | (simp only [zl] at hc<;>first | exact absurd rfl hc | (exfalso;first | exact absurd rfl hc | omega) | skip) | skip)) | (refine And.intro zj ?_) | (apply And.intro) | (intro s hs;(first | (have q : B = s:=eB2.symm.trans hs.symm;clear hs;subst q) | (have q : T = s:=eT.symm.trans hs.symm;clear hs;subst q))) | (refine Exists.intro _ (And.intro ⟨rfl,rfl,rfl⟩ ?_)))
     . exact hc
     . conv=>whnf
       refine ⟨s0.next hkn (s0.M.set s0.i { s0.M.getD s0.i default with tm:=T.1 }) (by rw [<- eh,Qa ‹_› (eB2.trans ‹_›) eT]),[],by dsimp only [MapI.next];omega,rfl,⟨zD (zJ (zI L)),zB rfl,zM (zO zu S),zB rfl,zD (zH rfl rfl),zB rfl,zB rfl,zB rfl,zF rfl,zB rfl,zB w4,trivial⟩,⟨⟨rfl,zQ (by omega) (qJ rfl rfl rfl rfl rfl rfl rfl rfl)⟩,⟨rfl,zA⟩,⟨rfl,qI ?_⟩,⟨rfl,zA⟩,⟨rfl,zA⟩,⟨rfl,zA⟩,⟨rfl,zA⟩,⟨rfl,zA⟩,⟨rfl,zA⟩,⟨rfl,zE λj hj=>(Elem.flat _ _ _).le⟩,trivial⟩⟩;exact qd (by rw [hl];exact hkn) (qn ⟨zC rfl,(zm.sh _ 1 (by decide)).le,zC rfl,zC rfl,zC rfl,zC rfl,zC rfl,zC rfl,zC rfl,zW rfl,zC rfl⟩)
     . conv=>whnf
       exact ⟨s0.next hkn s0.M (by rw [<- eh,Qm (eB2.trans ‹_›)];exact ZH (by rw [hl];exact hkn)),[],by dsimp only [MapI.next];omega,rfl,⟨zD (zJ (zI L)),zB rfl,zM (zO zu S),zB rfl,zD (zH rfl rfl),zB rfl,zB rfl,zB rfl,zF rfl,zB rfl,zB w4,trivial⟩,⟨⟨rfl,zQ (by omega) (qJ rfl rfl rfl rfl rfl rfl rfl rfl)⟩,⟨rfl,zA⟩,⟨rfl,zA⟩,⟨rfl,zA⟩,⟨rfl,zA⟩,⟨rfl,zA⟩,⟨rfl,zA⟩,⟨rfl,zA⟩,⟨rfl,zA⟩,⟨rfl,zE λj hj=>(Elem.flat _ _ _).le⟩,trivial⟩⟩
     . conv=>whnf
       exact ⟨s0.next hkn s0.M (by rw [<- eh,Ql ‹_›];exact ZH (by rw [hl];exact hkn)),[],by dsimp only [MapI.next];omega,rfl,⟨zD (zJ (zI L)),zB rfl,zM (zO zu S),zB rfl,zD (zH rfl rfl),zB rfl,zB rfl,zB rfl,zF rfl,zB rfl,zB w4,trivial⟩,⟨⟨rfl,zQ (by omega) (qJ rfl rfl rfl rfl rfl rfl rfl rfl)⟩,⟨rfl,zA⟩,⟨rfl,zA⟩,⟨rfl,zA⟩,⟨rfl,zA⟩,⟨rfl,zA⟩,⟨rfl,zA⟩,⟨rfl,zA⟩,⟨rfl,zA⟩,⟨rfl,zE λj hj=>(Elem.flat _ _ _).le⟩,trivial⟩⟩
   . have l1:=s0.last hkn;have hkk:=s0.hi;have hl:=s0.n;have w6 : IntKind.i64.wrap ((1 : Int) + 1) = ((1 + 1 : Nat) : Int):=rfl;repeat' (first | (apply And.intro<;>intro hc<;>(first | exact Bool.noConfusion hc | (exfalso;first | exact absurd rfl hc | omega) | (simp only [zl] at hc<;>first | exact absurd rfl hc | (exfalso;first | exact absurd rfl hc | omega) | skip) | skip)) | (refine And.intro zj ?_) | (apply And.intro) | (intro s hs;skip) | (refine Exists.intro _ (And.intro ⟨rfl,rfl,rfl⟩ ?_)))
     conv=>whnf
     refine ⟨s',[],by show L.length - s'.i < _;rw [f4];omega,rfl,⟨zD (zJ (zI L)),zB rfl,zM (zO zu S),zB rfl,zD (zH rfl (by rw [f1,List.length_set])),zB rfl,zB (by rw [f4];rfl),trivial⟩,⟨⟨rfl,⟨rfl,by show _ = s'.M.length;rw [f1,List.length_set];rfl,rfl,rfl,λp hp j hj=>?_⟩⟩,⟨rfl,zR (by rw [f1];exact congrArg Sed.held (zg (by decide)).symm)⟩,⟨rfl,zR (by rw [f1,Qw hiM];exact l1.trans (by rw [<- eW];rfl))⟩,⟨rfl,zR (by rw [f1];exact congrArg Sed.held (zg (by decide)).symm)⟩,⟨rfl,zR (by rw [f1];exact congrArg Sed.held (zg (by decide)).symm)⟩,⟨rfl,zR (by rw [f1];exact congrArg Sed.held (zg (by decide)).symm)⟩,⟨rfl,zR (by rw [f1];exact congrArg Sed.held (zg (by decide)).symm)⟩,⟨rfl,zR (by rw [f1];exact congrArg Sed.held (zg (by decide)).symm)⟩,⟨rfl,zR (by rw [f1];exact congrArg Sed.held (zg (by decide)).symm)⟩,trivial⟩⟩;have hp : p < M.length:=hp;have hj : j < 3:=hj;show Zu _ (Zg 2 M p j) (Zg 2 s'.M p j);rw [f1];rcases (show p = 0 \/ p = 1 \/ p = 2 \/ p = 3 \/ p = 4 \/ p = 5 \/ p = 6 \/ p = 7 by omega) with rfl | rfl | rfl | rfl | rfl | rfl | rfl | rfl;all_goals first
      | exact qF hj (by decide) rfl rfl
      | skip
     refine qG hiM ?_;rcases j with _ | _ | _ | j
     . exact zC rfl
     . exact zC rfl
     . exact zH rfl (by show _ = (List.map _ _).length;rw [List.length_map])
     . omega
theorem cp_2 (L : List Sed) (S : List Smy) (now draw : Int) (hv : ZA L = true) (hS : ZR S = true) (hd : ZS draw) (ht : 0 <= now /\ now <= 1099511627776) (s : MapI (QU S now draw) L) (hi : s.i = 2) (hil : s.i < L.length) (K : Kt) :
 qR T (qH LMq) 1 Try.f29.ntmps 0 (Qg (Zc 4 (Try.f29.body.getD Code.ret))) (SC L S now draw s).fr (SC L S now draw s).H (SC L S now draw s).nx (Yt (λfr H _=>zA8 (SC L S now draw) (λs=>L.length - s.i) 0 (L.length - s.i) fr H) K):=by
 have h8:=Zv hv;obtain ⟨hS8,hSm⟩:=vys hS;have hX : SdOk (L.getD s.i default):=(qq hv _ (zw hil)).2;obtain ⟨s',es'⟩ : ∃ s',s.next hil _ rfl = s':=⟨_,rfl⟩;have f1 : s'.M = s.M.set s.i (QU S now draw (L.getD s.i default)):=by rw [<- es'];rfl
 have f4 : s'.i = s.i + 1:=by rw [<- es'];rfl
 clear es';obtain ⟨i,M,hn,hi0,h1,h2⟩:=s;dsimp only at hi hil hX f1 f4;subst hi;have hiM : 2 < M.length:=by omega
 have e0:=h2 2 (Nat.le_refl _);rw [<- e0] at hX f1;have hk:=hX.n;have hmn:=hX.mn;unfold SC;dsimp only;clear h1 h2 e0;repeat' (first | (apply And.intro<;>intro hc<;>(first | exact Bool.noConfusion hc | (exfalso;first | exact absurd rfl hc | omega) | (simp only [zl] at hc<;>first | exact absurd rfl hc | (exfalso;first | exact absurd rfl hc | omega) | skip) | skip)) | (refine And.intro zj ?_) | (apply And.intro) | (intro s hs;skip) | (refine Exists.intro _ (And.intro ⟨rfl,rfl,rfl⟩ ?_)))
 conv=>whnf
 obtain ⟨W,eW⟩ : ∃ W,ZK (M.getD 2 default).id S ⟨0,0,0⟩ = W:=⟨_,rfl⟩;refine zU (zV qz) (λs : {p : Nat × Smy // p.1 <= S.length /\ ZK (M.getD 2 default).id (S.drop p.1) p.2 = W}=>(⟨[(0,zL (ZT ZB L)),(1,zL (.int .i64 now)),(2,zL (Qy zu S)),(3,zL (.int .u32 draw)),(11,zL (.os 1 0 M.length)),(35,zL (.int .i64 (L.length : Int))),(36,zL (.int .i64 ((2 : Nat) : Int))),(12,zL (.int .i64 ((2 : Nat) : Int))),(13,zL (.ptr 10 0 0 false)),(39,zL (Qy zu S)),(40,zL (.int .i64 (S.length : Int))),(41,zL (.int .i64 (s.1.1 : Int)))],[(1,some (qp 2 M.length M)),(2,some (zS (M.getD 0 default).held)),(3,some (zS (M.getD 1 default).held)),(4,some (zS (M.getD 2 default).held)),(5,some (zS (M.getD 3 default).held)),(6,some (zS (M.getD 4 default).held)),(7,some (zS (M.getD 5 default).held)),(8,some (zS (M.getD 6 default).held)),(9,some (zS (M.getD 7 default).held)),(10,some ⟨60,1,3,true,λ_=>zu.cell s.1.2⟩)],11⟩ : Hd)) (λs=>S.length - s.1.1) (λ_=>rfl) ?_ ⟨(0,⟨0,0,0⟩),Nat.zero_le _,eW⟩ [(10,some 13)] ⟨rfl,⟨zD (zJ (zI L)),zB rfl,zM (zO zu S),zB rfl,zD (zH rfl rfl),zB rfl,zB rfl,zB rfl,zF rfl,zM (zO zu S),zB rfl,zB rfl,trivial⟩,⟨⟨rfl,zQ (by omega) (qJ rfl rfl rfl rfl rfl rfl rfl rfl)⟩,⟨rfl,zA⟩,⟨rfl,zA⟩,⟨rfl,zA⟩,⟨rfl,zA⟩,⟨rfl,zA⟩,⟨rfl,zA⟩,⟨rfl,zA⟩,⟨rfl,zA⟩,⟨rfl,zE (Zr ⟨zC rfl,zC rfl,zC rfl⟩)⟩,trivial⟩⟩;rintro ⟨⟨p,a⟩,hp,hW⟩;dsimp only at hp hW ⊢;unfold Qy;by_cases hpl : p < S.length
 . have w4 : IntKind.i64.wrap ((p : Int) + 1) = ((p + 1 : Nat) : Int):=(IntWalk.i64_in _ (by omega)).trans (by omega);have hst : ZK (M.getD 2 default).id (S.drop (p + 1)) (if (S.getD p default).id = (M.getD 2 default).id then S.getD p default else a) = W:=by rw [<- hW,qL hpl];rfl
   have n1 : (S.getD p default).id = (M.getD 2 default).id -> ZK (M.getD 2 default).id (S.drop (p + 1)) (S.getD p default) = W:=λh=>by rw [if_pos h] at hst;exact hst
   have n2 : ¬ (S.getD p default).id = (M.getD 2 default).id -> ZK (M.getD 2 default).id (S.drop (p + 1)) a = W:=λh=>by rw [if_neg h] at hst;exact hst
   clear hst;repeat' (first | (simp only [w4]) | (apply And.intro<;>intro hc<;>(first | exact Bool.noConfusion hc | (exfalso;first | exact absurd rfl hc | omega) | (simp only [zl] at hc<;>first | exact absurd rfl hc | (exfalso;first | exact absurd rfl hc | omega) | skip) | skip)) | (refine And.intro zj ?_) | (apply And.intro) | (intro s hs;skip) | (refine Exists.intro _ (And.intro ⟨rfl,rfl,rfl⟩ ?_)))
   . conv=>whnf
     exact ⟨⟨(p + 1,_),hpl,n1 hc⟩,[],by dsimp only;omega,rfl,⟨zD (zJ (zI L)),zB rfl,zM (zO zu S),zB rfl,zD (zH rfl rfl),zB rfl,zB rfl,zB rfl,zF rfl,zM (zO zu S),zB rfl,zB w4,trivial⟩,⟨⟨rfl,zQ (by omega) (qJ rfl rfl rfl rfl rfl rfl rfl rfl)⟩,⟨rfl,zA⟩,⟨rfl,zA⟩,⟨rfl,zA⟩,⟨rfl,zA⟩,⟨rfl,zA⟩,⟨rfl,zA⟩,⟨rfl,zA⟩,⟨rfl,zA⟩,⟨rfl,zE (Zr ⟨zC rfl,zC rfl,zC rfl⟩)⟩,trivial⟩⟩
   . conv=>whnf
     exact ⟨⟨(p + 1,a),hpl,n2 hc⟩,[],by dsimp only;omega,rfl,⟨zD (zJ (zI L)),zB rfl,zM (zO zu S),zB rfl,zD (zH rfl rfl),zB rfl,zB rfl,zB rfl,zF rfl,zM (zO zu S),zB rfl,zB w4,trivial⟩,⟨⟨rfl,zQ (by omega) (qJ rfl rfl rfl rfl rfl rfl rfl rfl)⟩,⟨rfl,zA⟩,⟨rfl,zA⟩,⟨rfl,zA⟩,⟨rfl,zA⟩,⟨rfl,zA⟩,⟨rfl,zA⟩,⟨rfl,zA⟩,⟨rfl,zA⟩,⟨rfl,zE λj hj=>(Elem.flat _ _ _).le⟩,trivial⟩⟩
 . obtain rfl : a = W:=by
    rw [List.drop_of_length_le (by omega)] at hW;exact hW
   clear hW;have hWm : 0 <= a.mn /\ a.mn <= 1073741824:=by rw [<- eW];exact Qi (λx hx=>(hSm x hx).2) ⟨Int.le_refl _,by decide⟩
   repeat' (first | (apply And.intro<;>intro hc<;>(first | exact Bool.noConfusion hc | (exfalso;first | exact absurd rfl hc | omega) | (simp only [zl] at hc<;>first | exact absurd rfl hc | (exfalso;first | exact absurd rfl hc | omega) | skip) | skip)) | (refine And.intro zj ?_) | (apply And.intro) | (intro s hs;skip) | (refine Exists.intro _ (And.intro ⟨rfl,rfl,rfl⟩ ?_)))
   conv=>whnf
   refine zU (zV qz) (λs : MapI (zAC a now draw) (M.getD 2 default).held=>(⟨[(0,zL (ZT ZB L)),(1,zL (.int .i64 now)),(2,zL (Qy zu S)),(3,zL (.int .u32 draw)),(11,zL (.os 1 0 M.length)),(35,zL (.int .i64 (L.length : Int))),(36,zL (.int .i64 ((2 : Nat) : Int))),(12,zL (.int .i64 ((2 : Nat) : Int))),(13,zL (.ptr 10 0 0 false)),(60,zL (.int .i64 ((M.getD 2 default).held.length : Int))),(61,zL (.int .i64 (s.i : Int)))],[(1,some (qp 2 M.length M)),(2,some (zS (M.getD 0 default).held)),(3,some (zS (M.getD 1 default).held)),(4,some (zS s.M)),(5,some (zS (M.getD 3 default).held)),(6,some (zS (M.getD 4 default).held)),(7,some (zS (M.getD 5 default).held)),(8,some (zS (M.getD 6 default).held)),(9,some (zS (M.getD 7 default).held)),(10,some ⟨60,1,3,true,λ_=>zu.cell a⟩)],11⟩ : Hd)) (λs=>(M.getD 2 default).held.length - s.i) (λ_=>rfl) ?_ (MapI.start _ _) [] ⟨rfl,⟨zD (zJ (zI L)),zB rfl,zM (zO zu S),zB rfl,zD (zH rfl rfl),zB rfl,zB rfl,zB rfl,zF rfl,zB rfl,zB rfl,trivial⟩,⟨⟨rfl,zQ (by omega) (qJ rfl rfl rfl rfl rfl rfl rfl rfl)⟩,⟨rfl,zA⟩,⟨rfl,zA⟩,⟨rfl,zA⟩,⟨rfl,zA⟩,⟨rfl,zA⟩,⟨rfl,zA⟩,⟨rfl,zA⟩,⟨rfl,zA⟩,⟨rfl,zE λj hj=>(Elem.flat _ _ _).le⟩,trivial⟩⟩;intro s0;by_cases hkn : s0.i < (M.getD 2 default).held.length
   . have w4 : IntKind.i64.wrap ((s0.i : Int) + 1) = ((s0.i + 1 : Nat) : Int):=(IntWalk.i64_in _ (by omega)).trans (by omega);have z0 : 0 + (s0.i : Int).toNat = s0.i:=Nat.zero_add s0.i;have eh:=s0.h2 s0.i (Nat.le_refl _);have hl:=s0.n;have bk : Nat.beq s0.i s0.i = true:=Nat.beq_refl _;have hx:=QQ hX (zw hkn);have hx1:=(QI hX.h _ (zw hkn)).1;rw [<- eh] at hx hx1;have hxb:=hx.b;obtain ⟨B,eB2⟩ : ∃ B,YC a (s0.M.getD s0.i default).num = B:=⟨_,rfl⟩;obtain ⟨T,eT⟩ : ∃ T,Zq (s0.M.getD s0.i default).tm now draw = T:=⟨_,rfl⟩;repeat' (first | (simp only [z0,w4,bk,Bool.cond_true]) | (apply And.intro<;>intro hc<;>(first | exact Bool.noConfusion hc | (exfalso;first | exact absurd rfl hc | omega) | (simp only [zl] at hc<;>first | exact absurd rfl hc | (exfalso;first | exact absurd rfl hc | omega) | skip) | skip)) | (refine And.intro zj ?_) | (apply And.intro) | (intro s hs;(first | (have q : B = s:=eB2.symm.trans hs.symm;clear hs;subst q) | (have q : T = s:=eT.symm.trans hs.symm;clear hs;subst q))) | (refine Exists.intro _ (And.intro ⟨rfl,rfl,rfl⟩ ?_)))
     . exact hc
     . conv=>whnf
       refine ⟨s0.next hkn (s0.M.set s0.i { s0.M.getD s0.i default with tm:=T.1 }) (by rw [<- eh,Qa ‹_› (eB2.trans ‹_›) eT]),[],by dsimp only [MapI.next];omega,rfl,⟨zD (zJ (zI L)),zB rfl,zM (zO zu S),zB rfl,zD (zH rfl rfl),zB rfl,zB rfl,zB rfl,zF rfl,zB rfl,zB w4,trivial⟩,⟨⟨rfl,zQ (by omega) (qJ rfl rfl rfl rfl rfl rfl rfl rfl)⟩,⟨rfl,zA⟩,⟨rfl,zA⟩,⟨rfl,qI ?_⟩,⟨rfl,zA⟩,⟨rfl,zA⟩,⟨rfl,zA⟩,⟨rfl,zA⟩,⟨rfl,zA⟩,⟨rfl,zE λj hj=>(Elem.flat _ _ _).le⟩,trivial⟩⟩;exact qd (by rw [hl];exact hkn) (qn ⟨zC rfl,(zm.sh _ 1 (by decide)).le,zC rfl,zC rfl,zC rfl,zC rfl,zC rfl,zC rfl,zC rfl,zW rfl,zC rfl⟩)
     . conv=>whnf
       exact ⟨s0.next hkn s0.M (by rw [<- eh,Qm (eB2.trans ‹_›)];exact ZH (by rw [hl];exact hkn)),[],by dsimp only [MapI.next];omega,rfl,⟨zD (zJ (zI L)),zB rfl,zM (zO zu S),zB rfl,zD (zH rfl rfl),zB rfl,zB rfl,zB rfl,zF rfl,zB rfl,zB w4,trivial⟩,⟨⟨rfl,zQ (by omega) (qJ rfl rfl rfl rfl rfl rfl rfl rfl)⟩,⟨rfl,zA⟩,⟨rfl,zA⟩,⟨rfl,zA⟩,⟨rfl,zA⟩,⟨rfl,zA⟩,⟨rfl,zA⟩,⟨rfl,zA⟩,⟨rfl,zA⟩,⟨rfl,zE λj hj=>(Elem.flat _ _ _).le⟩,trivial⟩⟩
     . conv=>whnf
       exact ⟨s0.next hkn s0.M (by rw [<- eh,Ql ‹_›];exact ZH (by rw [hl];exact hkn)),[],by dsimp only [MapI.next];omega,rfl,⟨zD (zJ (zI L)),zB rfl,zM (zO zu S),zB rfl,zD (zH rfl rfl),zB rfl,zB rfl,zB rfl,zF rfl,zB rfl,zB w4,trivial⟩,⟨⟨rfl,zQ (by omega) (qJ rfl rfl rfl rfl rfl rfl rfl rfl)⟩,⟨rfl,zA⟩,⟨rfl,zA⟩,⟨rfl,zA⟩,⟨rfl,zA⟩,⟨rfl,zA⟩,⟨rfl,zA⟩,⟨rfl,zA⟩,⟨rfl,zA⟩,⟨rfl,zE λj hj=>(Elem.flat _ _ _).le⟩,trivial⟩⟩
   . have l1:=s0.last hkn;have hkk:=s0.hi;have hl:=s0.n;have w6 : IntKind.i64.wrap ((2 : Int) + 1) = ((2 + 1 : Nat) : Int):=rfl;repeat' (first | (apply And.intro<;>intro hc<;>(first | exact Bool.noConfusion hc | (exfalso;first | exact absurd rfl hc | omega) | (simp only [zl] at hc<;>first | exact absurd rfl hc | (exfalso;first | exact absurd rfl hc | omega) | skip) | skip)) | (refine And.intro zj ?_) | (apply And.intro) | (intro s hs;skip) | (refine Exists.intro _ (And.intro ⟨rfl,rfl,rfl⟩ ?_)))
     conv=>whnf
     refine ⟨s',[],by show L.length - s'.i < _;rw [f4];omega,rfl,⟨zD (zJ (zI L)),zB rfl,zM (zO zu S),zB rfl,zD (zH rfl (by rw [f1,List.length_set])),zB rfl,zB (by rw [f4];rfl),trivial⟩,⟨⟨rfl,⟨rfl,by show _ = s'.M.length;rw [f1,List.length_set];rfl,rfl,rfl,λp hp j hj=>?_⟩⟩,⟨rfl,zR (by rw [f1];exact congrArg Sed.held (zg (by decide)).symm)⟩,⟨rfl,zR (by rw [f1];exact congrArg Sed.held (zg (by decide)).symm)⟩,⟨rfl,zR (by rw [f1,Qw hiM];exact l1.trans (by rw [<- eW];rfl))⟩,⟨rfl,zR (by rw [f1];exact congrArg Sed.held (zg (by decide)).symm)⟩,⟨rfl,zR (by rw [f1];exact congrArg Sed.held (zg (by decide)).symm)⟩,⟨rfl,zR (by rw [f1];exact congrArg Sed.held (zg (by decide)).symm)⟩,⟨rfl,zR (by rw [f1];exact congrArg Sed.held (zg (by decide)).symm)⟩,⟨rfl,zR (by rw [f1];exact congrArg Sed.held (zg (by decide)).symm)⟩,trivial⟩⟩;have hp : p < M.length:=hp;have hj : j < 3:=hj;show Zu _ (Zg 2 M p j) (Zg 2 s'.M p j);rw [f1];rcases (show p = 0 \/ p = 1 \/ p = 2 \/ p = 3 \/ p = 4 \/ p = 5 \/ p = 6 \/ p = 7 by omega) with rfl | rfl | rfl | rfl | rfl | rfl | rfl | rfl;all_goals first
      | exact qF hj (by decide) rfl rfl
      | skip
     refine qG hiM ?_;rcases j with _ | _ | _ | j
     . exact zC rfl
     . exact zC rfl
     . exact zH rfl (by show _ = (List.map _ _).length;rw [List.length_map])
     . omega
theorem cp_3 (L : List Sed) (S : List Smy) (now draw : Int) (hv : ZA L = true) (hS : ZR S = true) (hd : ZS draw) (ht : 0 <= now /\ now <= 1099511627776) (s : MapI (QU S now draw) L) (hi : s.i = 3) (hil : s.i < L.length) (K : Kt) :
 qR T (qH LMq) 1 Try.f29.ntmps 0 (Qg (Zc 4 (Try.f29.body.getD Code.ret))) (SC L S now draw s).fr (SC L S now draw s).H (SC L S now draw s).nx (Yt (λfr H _=>zA8 (SC L S now draw) (λs=>L.length - s.i) 0 (L.length - s.i) fr H) K):=by
 have h8:=Zv hv;obtain ⟨hS8,hSm⟩:=vys hS;have hX : SdOk (L.getD s.i default):=(qq hv _ (zw hil)).2;obtain ⟨s',es'⟩ : ∃ s',s.next hil _ rfl = s':=⟨_,rfl⟩;have f1 : s'.M = s.M.set s.i (QU S now draw (L.getD s.i default)):=by rw [<- es'];rfl
 have f4 : s'.i = s.i + 1:=by rw [<- es'];rfl
 clear es';obtain ⟨i,M,hn,hi0,h1,h2⟩:=s;dsimp only at hi hil hX f1 f4;subst hi;have hiM : 3 < M.length:=by omega
 have e0:=h2 3 (Nat.le_refl _);rw [<- e0] at hX f1;have hk:=hX.n;have hmn:=hX.mn;unfold SC;dsimp only;clear h1 h2 e0;repeat' (first | (apply And.intro<;>intro hc<;>(first | exact Bool.noConfusion hc | (exfalso;first | exact absurd rfl hc | omega) | (simp only [zl] at hc<;>first | exact absurd rfl hc | (exfalso;first | exact absurd rfl hc | omega) | skip) | skip)) | (refine And.intro zj ?_) | (apply And.intro) | (intro s hs;skip) | (refine Exists.intro _ (And.intro ⟨rfl,rfl,rfl⟩ ?_)))
 conv=>whnf
 obtain ⟨W,eW⟩ : ∃ W,ZK (M.getD 3 default).id S ⟨0,0,0⟩ = W:=⟨_,rfl⟩;refine zU (zV qz) (λs : {p : Nat × Smy // p.1 <= S.length /\ ZK (M.getD 3 default).id (S.drop p.1) p.2 = W}=>(⟨[(0,zL (ZT ZB L)),(1,zL (.int .i64 now)),(2,zL (Qy zu S)),(3,zL (.int .u32 draw)),(11,zL (.os 1 0 M.length)),(35,zL (.int .i64 (L.length : Int))),(36,zL (.int .i64 ((3 : Nat) : Int))),(12,zL (.int .i64 ((3 : Nat) : Int))),(13,zL (.ptr 10 0 0 false)),(39,zL (Qy zu S)),(40,zL (.int .i64 (S.length : Int))),(41,zL (.int .i64 (s.1.1 : Int)))],[(1,some (qp 2 M.length M)),(2,some (zS (M.getD 0 default).held)),(3,some (zS (M.getD 1 default).held)),(4,some (zS (M.getD 2 default).held)),(5,some (zS (M.getD 3 default).held)),(6,some (zS (M.getD 4 default).held)),(7,some (zS (M.getD 5 default).held)),(8,some (zS (M.getD 6 default).held)),(9,some (zS (M.getD 7 default).held)),(10,some ⟨60,1,3,true,λ_=>zu.cell s.1.2⟩)],11⟩ : Hd)) (λs=>S.length - s.1.1) (λ_=>rfl) ?_ ⟨(0,⟨0,0,0⟩),Nat.zero_le _,eW⟩ [(10,some 13)] ⟨rfl,⟨zD (zJ (zI L)),zB rfl,zM (zO zu S),zB rfl,zD (zH rfl rfl),zB rfl,zB rfl,zB rfl,zF rfl,zM (zO zu S),zB rfl,zB rfl,trivial⟩,⟨⟨rfl,zQ (by omega) (qJ rfl rfl rfl rfl rfl rfl rfl rfl)⟩,⟨rfl,zA⟩,⟨rfl,zA⟩,⟨rfl,zA⟩,⟨rfl,zA⟩,⟨rfl,zA⟩,⟨rfl,zA⟩,⟨rfl,zA⟩,⟨rfl,zA⟩,⟨rfl,zE (Zr ⟨zC rfl,zC rfl,zC rfl⟩)⟩,trivial⟩⟩;rintro ⟨⟨p,a⟩,hp,hW⟩;dsimp only at hp hW ⊢;unfold Qy;by_cases hpl : p < S.length
 . have w4 : IntKind.i64.wrap ((p : Int) + 1) = ((p + 1 : Nat) : Int):=(IntWalk.i64_in _ (by omega)).trans (by omega);have hst : ZK (M.getD 3 default).id (S.drop (p + 1)) (if (S.getD p default).id = (M.getD 3 default).id then S.getD p default else a) = W:=by rw [<- hW,qL hpl];rfl
   have n1 : (S.getD p default).id = (M.getD 3 default).id -> ZK (M.getD 3 default).id (S.drop (p + 1)) (S.getD p default) = W:=λh=>by rw [if_pos h] at hst;exact hst
   have n2 : ¬ (S.getD p default).id = (M.getD 3 default).id -> ZK (M.getD 3 default).id (S.drop (p + 1)) a = W:=λh=>by rw [if_neg h] at hst;exact hst
   clear hst;repeat' (first | (simp only [w4]) | (apply And.intro<;>intro hc<;>(first | exact Bool.noConfusion hc | (exfalso;first | exact absurd rfl hc | omega) | (simp only [zl] at hc<;>first | exact absurd rfl hc | (exfalso;first | exact absurd rfl hc | omega) | skip) | skip)) | (refine And.intro zj ?_) | (apply And.intro) | (intro s hs;skip) | (refine Exists.intro _ (And.intro ⟨rfl,rfl,rfl⟩ ?_)))
   . conv=>whnf
     exact ⟨⟨(p + 1,_),hpl,n1 hc⟩,[],by dsimp only;omega,rfl,⟨zD (zJ (zI L)),zB rfl,zM (zO zu S),zB rfl,zD (zH rfl rfl),zB rfl,zB rfl,zB rfl,zF rfl,zM (zO zu S),zB rfl,zB w4,trivial⟩,⟨⟨rfl,zQ (by omega) (qJ rfl rfl rfl rfl rfl rfl rfl rfl)⟩,⟨rfl,zA⟩,⟨rfl,zA⟩,⟨rfl,zA⟩,⟨rfl,zA⟩,⟨rfl,zA⟩,⟨rfl,zA⟩,⟨rfl,zA⟩,⟨rfl,zA⟩,⟨rfl,zE (Zr ⟨zC rfl,zC rfl,zC rfl⟩)⟩,trivial⟩⟩
   . conv=>whnf
     exact ⟨⟨(p + 1,a),hpl,n2 hc⟩,[],by dsimp only;omega,rfl,⟨zD (zJ (zI L)),zB rfl,zM (zO zu S),zB rfl,zD (zH rfl rfl),zB rfl,zB rfl,zB rfl,zF rfl,zM (zO zu S),zB rfl,zB w4,trivial⟩,⟨⟨rfl,zQ (by omega) (qJ rfl rfl rfl rfl rfl rfl rfl rfl)⟩,⟨rfl,zA⟩,⟨rfl,zA⟩,⟨rfl,zA⟩,⟨rfl,zA⟩,⟨rfl,zA⟩,⟨rfl,zA⟩,⟨rfl,zA⟩,⟨rfl,zA⟩,⟨rfl,zE λj hj=>(Elem.flat _ _ _).le⟩,trivial⟩⟩
 . obtain rfl : a = W:=by
    rw [List.drop_of_length_le (by omega)] at hW;exact hW
   clear hW;have hWm : 0 <= a.mn /\ a.mn <= 1073741824:=by rw [<- eW];exact Qi (λx hx=>(hSm x hx).2) ⟨Int.le_refl _,by decide⟩
   repeat' (first | (apply And.intro<;>intro hc<;>(first | exact Bool.noConfusion hc | (exfalso;first | exact absurd rfl hc | omega) | (simp only [zl] at hc<;>first | exact absurd rfl hc | (exfalso;first | exact absurd rfl hc | omega) | skip) | skip)) | (refine And.intro zj ?_) | (apply And.intro) | (intro s hs;skip) | (refine Exists.intro _ (And.intro ⟨rfl,rfl,rfl⟩ ?_)))
   conv=>whnf
   refine zU (zV qz) (λs : MapI (zAC a now draw) (M.getD 3 default).held=>(⟨[(0,zL (ZT ZB L)),(1,zL (.int .i64 now)),(2,zL (Qy zu S)),(3,zL (.int .u32 draw)),(11,zL (.os 1 0 M.length)),(35,zL (.int .i64 (L.length : Int))),(36,zL (.int .i64 ((3 : Nat) : Int))),(12,zL (.int .i64 ((3 : Nat) : Int))),(13,zL (.ptr 10 0 0 false)),(60,zL (.int .i64 ((M.getD 3 default).held.length : Int))),(61,zL (.int .i64 (s.i : Int)))],[(1,some (qp 2 M.length M)),(2,some (zS (M.getD 0 default).held)),(3,some (zS (M.getD 1 default).held)),(4,some (zS (M.getD 2 default).held)),(5,some (zS s.M)),(6,some (zS (M.getD 4 default).held)),(7,some (zS (M.getD 5 default).held)),(8,some (zS (M.getD 6 default).held)),(9,some (zS (M.getD 7 default).held)),(10,some ⟨60,1,3,true,λ_=>zu.cell a⟩)],11⟩ : Hd)) (λs=>(M.getD 3 default).held.length - s.i) (λ_=>rfl) ?_ (MapI.start _ _) [] ⟨rfl,⟨zD (zJ (zI L)),zB rfl,zM (zO zu S),zB rfl,zD (zH rfl rfl),zB rfl,zB rfl,zB rfl,zF rfl,zB rfl,zB rfl,trivial⟩,⟨⟨rfl,zQ (by omega) (qJ rfl rfl rfl rfl rfl rfl rfl rfl)⟩,⟨rfl,zA⟩,⟨rfl,zA⟩,⟨rfl,zA⟩,⟨rfl,zA⟩,⟨rfl,zA⟩,⟨rfl,zA⟩,⟨rfl,zA⟩,⟨rfl,zA⟩,⟨rfl,zE λj hj=>(Elem.flat _ _ _).le⟩,trivial⟩⟩;intro s0;by_cases hkn : s0.i < (M.getD 3 default).held.length
   . have w4 : IntKind.i64.wrap ((s0.i : Int) + 1) = ((s0.i + 1 : Nat) : Int):=(IntWalk.i64_in _ (by omega)).trans (by omega);have z0 : 0 + (s0.i : Int).toNat = s0.i:=Nat.zero_add s0.i;have eh:=s0.h2 s0.i (Nat.le_refl _);have hl:=s0.n;have bk : Nat.beq s0.i s0.i = true:=Nat.beq_refl _;have hx:=QQ hX (zw hkn);have hx1:=(QI hX.h _ (zw hkn)).1;rw [<- eh] at hx hx1;have hxb:=hx.b;obtain ⟨B,eB2⟩ : ∃ B,YC a (s0.M.getD s0.i default).num = B:=⟨_,rfl⟩;obtain ⟨T,eT⟩ : ∃ T,Zq (s0.M.getD s0.i default).tm now draw = T:=⟨_,rfl⟩;repeat' (first | (simp only [z0,w4,bk,Bool.cond_true]) | (apply And.intro<;>intro hc<;>(first | exact Bool.noConfusion hc | (exfalso;first | exact absurd rfl hc | omega) | (simp only [zl] at hc<;>first | exact absurd rfl hc | (exfalso;first | exact absurd rfl hc | omega) | skip) | skip)) | (refine And.intro zj ?_) | (apply And.intro) | (intro s hs;(first | (have q : B = s:=eB2.symm.trans hs.symm;clear hs;subst q) | (have q : T = s:=eT.symm.trans hs.symm;clear hs;subst q))) | (refine Exists.intro _ (And.intro ⟨rfl,rfl,rfl⟩ ?_)))
     . exact hc
     . conv=>whnf
       refine ⟨s0.next hkn (s0.M.set s0.i { s0.M.getD s0.i default with tm:=T.1 }) (by rw [<- eh,Qa ‹_› (eB2.trans ‹_›) eT]),[],by dsimp only [MapI.next];omega,rfl,⟨zD (zJ (zI L)),zB rfl,zM (zO zu S),zB rfl,zD (zH rfl rfl),zB rfl,zB rfl,zB rfl,zF rfl,zB rfl,zB w4,trivial⟩,⟨⟨rfl,zQ (by omega) (qJ rfl rfl rfl rfl rfl rfl rfl rfl)⟩,⟨rfl,zA⟩,⟨rfl,zA⟩,⟨rfl,zA⟩,⟨rfl,qI ?_⟩,⟨rfl,zA⟩,⟨rfl,zA⟩,⟨rfl,zA⟩,⟨rfl,zA⟩,⟨rfl,zE λj hj=>(Elem.flat _ _ _).le⟩,trivial⟩⟩;exact qd (by rw [hl];exact hkn) (qn ⟨zC rfl,(zm.sh _ 1 (by decide)).le,zC rfl,zC rfl,zC rfl,zC rfl,zC rfl,zC rfl,zC rfl,zW rfl,zC rfl⟩)
     . conv=>whnf
       exact ⟨s0.next hkn s0.M (by rw [<- eh,Qm (eB2.trans ‹_›)];exact ZH (by rw [hl];exact hkn)),[],by dsimp only [MapI.next];omega,rfl,⟨zD (zJ (zI L)),zB rfl,zM (zO zu S),zB rfl,zD (zH rfl rfl),zB rfl,zB rfl,zB rfl,zF rfl,zB rfl,zB w4,trivial⟩,⟨⟨rfl,zQ (by omega) (qJ rfl rfl rfl rfl rfl rfl rfl rfl)⟩,⟨rfl,zA⟩,⟨rfl,zA⟩,⟨rfl,zA⟩,⟨rfl,zA⟩,⟨rfl,zA⟩,⟨rfl,zA⟩,⟨rfl,zA⟩,⟨rfl,zA⟩,⟨rfl,zE λj hj=>(Elem.flat _ _ _).le⟩,trivial⟩⟩
     . conv=>whnf
       exact ⟨s0.next hkn s0.M (by rw [<- eh,Ql ‹_›];exact ZH (by rw [hl];exact hkn)),[],by dsimp only [MapI.next];omega,rfl,⟨zD (zJ (zI L)),zB rfl,zM (zO zu S),zB rfl,zD (zH rfl rfl),zB rfl,zB rfl,zB rfl,zF rfl,zB rfl,zB w4,trivial⟩,⟨⟨rfl,zQ (by omega) (qJ rfl rfl rfl rfl rfl rfl rfl rfl)⟩,⟨rfl,zA⟩,⟨rfl,zA⟩,⟨rfl,zA⟩,⟨rfl,zA⟩,⟨rfl,zA⟩,⟨rfl,zA⟩,⟨rfl,zA⟩,⟨rfl,zA⟩,⟨rfl,zE λj hj=>(Elem.flat _ _ _).le⟩,trivial⟩⟩
   . have l1:=s0.last hkn;have hkk:=s0.hi;have hl:=s0.n;have w6 : IntKind.i64.wrap ((3 : Int) + 1) = ((3 + 1 : Nat) : Int):=rfl;repeat' (first | (apply And.intro<;>intro hc<;>(first | exact Bool.noConfusion hc | (exfalso;first | exact absurd rfl hc | omega) | (simp only [zl] at hc<;>first | exact absurd rfl hc | (exfalso;first | exact absurd rfl hc | omega) | skip) | skip)) | (refine And.intro zj ?_) | (apply And.intro) | (intro s hs;skip) | (refine Exists.intro _ (And.intro ⟨rfl,rfl,rfl⟩ ?_)))
     conv=>whnf
     refine ⟨s',[],by show L.length - s'.i < _;rw [f4];omega,rfl,⟨zD (zJ (zI L)),zB rfl,zM (zO zu S),zB rfl,zD (zH rfl (by rw [f1,List.length_set])),zB rfl,zB (by rw [f4];rfl),trivial⟩,⟨⟨rfl,⟨rfl,by show _ = s'.M.length;rw [f1,List.length_set];rfl,rfl,rfl,λp hp j hj=>?_⟩⟩,⟨rfl,zR (by rw [f1];exact congrArg Sed.held (zg (by decide)).symm)⟩,⟨rfl,zR (by rw [f1];exact congrArg Sed.held (zg (by decide)).symm)⟩,⟨rfl,zR (by rw [f1];exact congrArg Sed.held (zg (by decide)).symm)⟩,⟨rfl,zR (by rw [f1,Qw hiM];exact l1.trans (by rw [<- eW];rfl))⟩,⟨rfl,zR (by rw [f1];exact congrArg Sed.held (zg (by decide)).symm)⟩,⟨rfl,zR (by rw [f1];exact congrArg Sed.held (zg (by decide)).symm)⟩,⟨rfl,zR (by rw [f1];exact congrArg Sed.held (zg (by decide)).symm)⟩,⟨rfl,zR (by rw [f1];exact congrArg Sed.held (zg (by decide)).symm)⟩,trivial⟩⟩;have hp : p < M.length:=hp;have hj : j < 3:=hj;show Zu _ (Zg 2 M p j) (Zg 2 s'.M p j);rw [f1];rcases (show p = 0 \/ p = 1 \/ p = 2 \/ p = 3 \/ p = 4 \/ p = 5 \/ p = 6 \/ p = 7 by omega) with rfl | rfl | rfl | rfl | rfl | rfl | rfl | rfl;all_goals first
      | exact qF hj (by decide) rfl rfl
      | skip
     refine qG hiM ?_;rcases j with _ | _ | _ | j
     . exact zC rfl
     . exact zC rfl
     . exact zH rfl (by show _ = (List.map _ _).length;rw [List.length_map])
     . omega
theorem cp_4 (L : List Sed) (S : List Smy) (now draw : Int) (hv : ZA L = true) (hS : ZR S = true) (hd : ZS draw) (ht : 0 <= now /\ now <= 1099511627776) (s : MapI (QU S now draw) L) (hi : s.i = 4) (hil : s.i < L.length) (K : Kt) :
 qR T (qH LMq) 1 Try.f29.ntmps 0 (Qg (Zc 4 (Try.f29.body.getD Code.ret))) (SC L S now draw s).fr (SC L S now draw s).H (SC L S now draw s).nx (Yt (λfr H _=>zA8 (SC L S now draw) (λs=>L.length - s.i) 0 (L.length - s.i) fr H) K):=by
 have h8:=Zv hv;obtain ⟨hS8,hSm⟩:=vys hS;have hX : SdOk (L.getD s.i default):=(qq hv _ (zw hil)).2;obtain ⟨s',es'⟩ : ∃ s',s.next hil _ rfl = s':=⟨_,rfl⟩;have f1 : s'.M = s.M.set s.i (QU S now draw (L.getD s.i default)):=by rw [<- es'];rfl
 have f4 : s'.i = s.i + 1:=by rw [<- es'];rfl
 clear es';obtain ⟨i,M,hn,hi0,h1,h2⟩:=s;dsimp only at hi hil hX f1 f4;subst hi;have hiM : 4 < M.length:=by omega
 have e0:=h2 4 (Nat.le_refl _);rw [<- e0] at hX f1;have hk:=hX.n;have hmn:=hX.mn;unfold SC;dsimp only;clear h1 h2 e0;repeat' (first | (apply And.intro<;>intro hc<;>(first | exact Bool.noConfusion hc | (exfalso;first | exact absurd rfl hc | omega) | (simp only [zl] at hc<;>first | exact absurd rfl hc | (exfalso;first | exact absurd rfl hc | omega) | skip) | skip)) | (refine And.intro zj ?_) | (apply And.intro) | (intro s hs;skip) | (refine Exists.intro _ (And.intro ⟨rfl,rfl,rfl⟩ ?_)))
 conv=>whnf
 obtain ⟨W,eW⟩ : ∃ W,ZK (M.getD 4 default).id S ⟨0,0,0⟩ = W:=⟨_,rfl⟩;refine zU (zV qz) (λs : {p : Nat × Smy // p.1 <= S.length /\ ZK (M.getD 4 default).id (S.drop p.1) p.2 = W}=>(⟨[(0,zL (ZT ZB L)),(1,zL (.int .i64 now)),(2,zL (Qy zu S)),(3,zL (.int .u32 draw)),(11,zL (.os 1 0 M.length)),(35,zL (.int .i64 (L.length : Int))),(36,zL (.int .i64 ((4 : Nat) : Int))),(12,zL (.int .i64 ((4 : Nat) : Int))),(13,zL (.ptr 10 0 0 false)),(39,zL (Qy zu S)),(40,zL (.int .i64 (S.length : Int))),(41,zL (.int .i64 (s.1.1 : Int)))],[(1,some (qp 2 M.length M)),(2,some (zS (M.getD 0 default).held)),(3,some (zS (M.getD 1 default).held)),(4,some (zS (M.getD 2 default).held)),(5,some (zS (M.getD 3 default).held)),(6,some (zS (M.getD 4 default).held)),(7,some (zS (M.getD 5 default).held)),(8,some (zS (M.getD 6 default).held)),(9,some (zS (M.getD 7 default).held)),(10,some ⟨60,1,3,true,λ_=>zu.cell s.1.2⟩)],11⟩ : Hd)) (λs=>S.length - s.1.1) (λ_=>rfl) ?_ ⟨(0,⟨0,0,0⟩),Nat.zero_le _,eW⟩ [(10,some 13)] ⟨rfl,⟨zD (zJ (zI L)),zB rfl,zM (zO zu S),zB rfl,zD (zH rfl rfl),zB rfl,zB rfl,zB rfl,zF rfl,zM (zO zu S),zB rfl,zB rfl,trivial⟩,⟨⟨rfl,zQ (by omega) (qJ rfl rfl rfl rfl rfl rfl rfl rfl)⟩,⟨rfl,zA⟩,⟨rfl,zA⟩,⟨rfl,zA⟩,⟨rfl,zA⟩,⟨rfl,zA⟩,⟨rfl,zA⟩,⟨rfl,zA⟩,⟨rfl,zA⟩,⟨rfl,zE (Zr ⟨zC rfl,zC rfl,zC rfl⟩)⟩,trivial⟩⟩;rintro ⟨⟨p,a⟩,hp,hW⟩;dsimp only at hp hW ⊢;unfold Qy;by_cases hpl : p < S.length
 . have w4 : IntKind.i64.wrap ((p : Int) + 1) = ((p + 1 : Nat) : Int):=(IntWalk.i64_in _ (by omega)).trans (by omega);have hst : ZK (M.getD 4 default).id (S.drop (p + 1)) (if (S.getD p default).id = (M.getD 4 default).id then S.getD p default else a) = W:=by rw [<- hW,qL hpl];rfl
   have n1 : (S.getD p default).id = (M.getD 4 default).id -> ZK (M.getD 4 default).id (S.drop (p + 1)) (S.getD p default) = W:=λh=>by rw [if_pos h] at hst;exact hst
   have n2 : ¬ (S.getD p default).id = (M.getD 4 default).id -> ZK (M.getD 4 default).id (S.drop (p + 1)) a = W:=λh=>by rw [if_neg h] at hst;exact hst
   clear hst;repeat' (first | (simp only [w4]) | (apply And.intro<;>intro hc<;>(first | exact Bool.noConfusion hc | (exfalso;first | exact absurd rfl hc | omega) | (simp only [zl] at hc<;>first | exact absurd rfl hc | (exfalso;first | exact absurd rfl hc | omega) | skip) | skip)) | (refine And.intro zj ?_) | (apply And.intro) | (intro s hs;skip) | (refine Exists.intro _ (And.intro ⟨rfl,rfl,rfl⟩ ?_)))
   . conv=>whnf
     exact ⟨⟨(p + 1,_),hpl,n1 hc⟩,[],by dsimp only;omega,rfl,⟨zD (zJ (zI L)),zB rfl,zM (zO zu S),zB rfl,zD (zH rfl rfl),zB rfl,zB rfl,zB rfl,zF rfl,zM (zO zu S),zB rfl,zB w4,trivial⟩,⟨⟨rfl,zQ (by omega) (qJ rfl rfl rfl rfl rfl rfl rfl rfl)⟩,⟨rfl,zA⟩,⟨rfl,zA⟩,⟨rfl,zA⟩,⟨rfl,zA⟩,⟨rfl,zA⟩,⟨rfl,zA⟩,⟨rfl,zA⟩,⟨rfl,zA⟩,⟨rfl,zE (Zr ⟨zC rfl,zC rfl,zC rfl⟩)⟩,trivial⟩⟩
   . conv=>whnf
     exact ⟨⟨(p + 1,a),hpl,n2 hc⟩,[],by dsimp only;omega,rfl,⟨zD (zJ (zI L)),zB rfl,zM (zO zu S),zB rfl,zD (zH rfl rfl),zB rfl,zB rfl,zB rfl,zF rfl,zM (zO zu S),zB rfl,zB w4,trivial⟩,⟨⟨rfl,zQ (by omega) (qJ rfl rfl rfl rfl rfl rfl rfl rfl)⟩,⟨rfl,zA⟩,⟨rfl,zA⟩,⟨rfl,zA⟩,⟨rfl,zA⟩,⟨rfl,zA⟩,⟨rfl,zA⟩,⟨rfl,zA⟩,⟨rfl,zA⟩,⟨rfl,zE λj hj=>(Elem.flat _ _ _).le⟩,trivial⟩⟩
 . obtain rfl : a = W:=by
    rw [List.drop_of_length_le (by omega)] at hW;exact hW
   clear hW;have hWm : 0 <= a.mn /\ a.mn <= 1073741824:=by rw [<- eW];exact Qi (λx hx=>(hSm x hx).2) ⟨Int.le_refl _,by decide⟩
   repeat' (first | (apply And.intro<;>intro hc<;>(first | exact Bool.noConfusion hc | (exfalso;first | exact absurd rfl hc | omega) | (simp only [zl] at hc<;>first | exact absurd rfl hc | (exfalso;first | exact absurd rfl hc | omega) | skip) | skip)) | (refine And.intro zj ?_) | (apply And.intro) | (intro s hs;skip) | (refine Exists.intro _ (And.intro ⟨rfl,rfl,rfl⟩ ?_)))
   conv=>whnf
   refine zU (zV qz) (λs : MapI (zAC a now draw) (M.getD 4 default).held=>(⟨[(0,zL (ZT ZB L)),(1,zL (.int .i64 now)),(2,zL (Qy zu S)),(3,zL (.int .u32 draw)),(11,zL (.os 1 0 M.length)),(35,zL (.int .i64 (L.length : Int))),(36,zL (.int .i64 ((4 : Nat) : Int))),(12,zL (.int .i64 ((4 : Nat) : Int))),(13,zL (.ptr 10 0 0 false)),(60,zL (.int .i64 ((M.getD 4 default).held.length : Int))),(61,zL (.int .i64 (s.i : Int)))],[(1,some (qp 2 M.length M)),(2,some (zS (M.getD 0 default).held)),(3,some (zS (M.getD 1 default).held)),(4,some (zS (M.getD 2 default).held)),(5,some (zS (M.getD 3 default).held)),(6,some (zS s.M)),(7,some (zS (M.getD 5 default).held)),(8,some (zS (M.getD 6 default).held)),(9,some (zS (M.getD 7 default).held)),(10,some ⟨60,1,3,true,λ_=>zu.cell a⟩)],11⟩ : Hd)) (λs=>(M.getD 4 default).held.length - s.i) (λ_=>rfl) ?_ (MapI.start _ _) [] ⟨rfl,⟨zD (zJ (zI L)),zB rfl,zM (zO zu S),zB rfl,zD (zH rfl rfl),zB rfl,zB rfl,zB rfl,zF rfl,zB rfl,zB rfl,trivial⟩,⟨⟨rfl,zQ (by omega) (qJ rfl rfl rfl rfl rfl rfl rfl rfl)⟩,⟨rfl,zA⟩,⟨rfl,zA⟩,⟨rfl,zA⟩,⟨rfl,zA⟩,⟨rfl,zA⟩,⟨rfl,zA⟩,⟨rfl,zA⟩,⟨rfl,zA⟩,⟨rfl,zE λj hj=>(Elem.flat _ _ _).le⟩,trivial⟩⟩;intro s0;by_cases hkn : s0.i < (M.getD 4 default).held.length
   . have w4 : IntKind.i64.wrap ((s0.i : Int) + 1) = ((s0.i + 1 : Nat) : Int):=(IntWalk.i64_in _ (by omega)).trans (by omega);have z0 : 0 + (s0.i : Int).toNat = s0.i:=Nat.zero_add s0.i;have eh:=s0.h2 s0.i (Nat.le_refl _);have hl:=s0.n;have bk : Nat.beq s0.i s0.i = true:=Nat.beq_refl _;have hx:=QQ hX (zw hkn);have hx1:=(QI hX.h _ (zw hkn)).1;rw [<- eh] at hx hx1;have hxb:=hx.b;obtain ⟨B,eB2⟩ : ∃ B,YC a (s0.M.getD s0.i default).num = B:=⟨_,rfl⟩;obtain ⟨T,eT⟩ : ∃ T,Zq (s0.M.getD s0.i default).tm now draw = T:=⟨_,rfl⟩;repeat' (first | (simp only [z0,w4,bk,Bool.cond_true]) | (apply And.intro<;>intro hc<;>(first | exact Bool.noConfusion hc | (exfalso;first | exact absurd rfl hc | omega) | (simp only [zl] at hc<;>first | exact absurd rfl hc | (exfalso;first | exact absurd rfl hc | omega) | skip) | skip)) | (refine And.intro zj ?_) | (apply And.intro) | (intro s hs;(first | (have q : B = s:=eB2.symm.trans hs.symm;clear hs;subst q) | (have q : T = s:=eT.symm.trans hs.symm;clear hs;subst q))) | (refine Exists.intro _ (And.intro ⟨rfl,rfl,rfl⟩ ?_)))
     . exact hc
     . conv=>whnf
       refine ⟨s0.next hkn (s0.M.set s0.i { s0.M.getD s0.i default with tm:=T.1 }) (by rw [<- eh,Qa ‹_› (eB2.trans ‹_›) eT]),[],by dsimp only [MapI.next];omega,rfl,⟨zD (zJ (zI L)),zB rfl,zM (zO zu S),zB rfl,zD (zH rfl rfl),zB rfl,zB rfl,zB rfl,zF rfl,zB rfl,zB w4,trivial⟩,⟨⟨rfl,zQ (by omega) (qJ rfl rfl rfl rfl rfl rfl rfl rfl)⟩,⟨rfl,zA⟩,⟨rfl,zA⟩,⟨rfl,zA⟩,⟨rfl,zA⟩,⟨rfl,qI ?_⟩,⟨rfl,zA⟩,⟨rfl,zA⟩,⟨rfl,zA⟩,⟨rfl,zE λj hj=>(Elem.flat _ _ _).le⟩,trivial⟩⟩;exact qd (by rw [hl];exact hkn) (qn ⟨zC rfl,(zm.sh _ 1 (by decide)).le,zC rfl,zC rfl,zC rfl,zC rfl,zC rfl,zC rfl,zC rfl,zW rfl,zC rfl⟩)
     . conv=>whnf
       exact ⟨s0.next hkn s0.M (by rw [<- eh,Qm (eB2.trans ‹_›)];exact ZH (by rw [hl];exact hkn)),[],by dsimp only [MapI.next];omega,rfl,⟨zD (zJ (zI L)),zB rfl,zM (zO zu S),zB rfl,zD (zH rfl rfl),zB rfl,zB rfl,zB rfl,zF rfl,zB rfl,zB w4,trivial⟩,⟨⟨rfl,zQ (by omega) (qJ rfl rfl rfl rfl rfl rfl rfl rfl)⟩,⟨rfl,zA⟩,⟨rfl,zA⟩,⟨rfl,zA⟩,⟨rfl,zA⟩,⟨rfl,zA⟩,⟨rfl,zA⟩,⟨rfl,zA⟩,⟨rfl,zA⟩,⟨rfl,zE λj hj=>(Elem.flat _ _ _).le⟩,trivial⟩⟩
     . conv=>whnf
       exact ⟨s0.next hkn s0.M (by rw [<- eh,Ql ‹_›];exact ZH (by rw [hl];exact hkn)),[],by dsimp only [MapI.next];omega,rfl,⟨zD (zJ (zI L)),zB rfl,zM (zO zu S),zB rfl,zD (zH rfl rfl),zB rfl,zB rfl,zB rfl,zF rfl,zB rfl,zB w4,trivial⟩,⟨⟨rfl,zQ (by omega) (qJ rfl rfl rfl rfl rfl rfl rfl rfl)⟩,⟨rfl,zA⟩,⟨rfl,zA⟩,⟨rfl,zA⟩,⟨rfl,zA⟩,⟨rfl,zA⟩,⟨rfl,zA⟩,⟨rfl,zA⟩,⟨rfl,zA⟩,⟨rfl,zE λj hj=>(Elem.flat _ _ _).le⟩,trivial⟩⟩
   . have l1:=s0.last hkn;have hkk:=s0.hi;have hl:=s0.n;have w6 : IntKind.i64.wrap ((4 : Int) + 1) = ((4 + 1 : Nat) : Int):=rfl;repeat' (first | (apply And.intro<;>intro hc<;>(first | exact Bool.noConfusion hc | (exfalso;first | exact absurd rfl hc | omega) | (simp only [zl] at hc<;>first | exact absurd rfl hc | (exfalso;first | exact absurd rfl hc | omega) | skip) | skip)) | (refine And.intro zj ?_) | (apply And.intro) | (intro s hs;skip) | (refine Exists.intro _ (And.intro ⟨rfl,rfl,rfl⟩ ?_)))
     conv=>whnf
     refine ⟨s',[],by show L.length - s'.i < _;rw [f4];omega,rfl,⟨zD (zJ (zI L)),zB rfl,zM (zO zu S),zB rfl,zD (zH rfl (by rw [f1,List.length_set])),zB rfl,zB (by rw [f4];rfl),trivial⟩,⟨⟨rfl,⟨rfl,by show _ = s'.M.length;rw [f1,List.length_set];rfl,rfl,rfl,λp hp j hj=>?_⟩⟩,⟨rfl,zR (by rw [f1];exact congrArg Sed.held (zg (by decide)).symm)⟩,⟨rfl,zR (by rw [f1];exact congrArg Sed.held (zg (by decide)).symm)⟩,⟨rfl,zR (by rw [f1];exact congrArg Sed.held (zg (by decide)).symm)⟩,⟨rfl,zR (by rw [f1];exact congrArg Sed.held (zg (by decide)).symm)⟩,⟨rfl,zR (by rw [f1,Qw hiM];exact l1.trans (by rw [<- eW];rfl))⟩,⟨rfl,zR (by rw [f1];exact congrArg Sed.held (zg (by decide)).symm)⟩,⟨rfl,zR (by rw [f1];exact congrArg Sed.held (zg (by decide)).symm)⟩,⟨rfl,zR (by rw [f1];exact congrArg Sed.held (zg (by decide)).symm)⟩,trivial⟩⟩;have hp : p < M.length:=hp;have hj : j < 3:=hj;show Zu _ (Zg 2 M p j) (Zg 2 s'.M p j);rw [f1];rcases (show p = 0 \/ p = 1 \/ p = 2 \/ p = 3 \/ p = 4 \/ p = 5 \/ p = 6 \/ p = 7 by omega) with rfl | rfl | rfl | rfl | rfl | rfl | rfl | rfl;all_goals first
      | exact qF hj (by decide) rfl rfl
      | skip
     refine qG hiM ?_;rcases j with _ | _ | _ | j
     . exact zC rfl
     . exact zC rfl
     . exact zH rfl (by show _ = (List.map _ _).length;rw [List.length_map])
     . omega
theorem cp_5 (L : List Sed) (S : List Smy) (now draw : Int) (hv : ZA L = true) (hS : ZR S = true) (hd : ZS draw) (ht : 0 <= now /\ now <= 1099511627776) (s : MapI (QU S now draw) L) (hi : s.i = 5) (hil : s.i < L.length) (K : Kt) :
 qR T (qH LMq) 1 Try.f29.ntmps 0 (Qg (Zc 4 (Try.f29.body.getD Code.ret))) (SC L S now draw s).fr (SC L S now draw s).H (SC L S now draw s).nx (Yt (λfr H _=>zA8 (SC L S now draw) (λs=>L.length - s.i) 0 (L.length - s.i) fr H) K):=by
 have h8:=Zv hv;obtain ⟨hS8,hSm⟩:=vys hS;have hX : SdOk (L.getD s.i default):=(qq hv _ (zw hil)).2;obtain ⟨s',es'⟩ : ∃ s',s.next hil _ rfl = s':=⟨_,rfl⟩;have f1 : s'.M = s.M.set s.i (QU S now draw (L.getD s.i default)):=by rw [<- es'];rfl
 have f4 : s'.i = s.i + 1:=by rw [<- es'];rfl
 clear es';obtain ⟨i,M,hn,hi0,h1,h2⟩:=s;dsimp only at hi hil hX f1 f4;subst hi;have hiM : 5 < M.length:=by omega
 have e0:=h2 5 (Nat.le_refl _);rw [<- e0] at hX f1;have hk:=hX.n;have hmn:=hX.mn;unfold SC;dsimp only;clear h1 h2 e0;repeat' (first | (apply And.intro<;>intro hc<;>(first | exact Bool.noConfusion hc | (exfalso;first | exact absurd rfl hc | omega) | (simp only [zl] at hc<;>first | exact absurd rfl hc | (exfalso;first | exact absurd rfl hc | omega) | skip) | skip)) | (refine And.intro zj ?_) | (apply And.intro) | (intro s hs;skip) | (refine Exists.intro _ (And.intro ⟨rfl,rfl,rfl⟩ ?_)))
 conv=>whnf
 obtain ⟨W,eW⟩ : ∃ W,ZK (M.getD 5 default).id S ⟨0,0,0⟩ = W:=⟨_,rfl⟩;refine zU (zV qz) (λs : {p : Nat × Smy // p.1 <= S.length /\ ZK (M.getD 5 default).id (S.drop p.1) p.2 = W}=>(⟨[(0,zL (ZT ZB L)),(1,zL (.int .i64 now)),(2,zL (Qy zu S)),(3,zL (.int .u32 draw)),(11,zL (.os 1 0 M.length)),(35,zL (.int .i64 (L.length : Int))),(36,zL (.int .i64 ((5 : Nat) : Int))),(12,zL (.int .i64 ((5 : Nat) : Int))),(13,zL (.ptr 10 0 0 false)),(39,zL (Qy zu S)),(40,zL (.int .i64 (S.length : Int))),(41,zL (.int .i64 (s.1.1 : Int)))],[(1,some (qp 2 M.length M)),(2,some (zS (M.getD 0 default).held)),(3,some (zS (M.getD 1 default).held)),(4,some (zS (M.getD 2 default).held)),(5,some (zS (M.getD 3 default).held)),(6,some (zS (M.getD 4 default).held)),(7,some (zS (M.getD 5 default).held)),(8,some (zS (M.getD 6 default).held)),(9,some (zS (M.getD 7 default).held)),(10,some ⟨60,1,3,true,λ_=>zu.cell s.1.2⟩)],11⟩ : Hd)) (λs=>S.length - s.1.1) (λ_=>rfl) ?_ ⟨(0,⟨0,0,0⟩),Nat.zero_le _,eW⟩ [(10,some 13)] ⟨rfl,⟨zD (zJ (zI L)),zB rfl,zM (zO zu S),zB rfl,zD (zH rfl rfl),zB rfl,zB rfl,zB rfl,zF rfl,zM (zO zu S),zB rfl,zB rfl,trivial⟩,⟨⟨rfl,zQ (by omega) (qJ rfl rfl rfl rfl rfl rfl rfl rfl)⟩,⟨rfl,zA⟩,⟨rfl,zA⟩,⟨rfl,zA⟩,⟨rfl,zA⟩,⟨rfl,zA⟩,⟨rfl,zA⟩,⟨rfl,zA⟩,⟨rfl,zA⟩,⟨rfl,zE (Zr ⟨zC rfl,zC rfl,zC rfl⟩)⟩,trivial⟩⟩;rintro ⟨⟨p,a⟩,hp,hW⟩;dsimp only at hp hW ⊢;unfold Qy;by_cases hpl : p < S.length
 . have w4 : IntKind.i64.wrap ((p : Int) + 1) = ((p + 1 : Nat) : Int):=(IntWalk.i64_in _ (by omega)).trans (by omega);have hst : ZK (M.getD 5 default).id (S.drop (p + 1)) (if (S.getD p default).id = (M.getD 5 default).id then S.getD p default else a) = W:=by rw [<- hW,qL hpl];rfl
   have n1 : (S.getD p default).id = (M.getD 5 default).id -> ZK (M.getD 5 default).id (S.drop (p + 1)) (S.getD p default) = W:=λh=>by rw [if_pos h] at hst;exact hst
   have n2 : ¬ (S.getD p default).id = (M.getD 5 default).id -> ZK (M.getD 5 default).id (S.drop (p + 1)) a = W:=λh=>by rw [if_neg h] at hst;exact hst
   clear hst;repeat' (first | (simp only [w4]) | (apply And.intro<;>intro hc<;>(first | exact Bool.noConfusion hc | (exfalso;first | exact absurd rfl hc | omega) | (simp only [zl] at hc<;>first | exact absurd rfl hc | (exfalso;first | exact absurd rfl hc | omega) | skip) | skip)) | (refine And.intro zj ?_) | (apply And.intro) | (intro s hs;skip) | (refine Exists.intro _ (And.intro ⟨rfl,rfl,rfl⟩ ?_)))
   . conv=>whnf
     exact ⟨⟨(p + 1,_),hpl,n1 hc⟩,[],by dsimp only;omega,rfl,⟨zD (zJ (zI L)),zB rfl,zM (zO zu S),zB rfl,zD (zH rfl rfl),zB rfl,zB rfl,zB rfl,zF rfl,zM (zO zu S),zB rfl,zB w4,trivial⟩,⟨⟨rfl,zQ (by omega) (qJ rfl rfl rfl rfl rfl rfl rfl rfl)⟩,⟨rfl,zA⟩,⟨rfl,zA⟩,⟨rfl,zA⟩,⟨rfl,zA⟩,⟨rfl,zA⟩,⟨rfl,zA⟩,⟨rfl,zA⟩,⟨rfl,zA⟩,⟨rfl,zE (Zr ⟨zC rfl,zC rfl,zC rfl⟩)⟩,trivial⟩⟩
   . conv=>whnf
     exact ⟨⟨(p + 1,a),hpl,n2 hc⟩,[],by dsimp only;omega,rfl,⟨zD (zJ (zI L)),zB rfl,zM (zO zu S),zB rfl,zD (zH rfl rfl),zB rfl,zB rfl,zB rfl,zF rfl,zM (zO zu S),zB rfl,zB w4,trivial⟩,⟨⟨rfl,zQ (by omega) (qJ rfl rfl rfl rfl rfl rfl rfl rfl)⟩,⟨rfl,zA⟩,⟨rfl,zA⟩,⟨rfl,zA⟩,⟨rfl,zA⟩,⟨rfl,zA⟩,⟨rfl,zA⟩,⟨rfl,zA⟩,⟨rfl,zA⟩,⟨rfl,zE λj hj=>(Elem.flat _ _ _).le⟩,trivial⟩⟩
 . obtain rfl : a = W:=by
    rw [List.drop_of_length_le (by omega)] at hW;exact hW
   clear hW;have hWm : 0 <= a.mn /\ a.mn <= 1073741824:=by rw [<- eW];exact Qi (λx hx=>(hSm x hx).2) ⟨Int.le_refl _,by decide⟩
   repeat' (first | (apply And.intro<;>intro hc<;>(first | exact Bool.noConfusion hc | (exfalso;first | exact absurd rfl hc | omega) | (simp only [zl] at hc<;>first | exact absurd rfl hc | (exfalso;first | exact absurd rfl hc | omega) | skip) | skip)) | (refine And.intro zj ?_) | (apply And.intro) | (intro s hs;skip) | (refine Exists.intro _ (And.intro ⟨rfl,rfl,rfl⟩ ?_)))
   conv=>whnf
   refine zU (zV qz) (λs : MapI (zAC a now draw) (M.getD 5 default).held=>(⟨[(0,zL (ZT ZB L)),(1,zL (.int .i64 now)),(2,zL (Qy zu S)),(3,zL (.int .u32 draw)),(11,zL (.os 1 0 M.length)),(35,zL (.int .i64 (L.length : Int))),(36,zL (.int .i64 ((5 : Nat) : Int))),(12,zL (.int .i64 ((5 : Nat) : Int))),(13,zL (.ptr 10 0 0 false)),(60,zL (.int .i64 ((M.getD 5 default).held.length : Int))),(61,zL (.int .i64 (s.i : Int)))],[(1,some (qp 2 M.length M)),(2,some (zS (M.getD 0 default).held)),(3,some (zS (M.getD 1 default).held)),(4,some (zS (M.getD 2 default).held)),(5,some (zS (M.getD 3 default).held)),(6,some (zS (M.getD 4 default).held)),(7,some (zS s.M)),(8,some (zS (M.getD 6 default).held)),(9,some (zS (M.getD 7 default).held)),(10,some ⟨60,1,3,true,λ_=>zu.cell a⟩)],11⟩ : Hd)) (λs=>(M.getD 5 default).held.length - s.i) (λ_=>rfl) ?_ (MapI.start _ _) [] ⟨rfl,⟨zD (zJ (zI L)),zB rfl,zM (zO zu S),zB rfl,zD (zH rfl rfl),zB rfl,zB rfl,zB rfl,zF rfl,zB rfl,zB rfl,trivial⟩,⟨⟨rfl,zQ (by omega) (qJ rfl rfl rfl rfl rfl rfl rfl rfl)⟩,⟨rfl,zA⟩,⟨rfl,zA⟩,⟨rfl,zA⟩,⟨rfl,zA⟩,⟨rfl,zA⟩,⟨rfl,zA⟩,⟨rfl,zA⟩,⟨rfl,zA⟩,⟨rfl,zE λj hj=>(Elem.flat _ _ _).le⟩,trivial⟩⟩;intro s0;by_cases hkn : s0.i < (M.getD 5 default).held.length
   . have w4 : IntKind.i64.wrap ((s0.i : Int) + 1) = ((s0.i + 1 : Nat) : Int):=(IntWalk.i64_in _ (by omega)).trans (by omega);have z0 : 0 + (s0.i : Int).toNat = s0.i:=Nat.zero_add s0.i;have eh:=s0.h2 s0.i (Nat.le_refl _);have hl:=s0.n;have bk : Nat.beq s0.i s0.i = true:=Nat.beq_refl _;have hx:=QQ hX (zw hkn);have hx1:=(QI hX.h _ (zw hkn)).1;rw [<- eh] at hx hx1;have hxb:=hx.b;obtain ⟨B,eB2⟩ : ∃ B,YC a (s0.M.getD s0.i default).num = B:=⟨_,rfl⟩;obtain ⟨T,eT⟩ : ∃ T,Zq (s0.M.getD s0.i default).tm now draw = T:=⟨_,rfl⟩;repeat' (first | (simp only [z0,w4,bk,Bool.cond_true]) | (apply And.intro<;>intro hc<;>(first | exact Bool.noConfusion hc | (exfalso;first | exact absurd rfl hc | omega) | (simp only [zl] at hc<;>first | exact absurd rfl hc | (exfalso;first | exact absurd rfl hc | omega) | skip) | skip)) | (refine And.intro zj ?_) | (apply And.intro) | (intro s hs;(first | (have q : B = s:=eB2.symm.trans hs.symm;clear hs;subst q) | (have q : T = s:=eT.symm.trans hs.symm;clear hs;subst q))) | (refine Exists.intro _ (And.intro ⟨rfl,rfl,rfl⟩ ?_)))
     . exact hc
     . conv=>whnf
       refine ⟨s0.next hkn (s0.M.set s0.i { s0.M.getD s0.i default with tm:=T.1 }) (by rw [<- eh,Qa ‹_› (eB2.trans ‹_›) eT]),[],by dsimp only [MapI.next];omega,rfl,⟨zD (zJ (zI L)),zB rfl,zM (zO zu S),zB rfl,zD (zH rfl rfl),zB rfl,zB rfl,zB rfl,zF rfl,zB rfl,zB w4,trivial⟩,⟨⟨rfl,zQ (by omega) (qJ rfl rfl rfl rfl rfl rfl rfl rfl)⟩,⟨rfl,zA⟩,⟨rfl,zA⟩,⟨rfl,zA⟩,⟨rfl,zA⟩,⟨rfl,zA⟩,⟨rfl,qI ?_⟩,⟨rfl,zA⟩,⟨rfl,zA⟩,⟨rfl,zE λj hj=>(Elem.flat _ _ _).le⟩,trivial⟩⟩;exact qd (by rw [hl];exact hkn) (qn ⟨zC rfl,(zm.sh _ 1 (by decide)).le,zC rfl,zC rfl,zC rfl,zC rfl,zC rfl,zC rfl,zC rfl,zW rfl,zC rfl⟩)
     . conv=>whnf
       exact ⟨s0.next hkn s0.M (by rw [<- eh,Qm (eB2.trans ‹_›)];exact ZH (by rw [hl];exact hkn)),[],by dsimp only [MapI.next];omega,rfl,⟨zD (zJ (zI L)),zB rfl,zM (zO zu S),zB rfl,zD (zH rfl rfl),zB rfl,zB rfl,zB rfl,zF rfl,zB rfl,zB w4,trivial⟩,⟨⟨rfl,zQ (by omega) (qJ rfl rfl rfl rfl rfl rfl rfl rfl)⟩,⟨rfl,zA⟩,⟨rfl,zA⟩,⟨rfl,zA⟩,⟨rfl,zA⟩,⟨rfl,zA⟩,⟨rfl,zA⟩,⟨rfl,zA⟩,⟨rfl,zA⟩,⟨rfl,zE λj hj=>(Elem.flat _ _ _).le⟩,trivial⟩⟩
     . conv=>whnf
       exact ⟨s0.next hkn s0.M (by rw [<- eh,Ql ‹_›];exact ZH (by rw [hl];exact hkn)),[],by dsimp only [MapI.next];omega,rfl,⟨zD (zJ (zI L)),zB rfl,zM (zO zu S),zB rfl,zD (zH rfl rfl),zB rfl,zB rfl,zB rfl,zF rfl,zB rfl,zB w4,trivial⟩,⟨⟨rfl,zQ (by omega) (qJ rfl rfl rfl rfl rfl rfl rfl rfl)⟩,⟨rfl,zA⟩,⟨rfl,zA⟩,⟨rfl,zA⟩,⟨rfl,zA⟩,⟨rfl,zA⟩,⟨rfl,zA⟩,⟨rfl,zA⟩,⟨rfl,zA⟩,⟨rfl,zE λj hj=>(Elem.flat _ _ _).le⟩,trivial⟩⟩
   . have l1:=s0.last hkn;have hkk:=s0.hi;have hl:=s0.n;have w6 : IntKind.i64.wrap ((5 : Int) + 1) = ((5 + 1 : Nat) : Int):=rfl;repeat' (first | (apply And.intro<;>intro hc<;>(first | exact Bool.noConfusion hc | (exfalso;first | exact absurd rfl hc | omega) | (simp only [zl] at hc<;>first | exact absurd rfl hc | (exfalso;first | exact absurd rfl hc | omega) | skip) | skip)) | (refine And.intro zj ?_) | (apply And.intro) | (intro s hs;skip) | (refine Exists.intro _ (And.intro ⟨rfl,rfl,rfl⟩ ?_)))
     conv=>whnf
     refine ⟨s',[],by show L.length - s'.i < _;rw [f4];omega,rfl,⟨zD (zJ (zI L)),zB rfl,zM (zO zu S),zB rfl,zD (zH rfl (by rw [f1,List.length_set])),zB rfl,zB (by rw [f4];rfl),trivial⟩,⟨⟨rfl,⟨rfl,by show _ = s'.M.length;rw [f1,List.length_set];rfl,rfl,rfl,λp hp j hj=>?_⟩⟩,⟨rfl,zR (by rw [f1];exact congrArg Sed.held (zg (by decide)).symm)⟩,⟨rfl,zR (by rw [f1];exact congrArg Sed.held (zg (by decide)).symm)⟩,⟨rfl,zR (by rw [f1];exact congrArg Sed.held (zg (by decide)).symm)⟩,⟨rfl,zR (by rw [f1];exact congrArg Sed.held (zg (by decide)).symm)⟩,⟨rfl,zR (by rw [f1];exact congrArg Sed.held (zg (by decide)).symm)⟩,⟨rfl,zR (by rw [f1,Qw hiM];exact l1.trans (by rw [<- eW];rfl))⟩,⟨rfl,zR (by rw [f1];exact congrArg Sed.held (zg (by decide)).symm)⟩,⟨rfl,zR (by rw [f1];exact congrArg Sed.held (zg (by decide)).symm)⟩,trivial⟩⟩;have hp : p < M.length:=hp;have hj : j < 3:=hj;show Zu _ (Zg 2 M p j) (Zg 2 s'.M p j);rw [f1];rcases (show p = 0 \/ p = 1 \/ p = 2 \/ p = 3 \/ p = 4 \/ p = 5 \/ p = 6 \/ p = 7 by omega) with rfl | rfl | rfl | rfl | rfl | rfl | rfl | rfl;all_goals first
      | exact qF hj (by decide) rfl rfl
      | skip
     refine qG hiM ?_;rcases j with _ | _ | _ | j
     . exact zC rfl
     . exact zC rfl
     . exact zH rfl (by show _ = (List.map _ _).length;rw [List.length_map])
     . omega
theorem cp_6 (L : List Sed) (S : List Smy) (now draw : Int) (hv : ZA L = true) (hS : ZR S = true) (hd : ZS draw) (ht : 0 <= now /\ now <= 1099511627776) (s : MapI (QU S now draw) L) (hi : s.i = 6) (hil : s.i < L.length) (K : Kt) :
 qR T (qH LMq) 1 Try.f29.ntmps 0 (Qg (Zc 4 (Try.f29.body.getD Code.ret))) (SC L S now draw s).fr (SC L S now draw s).H (SC L S now draw s).nx (Yt (λfr H _=>zA8 (SC L S now draw) (λs=>L.length - s.i) 0 (L.length - s.i) fr H) K):=by
 have h8:=Zv hv;obtain ⟨hS8,hSm⟩:=vys hS;have hX : SdOk (L.getD s.i default):=(qq hv _ (zw hil)).2;obtain ⟨s',es'⟩ : ∃ s',s.next hil _ rfl = s':=⟨_,rfl⟩;have f1 : s'.M = s.M.set s.i (QU S now draw (L.getD s.i default)):=by rw [<- es'];rfl
 have f4 : s'.i = s.i + 1:=by rw [<- es'];rfl
 clear es';obtain ⟨i,M,hn,hi0,h1,h2⟩:=s;dsimp only at hi hil hX f1 f4;subst hi;have hiM : 6 < M.length:=by omega
 have e0:=h2 6 (Nat.le_refl _);rw [<- e0] at hX f1;have hk:=hX.n;have hmn:=hX.mn;unfold SC;dsimp only;clear h1 h2 e0;repeat' (first | (apply And.intro<;>intro hc<;>(first | exact Bool.noConfusion hc | (exfalso;first | exact absurd rfl hc | omega) | (simp only [zl] at hc<;>first | exact absurd rfl hc | (exfalso;first | exact absurd rfl hc | omega) | skip) | skip)) | (refine And.intro zj ?_) | (apply And.intro) | (intro s hs;skip) | (refine Exists.intro _ (And.intro ⟨rfl,rfl,rfl⟩ ?_)))
 conv=>whnf
 obtain ⟨W,eW⟩ : ∃ W,ZK (M.getD 6 default).id S ⟨0,0,0⟩ = W:=⟨_,rfl⟩;refine zU (zV qz) (λs : {p : Nat × Smy // p.1 <= S.length /\ ZK (M.getD 6 default).id (S.drop p.1) p.2 = W}=>(⟨[(0,zL (ZT ZB L)),(1,zL (.int .i64 now)),(2,zL (Qy zu S)),(3,zL (.int .u32 draw)),(11,zL (.os 1 0 M.length)),(35,zL (.int .i64 (L.length : Int))),(36,zL (.int .i64 ((6 : Nat) : Int))),(12,zL (.int .i64 ((6 : Nat) : Int))),(13,zL (.ptr 10 0 0 false)),(39,zL (Qy zu S)),(40,zL (.int .i64 (S.length : Int))),(41,zL (.int .i64 (s.1.1 : Int)))],[(1,some (qp 2 M.length M)),(2,some (zS (M.getD 0 default).held)),(3,some (zS (M.getD 1 default).held)),(4,some (zS (M.getD 2 default).held)),(5,some (zS (M.getD 3 default).held)),(6,some (zS (M.getD 4 default).held)),(7,some (zS (M.getD 5 default).held)),(8,some (zS (M.getD 6 default).held)),(9,some (zS (M.getD 7 default).held)),(10,some ⟨60,1,3,true,λ_=>zu.cell s.1.2⟩)],11⟩ : Hd)) (λs=>S.length - s.1.1) (λ_=>rfl) ?_ ⟨(0,⟨0,0,0⟩),Nat.zero_le _,eW⟩ [(10,some 13)] ⟨rfl,⟨zD (zJ (zI L)),zB rfl,zM (zO zu S),zB rfl,zD (zH rfl rfl),zB rfl,zB rfl,zB rfl,zF rfl,zM (zO zu S),zB rfl,zB rfl,trivial⟩,⟨⟨rfl,zQ (by omega) (qJ rfl rfl rfl rfl rfl rfl rfl rfl)⟩,⟨rfl,zA⟩,⟨rfl,zA⟩,⟨rfl,zA⟩,⟨rfl,zA⟩,⟨rfl,zA⟩,⟨rfl,zA⟩,⟨rfl,zA⟩,⟨rfl,zA⟩,⟨rfl,zE (Zr ⟨zC rfl,zC rfl,zC rfl⟩)⟩,trivial⟩⟩;rintro ⟨⟨p,a⟩,hp,hW⟩;dsimp only at hp hW ⊢;unfold Qy;by_cases hpl : p < S.length
 . have w4 : IntKind.i64.wrap ((p : Int) + 1) = ((p + 1 : Nat) : Int):=(IntWalk.i64_in _ (by omega)).trans (by omega);have hst : ZK (M.getD 6 default).id (S.drop (p + 1)) (if (S.getD p default).id = (M.getD 6 default).id then S.getD p default else a) = W:=by rw [<- hW,qL hpl];rfl
   have n1 : (S.getD p default).id = (M.getD 6 default).id -> ZK (M.getD 6 default).id (S.drop (p + 1)) (S.getD p default) = W:=λh=>by rw [if_pos h] at hst;exact hst
   have n2 : ¬ (S.getD p default).id = (M.getD 6 default).id -> ZK (M.getD 6 default).id (S.drop (p + 1)) a = W:=λh=>by rw [if_neg h] at hst;exact hst
   clear hst;repeat' (first | (simp only [w4]) | (apply And.intro<;>intro hc<;>(first | exact Bool.noConfusion hc | (exfalso;first | exact absurd rfl hc | omega) | (simp only [zl] at hc<;>first | exact absurd rfl hc | (exfalso;first | exact absurd rfl hc | omega) | skip) | skip)) | (refine And.intro zj ?_) | (apply And.intro) | (intro s hs;skip) | (refine Exists.intro _ (And.intro ⟨rfl,rfl,rfl⟩ ?_)))
   . conv=>whnf
     exact ⟨⟨(p + 1,_),hpl,n1 hc⟩,[],by dsimp only;omega,rfl,⟨zD (zJ (zI L)),zB rfl,zM (zO zu S),zB rfl,zD (zH rfl rfl),zB rfl,zB rfl,zB rfl,zF rfl,zM (zO zu S),zB rfl,zB w4,trivial⟩,⟨⟨rfl,zQ (by omega) (qJ rfl rfl rfl rfl rfl rfl rfl rfl)⟩,⟨rfl,zA⟩,⟨rfl,zA⟩,⟨rfl,zA⟩,⟨rfl,zA⟩,⟨rfl,zA⟩,⟨rfl,zA⟩,⟨rfl,zA⟩,⟨rfl,zA⟩,⟨rfl,zE (Zr ⟨zC rfl,zC rfl,zC rfl⟩)⟩,trivial⟩⟩
   . conv=>whnf
     exact ⟨⟨(p + 1,a),hpl,n2 hc⟩,[],by dsimp only;omega,rfl,⟨zD (zJ (zI L)),zB rfl,zM (zO zu S),zB rfl,zD (zH rfl rfl),zB rfl,zB rfl,zB rfl,zF rfl,zM (zO zu S),zB rfl,zB w4,trivial⟩,⟨⟨rfl,zQ (by omega) (qJ rfl rfl rfl rfl rfl rfl rfl rfl)⟩,⟨rfl,zA⟩,⟨rfl,zA⟩,⟨rfl,zA⟩,⟨rfl,zA⟩,⟨rfl,zA⟩,⟨rfl,zA⟩,⟨rfl,zA⟩,⟨rfl,zA⟩,⟨rfl,zE λj hj=>(Elem.flat _ _ _).le⟩,trivial⟩⟩
 . obtain rfl : a = W:=by
    rw [List.drop_of_length_le (by omega)] at hW;exact hW
   clear hW;have hWm : 0 <= a.mn /\ a.mn <= 1073741824:=by rw [<- eW];exact Qi (λx hx=>(hSm x hx).2) ⟨Int.le_refl _,by decide⟩
   repeat' (first | (apply And.intro<;>intro hc<;>(first | exact Bool.noConfusion hc | (exfalso;first | exact absurd rfl hc | omega) | (simp only [zl] at hc<;>first | exact absurd rfl hc | (exfalso;first | exact absurd rfl hc | omega) | skip) | skip)) | (refine And.intro zj ?_) | (apply And.intro) | (intro s hs;skip) | (refine Exists.intro _ (And.intro ⟨rfl,rfl,rfl⟩ ?_)))
   conv=>whnf
   refine zU (zV qz) (λs : MapI (zAC a now draw) (M.getD 6 default).held=>(⟨[(0,zL (ZT ZB L)),(1,zL (.int .i64 now)),(2,zL (Qy zu S)),(3,zL (.int .u32 draw)),(11,zL (.os 1 0 M.length)),(35,zL (.int .i64 (L.length : Int))),(36,zL (.int .i64 ((6 : Nat) : Int))),(12,zL (.int .i64 ((6 : Nat) : Int))),(13,zL (.ptr 10 0 0 false)),(60,zL (.int .i64 ((M.getD 6 default).held.length : Int))),(61,zL (.int .i64 (s.i : Int)))],[(1,some (qp 2 M.length M)),(2,some (zS (M.getD 0 default).held)),(3,some (zS (M.getD 1 default).held)),(4,some (zS (M.getD 2 default).held)),(5,some (zS (M.getD 3 default).held)),(6,some (zS (M.getD 4 default).held)),(7,some (zS (M.getD 5 default).held)),(8,some (zS s.M)),(9,some (zS (M.getD 7 default).held)),(10,some ⟨60,1,3,true,λ_=>zu.cell a⟩)],11⟩ : Hd)) (λs=>(M.getD 6 default).held.length - s.i) (λ_=>rfl) ?_ (MapI.start _ _) [] ⟨rfl,⟨zD (zJ (zI L)),zB rfl,zM (zO zu S),zB rfl,zD (zH rfl rfl),zB rfl,zB rfl,zB rfl,zF rfl,zB rfl,zB rfl,trivial⟩,⟨⟨rfl,zQ (by omega) (qJ rfl rfl rfl rfl rfl rfl rfl rfl)⟩,⟨rfl,zA⟩,⟨rfl,zA⟩,⟨rfl,zA⟩,⟨rfl,zA⟩,⟨rfl,zA⟩,⟨rfl,zA⟩,⟨rfl,zA⟩,⟨rfl,zA⟩,⟨rfl,zE λj hj=>(Elem.flat _ _ _).le⟩,trivial⟩⟩;intro s0;by_cases hkn : s0.i < (M.getD 6 default).held.length
   . have w4 : IntKind.i64.wrap ((s0.i : Int) + 1) = ((s0.i + 1 : Nat) : Int):=(IntWalk.i64_in _ (by omega)).trans (by omega);have z0 : 0 + (s0.i : Int).toNat = s0.i:=Nat.zero_add s0.i;have eh:=s0.h2 s0.i (Nat.le_refl _);have hl:=s0.n;have bk : Nat.beq s0.i s0.i = true:=Nat.beq_refl _;have hx:=QQ hX (zw hkn);have hx1:=(QI hX.h _ (zw hkn)).1;rw [<- eh] at hx hx1;have hxb:=hx.b;obtain ⟨B,eB2⟩ : ∃ B,YC a (s0.M.getD s0.i default).num = B:=⟨_,rfl⟩;obtain ⟨T,eT⟩ : ∃ T,Zq (s0.M.getD s0.i default).tm now draw = T:=⟨_,rfl⟩;repeat' (first | (simp only [z0,w4,bk,Bool.cond_true]) | (apply And.intro<;>intro hc<;>(first | exact Bool.noConfusion hc | (exfalso;first | exact absurd rfl hc | omega) | (simp only [zl] at hc<;>first | exact absurd rfl hc | (exfalso;first | exact absurd rfl hc | omega) | skip) | skip)) | (refine And.intro zj ?_) | (apply And.intro) | (intro s hs;(first | (have q : B = s:=eB2.symm.trans hs.symm;clear hs;subst q) | (have q : T = s:=eT.symm.trans hs.symm;clear hs;subst q))) | (refine Exists.intro _ (And.intro ⟨rfl,rfl,rfl⟩ ?_)))
     . exact hc
     . conv=>whnf
       refine ⟨s0.next hkn (s0.M.set s0.i { s0.M.getD s0.i default with tm:=T.1 }) (by rw [<- eh,Qa ‹_› (eB2.trans ‹_›) eT]),[],by dsimp only [MapI.next];omega,rfl,⟨zD (zJ (zI L)),zB rfl,zM (zO zu S),zB rfl,zD (zH rfl rfl),zB rfl,zB rfl,zB rfl,zF rfl,zB rfl,zB w4,trivial⟩,⟨⟨rfl,zQ (by omega) (qJ rfl rfl rfl rfl rfl rfl rfl rfl)⟩,⟨rfl,zA⟩,⟨rfl,zA⟩,⟨rfl,zA⟩,⟨rfl,zA⟩,⟨rfl,zA⟩,⟨rfl,zA⟩,⟨rfl,qI ?_⟩,⟨rfl,zA⟩,⟨rfl,zE λj hj=>(Elem.flat _ _ _).le⟩,trivial⟩⟩;exact qd (by rw [hl];exact hkn) (qn ⟨zC rfl,(zm.sh _ 1 (by decide)).le,zC rfl,zC rfl,zC rfl,zC rfl,zC rfl,zC rfl,zC rfl,zW rfl,zC rfl⟩)
     . conv=>whnf
       exact ⟨s0.next hkn s0.M (by rw [<- eh,Qm (eB2.trans ‹_›)];exact ZH (by rw [hl];exact hkn)),[],by dsimp only [MapI.next];omega,rfl,⟨zD (zJ (zI L)),zB rfl,zM (zO zu S),zB rfl,zD (zH rfl rfl),zB rfl,zB rfl,zB rfl,zF rfl,zB rfl,zB w4,trivial⟩,⟨⟨rfl,zQ (by omega) (qJ rfl rfl rfl rfl rfl rfl rfl rfl)⟩,⟨rfl,zA⟩,⟨rfl,zA⟩,⟨rfl,zA⟩,⟨rfl,zA⟩,⟨rfl,zA⟩,⟨rfl,zA⟩,⟨rfl,zA⟩,⟨rfl,zA⟩,⟨rfl,zE λj hj=>(Elem.flat _ _ _).le⟩,trivial⟩⟩
     . conv=>whnf
       exact ⟨s0.next hkn s0.M (by rw [<- eh,Ql ‹_›];exact ZH (by rw [hl];exact hkn)),[],by dsimp only [MapI.next];omega,rfl,⟨zD (zJ (zI L)),zB rfl,zM (zO zu S),zB rfl,zD (zH rfl rfl),zB rfl,zB rfl,zB rfl,zF rfl,zB rfl,zB w4,trivial⟩,⟨⟨rfl,zQ (by omega) (qJ rfl rfl rfl rfl rfl rfl rfl rfl)⟩,⟨rfl,zA⟩,⟨rfl,zA⟩,⟨rfl,zA⟩,⟨rfl,zA⟩,⟨rfl,zA⟩,⟨rfl,zA⟩,⟨rfl,zA⟩,⟨rfl,zA⟩,⟨rfl,zE λj hj=>(Elem.flat _ _ _).le⟩,trivial⟩⟩
   . have l1:=s0.last hkn;have hkk:=s0.hi;have hl:=s0.n;have w6 : IntKind.i64.wrap ((6 : Int) + 1) = ((6 + 1 : Nat) : Int):=rfl;repeat' (first | (apply And.intro<;>intro hc<;>(first | exact Bool.noConfusion hc | (exfalso;first | exact absurd rfl hc | omega) | (simp only [zl] at hc<;>first | exact absurd rfl hc | (exfalso;first | exact absurd rfl hc | omega) | skip) | skip)) | (refine And.intro zj ?_) | (apply And.intro) | (intro s hs;skip) | (refine Exists.intro _ (And.intro ⟨rfl,rfl,rfl⟩ ?_)))
     conv=>whnf
     refine ⟨s',[],by show L.length - s'.i < _;rw [f4];omega,rfl,⟨zD (zJ (zI L)),zB rfl,zM (zO zu S),zB rfl,zD (zH rfl (by rw [f1,List.length_set])),zB rfl,zB (by rw [f4];rfl),trivial⟩,⟨⟨rfl,⟨rfl,by show _ = s'.M.length;rw [f1,List.length_set];rfl,rfl,rfl,λp hp j hj=>?_⟩⟩,⟨rfl,zR (by rw [f1];exact congrArg Sed.held (zg (by decide)).symm)⟩,⟨rfl,zR (by rw [f1];exact congrArg Sed.held (zg (by decide)).symm)⟩,⟨rfl,zR (by rw [f1];exact congrArg Sed.held (zg (by decide)).symm)⟩,⟨rfl,zR (by rw [f1];exact congrArg Sed.held (zg (by decide)).symm)⟩,⟨rfl,zR (by rw [f1];exact congrArg Sed.held (zg (by decide)).symm)⟩,⟨rfl,zR (by rw [f1];exact congrArg Sed.held (zg (by decide)).symm)⟩,⟨rfl,zR (by rw [f1,Qw hiM];exact l1.trans (by rw [<- eW];rfl))⟩,⟨rfl,zR (by rw [f1];exact congrArg Sed.held (zg (by decide)).symm)⟩,trivial⟩⟩;have hp : p < M.length:=hp;have hj : j < 3:=hj;show Zu _ (Zg 2 M p j) (Zg 2 s'.M p j);rw [f1];rcases (show p = 0 \/ p = 1 \/ p = 2 \/ p = 3 \/ p = 4 \/ p = 5 \/ p = 6 \/ p = 7 by omega) with rfl | rfl | rfl | rfl | rfl | rfl | rfl | rfl;all_goals first
      | exact qF hj (by decide) rfl rfl
      | skip
     refine qG hiM ?_;rcases j with _ | _ | _ | j
     . exact zC rfl
     . exact zC rfl
     . exact zH rfl (by show _ = (List.map _ _).length;rw [List.length_map])
     . omega
theorem cp_7 (L : List Sed) (S : List Smy) (now draw : Int) (hv : ZA L = true) (hS : ZR S = true) (hd : ZS draw) (ht : 0 <= now /\ now <= 1099511627776) (s : MapI (QU S now draw) L) (hi : s.i = 7) (hil : s.i < L.length) (K : Kt) :
 qR T (qH LMq) 1 Try.f29.ntmps 0 (Qg (Zc 4 (Try.f29.body.getD Code.ret))) (SC L S now draw s).fr (SC L S now draw s).H (SC L S now draw s).nx (Yt (λfr H _=>zA8 (SC L S now draw) (λs=>L.length - s.i) 0 (L.length - s.i) fr H) K):=by
 have h8:=Zv hv;obtain ⟨hS8,hSm⟩:=vys hS;have hX : SdOk (L.getD s.i default):=(qq hv _ (zw hil)).2;obtain ⟨s',es'⟩ : ∃ s',s.next hil _ rfl = s':=⟨_,rfl⟩;have f1 : s'.M = s.M.set s.i (QU S now draw (L.getD s.i default)):=by rw [<- es'];rfl
 have f4 : s'.i = s.i + 1:=by rw [<- es'];rfl
 clear es';obtain ⟨i,M,hn,hi0,h1,h2⟩:=s;dsimp only at hi hil hX f1 f4;subst hi;have hiM : 7 < M.length:=by omega
 have e0:=h2 7 (Nat.le_refl _);rw [<- e0] at hX f1;have hk:=hX.n;have hmn:=hX.mn;unfold SC;dsimp only;clear h1 h2 e0;repeat' (first | (apply And.intro<;>intro hc<;>(first | exact Bool.noConfusion hc | (exfalso;first | exact absurd rfl hc | omega) | (simp only [zl] at hc<;>first | exact absurd rfl hc | (exfalso;first | exact absurd rfl hc | omega) | skip) | skip)) | (refine And.intro zj ?_) | (apply And.intro) | (intro s hs;skip) | (refine Exists.intro _ (And.intro ⟨rfl,rfl,rfl⟩ ?_)))
 conv=>whnf
 obtain ⟨W,eW⟩ : ∃ W,ZK (M.getD 7 default).id S ⟨0,0,0⟩ = W:=⟨_,rfl⟩;refine zU (zV qz) (λs : {p : Nat × Smy // p.1 <= S.length /\ ZK (M.getD 7 default).id (S.drop p.1) p.2 = W}=>(⟨[(0,zL (ZT ZB L)),(1,zL (.int .i64 now)),(2,zL (Qy zu S)),(3,zL (.int .u32 draw)),(11,zL (.os 1 0 M.length)),(35,zL (.int .i64 (L.length : Int))),(36,zL (.int .i64 ((7 : Nat) : Int))),(12,zL (.int .i64 ((7 : Nat) : Int))),(13,zL (.ptr 10 0 0 false)),(39,zL (Qy zu S)),(40,zL (.int .i64 (S.length : Int))),(41,zL (.int .i64 (s.1.1 : Int)))],[(1,some (qp 2 M.length M)),(2,some (zS (M.getD 0 default).held)),(3,some (zS (M.getD 1 default).held)),(4,some (zS (M.getD 2 default).held)),(5,some (zS (M.getD 3 default).held)),(6,some (zS (M.getD 4 default).held)),(7,some (zS (M.getD 5 default).held)),(8,some (zS (M.getD 6 default).held)),(9,some (zS (M.getD 7 default).held)),(10,some ⟨60,1,3,true,λ_=>zu.cell s.1.2⟩)],11⟩ : Hd)) (λs=>S.length - s.1.1) (λ_=>rfl) ?_ ⟨(0,⟨0,0,0⟩),Nat.zero_le _,eW⟩ [(10,some 13)] ⟨rfl,⟨zD (zJ (zI L)),zB rfl,zM (zO zu S),zB rfl,zD (zH rfl rfl),zB rfl,zB rfl,zB rfl,zF rfl,zM (zO zu S),zB rfl,zB rfl,trivial⟩,⟨⟨rfl,zQ (by omega) (qJ rfl rfl rfl rfl rfl rfl rfl rfl)⟩,⟨rfl,zA⟩,⟨rfl,zA⟩,⟨rfl,zA⟩,⟨rfl,zA⟩,⟨rfl,zA⟩,⟨rfl,zA⟩,⟨rfl,zA⟩,⟨rfl,zA⟩,⟨rfl,zE (Zr ⟨zC rfl,zC rfl,zC rfl⟩)⟩,trivial⟩⟩;rintro ⟨⟨p,a⟩,hp,hW⟩;dsimp only at hp hW ⊢;unfold Qy;by_cases hpl : p < S.length
 . have w4 : IntKind.i64.wrap ((p : Int) + 1) = ((p + 1 : Nat) : Int):=(IntWalk.i64_in _ (by omega)).trans (by omega);have hst : ZK (M.getD 7 default).id (S.drop (p + 1)) (if (S.getD p default).id = (M.getD 7 default).id then S.getD p default else a) = W:=by rw [<- hW,qL hpl];rfl
   have n1 : (S.getD p default).id = (M.getD 7 default).id -> ZK (M.getD 7 default).id (S.drop (p + 1)) (S.getD p default) = W:=λh=>by rw [if_pos h] at hst;exact hst
   have n2 : ¬ (S.getD p default).id = (M.getD 7 default).id -> ZK (M.getD 7 default).id (S.drop (p + 1)) a = W:=λh=>by rw [if_neg h] at hst;exact hst
   clear hst;repeat' (first | (simp only [w4]) | (apply And.intro<;>intro hc<;>(first | exact Bool.noConfusion hc | (exfalso;first | exact absurd rfl hc | omega) | (simp only [zl] at hc<;>first | exact absurd rfl hc | (exfalso;first | exact absurd rfl hc | omega) | skip) | skip)) | (refine And.intro zj ?_) | (apply And.intro) | (intro s hs;skip) | (refine Exists.intro _ (And.intro ⟨rfl,rfl,rfl⟩ ?_)))
   . conv=>whnf
     exact ⟨⟨(p + 1,_),hpl,n1 hc⟩,[],by dsimp only;omega,rfl,⟨zD (zJ (zI L)),zB rfl,zM (zO zu S),zB rfl,zD (zH rfl rfl),zB rfl,zB rfl,zB rfl,zF rfl,zM (zO zu S),zB rfl,zB w4,trivial⟩,⟨⟨rfl,zQ (by omega) (qJ rfl rfl rfl rfl rfl rfl rfl rfl)⟩,⟨rfl,zA⟩,⟨rfl,zA⟩,⟨rfl,zA⟩,⟨rfl,zA⟩,⟨rfl,zA⟩,⟨rfl,zA⟩,⟨rfl,zA⟩,⟨rfl,zA⟩,⟨rfl,zE (Zr ⟨zC rfl,zC rfl,zC rfl⟩)⟩,trivial⟩⟩
   . conv=>whnf
     exact ⟨⟨(p + 1,a),hpl,n2 hc⟩,[],by dsimp only;omega,rfl,⟨zD (zJ (zI L)),zB rfl,zM (zO zu S),zB rfl,zD (zH rfl rfl),zB rfl,zB rfl,zB rfl,zF rfl,zM (zO zu S),zB rfl,zB w4,trivial⟩,⟨⟨rfl,zQ (by omega) (qJ rfl rfl rfl rfl rfl rfl rfl rfl)⟩,⟨rfl,zA⟩,⟨rfl,zA⟩,⟨rfl,zA⟩,⟨rfl,zA⟩,⟨rfl,zA⟩,⟨rfl,zA⟩,⟨rfl,zA⟩,⟨rfl,zA⟩,⟨rfl,zE λj hj=>(Elem.flat _ _ _).le⟩,trivial⟩⟩
 . obtain rfl : a = W:=by
    rw [List.drop_of_length_le (by omega)] at hW;exact hW
   clear hW;have hWm : 0 <= a.mn /\ a.mn <= 1073741824:=by rw [<- eW];exact Qi (λx hx=>(hSm x hx).2) ⟨Int.le_refl _,by decide⟩
   repeat' (first | (apply And.intro<;>intro hc<;>(first | exact Bool.noConfusion hc | (exfalso;first | exact absurd rfl hc | omega) | (simp only [zl] at hc<;>first | exact absurd rfl hc | (exfalso;first | exact absurd rfl hc | omega) | skip) | skip)) | (refine And.intro zj ?_) | (apply And.intro) | (intro s hs;skip) | (refine Exists.intro _ (And.intro ⟨rfl,rfl,rfl⟩ ?_)))
   conv=>whnf
   refine zU (zV qz) (λs : MapI (zAC a now draw) (M.getD 7 default).held=>(⟨[(0,zL (ZT ZB L)),(1,zL (.int .i64 now)),(2,zL (Qy zu S)),(3,zL (.int .u32 draw)),(11,zL (.os 1 0 M.length)),(35,zL (.int .i64 (L.length : Int))),(36,zL (.int .i64 ((7 : Nat) : Int))),(12,zL (.int .i64 ((7 : Nat) : Int))),(13,zL (.ptr 10 0 0 false)),(60,zL (.int .i64 ((M.getD 7 default).held.length : Int))),(61,zL (.int .i64 (s.i : Int)))],[(1,some (qp 2 M.length M)),(2,some (zS (M.getD 0 default).held)),(3,some (zS (M.getD 1 default).held)),(4,some (zS (M.getD 2 default).held)),(5,some (zS (M.getD 3 default).held)),(6,some (zS (M.getD 4 default).held)),(7,some (zS (M.getD 5 default).held)),(8,some (zS (M.getD 6 default).held)),(9,some (zS s.M)),(10,some ⟨60,1,3,true,λ_=>zu.cell a⟩)],11⟩ : Hd)) (λs=>(M.getD 7 default).held.length - s.i) (λ_=>rfl) ?_ (MapI.start _ _) [] ⟨rfl,⟨zD (zJ (zI L)),zB rfl,zM (zO zu S),zB rfl,zD (zH rfl rfl),zB rfl,zB rfl,zB rfl,zF rfl,zB rfl,zB rfl,trivial⟩,⟨⟨rfl,zQ (by omega) (qJ rfl rfl rfl rfl rfl rfl rfl rfl)⟩,⟨rfl,zA⟩,⟨rfl,zA⟩,⟨rfl,zA⟩,⟨rfl,zA⟩,⟨rfl,zA⟩,⟨rfl,zA⟩,⟨rfl,zA⟩,⟨rfl,zA⟩,⟨rfl,zE λj hj=>(Elem.flat _ _ _).le⟩,trivial⟩⟩;intro s0;by_cases hkn : s0.i < (M.getD 7 default).held.length
   . have w4 : IntKind.i64.wrap ((s0.i : Int) + 1) = ((s0.i + 1 : Nat) : Int):=(IntWalk.i64_in _ (by omega)).trans (by omega);have z0 : 0 + (s0.i : Int).toNat = s0.i:=Nat.zero_add s0.i;have eh:=s0.h2 s0.i (Nat.le_refl _);have hl:=s0.n;have bk : Nat.beq s0.i s0.i = true:=Nat.beq_refl _;have hx:=QQ hX (zw hkn);have hx1:=(QI hX.h _ (zw hkn)).1;rw [<- eh] at hx hx1;have hxb:=hx.b;obtain ⟨B,eB2⟩ : ∃ B,YC a (s0.M.getD s0.i default).num = B:=⟨_,rfl⟩;obtain ⟨T,eT⟩ : ∃ T,Zq (s0.M.getD s0.i default).tm now draw = T:=⟨_,rfl⟩;repeat' (first | (simp only [z0,w4,bk,Bool.cond_true]) | (apply And.intro<;>intro hc<;>(first | exact Bool.noConfusion hc | (exfalso;first | exact absurd rfl hc | omega) | (simp only [zl] at hc<;>first | exact absurd rfl hc | (exfalso;first | exact absurd rfl hc | omega) | skip) | skip)) | (refine And.intro zj ?_) | (apply And.intro) | (intro s hs;(first | (have q : B = s:=eB2.symm.trans hs.symm;clear hs;subst q) | (have q : T = s:=eT.symm.trans hs.symm;clear hs;subst q))) | (refine Exists.intro _ (And.intro ⟨rfl,rfl,rfl⟩ ?_)))
     . exact hc
     . conv=>whnf
       refine ⟨s0.next hkn (s0.M.set s0.i { s0.M.getD s0.i default with tm:=T.1 }) (by rw [<- eh,Qa ‹_› (eB2.trans ‹_›) eT]),[],by dsimp only [MapI.next];omega,rfl,⟨zD (zJ (zI L)),zB rfl,zM (zO zu S),zB rfl,zD (zH rfl rfl),zB rfl,zB rfl,zB rfl,zF rfl,zB rfl,zB w4,trivial⟩,⟨⟨rfl,zQ (by omega) (qJ rfl rfl rfl rfl rfl rfl rfl rfl)⟩,⟨rfl,zA⟩,⟨rfl,zA⟩,⟨rfl,zA⟩,⟨rfl,zA⟩,⟨rfl,zA⟩,⟨rfl,zA⟩,⟨rfl,zA⟩,⟨rfl,qI ?_⟩,⟨rfl,zE λj hj=>(Elem.flat _ _ _).le⟩,trivial⟩⟩;exact qd (by rw [hl];exact hkn) (qn ⟨zC rfl,(zm.sh _ 1 (by decide)).le,zC rfl,zC rfl,zC rfl,zC rfl,zC rfl,zC rfl,zC rfl,zW rfl,zC rfl⟩)
     . conv=>whnf
       exact ⟨s0.next hkn s0.M (by rw [<- eh,Qm (eB2.trans ‹_›)];exact ZH (by rw [hl];exact hkn)),[],by dsimp only [MapI.next];omega,rfl,⟨zD (zJ (zI L)),zB rfl,zM (zO zu S),zB rfl,zD (zH rfl rfl),zB rfl,zB rfl,zB rfl,zF rfl,zB rfl,zB w4,trivial⟩,⟨⟨rfl,zQ (by omega) (qJ rfl rfl rfl rfl rfl rfl rfl rfl)⟩,⟨rfl,zA⟩,⟨rfl,zA⟩,⟨rfl,zA⟩,⟨rfl,zA⟩,⟨rfl,zA⟩,⟨rfl,zA⟩,⟨rfl,zA⟩,⟨rfl,zA⟩,⟨rfl,zE λj hj=>(Elem.flat _ _ _).le⟩,trivial⟩⟩
     . conv=>whnf
       exact ⟨s0.next hkn s0.M (by rw [<- eh,Ql ‹_›];exact ZH (by rw [hl];exact hkn)),[],by dsimp only [MapI.next];omega,rfl,⟨zD (zJ (zI L)),zB rfl,zM (zO zu S),zB rfl,zD (zH rfl rfl),zB rfl,zB rfl,zB rfl,zF rfl,zB rfl,zB w4,trivial⟩,⟨⟨rfl,zQ (by omega) (qJ rfl rfl rfl rfl rfl rfl rfl rfl)⟩,⟨rfl,zA⟩,⟨rfl,zA⟩,⟨rfl,zA⟩,⟨rfl,zA⟩,⟨rfl,zA⟩,⟨rfl,zA⟩,⟨rfl,zA⟩,⟨rfl,zA⟩,⟨rfl,zE λj hj=>(Elem.flat _ _ _).le⟩,trivial⟩⟩
   . have l1:=s0.last hkn;have hkk:=s0.hi;have hl:=s0.n;have w6 : IntKind.i64.wrap ((7 : Int) + 1) = ((7 + 1 : Nat) : Int):=rfl;repeat' (first | (apply And.intro<;>intro hc<;>(first | exact Bool.noConfusion hc | (exfalso;first | exact absurd rfl hc | omega) | (simp only [zl] at hc<;>first | exact absurd rfl hc | (exfalso;first | exact absurd rfl hc | omega) | skip) | skip)) | (refine And.intro zj ?_) | (apply And.intro) | (intro s hs;skip) | (refine Exists.intro _ (And.intro ⟨rfl,rfl,rfl⟩ ?_)))
     conv=>whnf
     refine ⟨s',[],by show L.length - s'.i < _;rw [f4];omega,rfl,⟨zD (zJ (zI L)),zB rfl,zM (zO zu S),zB rfl,zD (zH rfl (by rw [f1,List.length_set])),zB rfl,zB (by rw [f4];rfl),trivial⟩,⟨⟨rfl,⟨rfl,by show _ = s'.M.length;rw [f1,List.length_set];rfl,rfl,rfl,λp hp j hj=>?_⟩⟩,⟨rfl,zR (by rw [f1];exact congrArg Sed.held (zg (by decide)).symm)⟩,⟨rfl,zR (by rw [f1];exact congrArg Sed.held (zg (by decide)).symm)⟩,⟨rfl,zR (by rw [f1];exact congrArg Sed.held (zg (by decide)).symm)⟩,⟨rfl,zR (by rw [f1];exact congrArg Sed.held (zg (by decide)).symm)⟩,⟨rfl,zR (by rw [f1];exact congrArg Sed.held (zg (by decide)).symm)⟩,⟨rfl,zR (by rw [f1];exact congrArg Sed.held (zg (by decide)).symm)⟩,⟨rfl,zR (by rw [f1];exact congrArg Sed.held (zg (by decide)).symm)⟩,⟨rfl,zR (by rw [f1,Qw hiM];exact l1.trans (by rw [<- eW];rfl))⟩,trivial⟩⟩;have hp : p < M.length:=hp;have hj : j < 3:=hj;show Zu _ (Zg 2 M p j) (Zg 2 s'.M p j);rw [f1];rcases (show p = 0 \/ p = 1 \/ p = 2 \/ p = 3 \/ p = 4 \/ p = 5 \/ p = 6 \/ p = 7 by omega) with rfl | rfl | rfl | rfl | rfl | rfl | rfl | rfl;all_goals first
      | exact qF hj (by decide) rfl rfl
      | skip
     refine qG hiM ?_;rcases j with _ | _ | _ | j
     . exact zC rfl
     . exact zC rfl
     . exact zH rfl (by show _ = (List.map _ _).length;rw [List.length_map])
     . omega
theorem cp_all (L : List Sed) (S : List Smy) (now draw : Int) (hv : ZA L = true) (hS : ZR S = true) (hd : ZS draw) (ht : 0 <= now /\ now <= 1099511627776) (s : MapI (QU S now draw) L) (hil : s.i < L.length) (K : Kt) :
 qR T (qH LMq) 1 Try.f29.ntmps 0 (Qg (Zc 4 (Try.f29.body.getD Code.ret))) (SC L S now draw s).fr (SC L S now draw s).H (SC L S now draw s).nx (Yt (λfr H _=>zA8 (SC L S now draw) (λs=>L.length - s.i) 0 (L.length - s.i) fr H) K):=by
 have h8:=Zv hv;rcases (show s.i = 0 \/ s.i = 1 \/ s.i = 2 \/ s.i = 3 \/ s.i = 4 \/ s.i = 5 \/ s.i = 6 \/ s.i = 7 by omega) with h | h | h | h | h | h | h | h
 . exact cp_0 L S now draw hv hS hd ht s h hil K
 . exact cp_1 L S now draw hv hS hd ht s h hil K
 . exact cp_2 L S now draw hv hS hd ht s h hil K
 . exact cp_3 L S now draw hv hS hd ht s h hil K
 . exact cp_4 L S now draw hv hS hd ht s h hil K
 . exact cp_5 L S now draw hv hS hd ht s h hil K
 . exact cp_6 L S now draw hv hS hd ht s h hil K
 . exact cp_7 L S now draw hv hS hd ht s h hil K
theorem rd_vsms {s V : Bool} {M L : List Smy} (hs : s = ZR M) (h : M = L) (hV : ZR L = V) : V = s:=by rw [hs,h,hV]
def SD (L : List Sed) (S : List Smy) (M : List Sed) (_ : Unit) : Hd:=⟨[(0,zL (ZT ZB L)),(2,zL (Qy zu S)),(11,zL (.os 1 0 M.length))],(1,some (qp 2 M.length M)) :: hepP 2 M,10⟩
theorem rd_lk {s B : Bool} {M L : List Sed} {x y : Smy} (hs : s = qy M x) (h : M = L) (hx : x = y) (hB : qy L y = B) : B = s:=by rw [hs,h,hx,hB]
theorem zFy {L : List Sed} {S : List Smy} {p : Nat} {b W : Bool} (h : p < S.length) (hW : (b || (S.drop p).any (qy L)) = W) : ((b || qy L (S.getD p default)) || (S.drop (p + 1)).any (qy L)) = W:=by
 rw [<- hW,qL h,List.any_cons,Bool.or_assoc]
theorem mcmp3 (L : List Sed) (S : List Smy) (M : List Sed) (hL : LHn L) (hS : ZR S = true) (h8 : M.length <= 8) (R : List Sed × Bool × Int) (hR : R = (M,S.any (qy L),0)) :
 Sem Try.prog Try.f29.ntmps 0 (Zc 5 (Try.f29.body.getD Code.ret)) (SD L S M ()).fr (SD L S M ()).H (SD L S M ()).nx (qQ T Try.f29.results.toList λx H _=>FinN (some R.1.length) (Zz R) (Zj ZB 78 R.1) x H):=by
 obtain ⟨hS8,hSm⟩:=vys hS;refine QB (wd:=1) (by decide) zN (zb qz) zP ?_;unfold SD;repeat' (first | (apply And.intro<;>intro hc<;>(first | exact Bool.noConfusion hc | (exfalso;first | exact absurd rfl hc | omega) | (simp only [zl] at hc<;>first | exact absurd rfl hc | (exfalso;first | exact absurd rfl hc | omega) | skip) | skip)) | (refine And.intro zj ?_) | (apply And.intro) | (intro s hs;skip) | (refine Exists.intro _ (And.intro ⟨rfl,rfl,rfl⟩ ?_)))
 conv=>whnf
 obtain ⟨W,eW⟩ : ∃ W,S.any (qy L) = W:=⟨_,rfl⟩;rw [eW] at hR;refine zU (zV qz) (λs : {p : Nat × Bool // p.1 <= S.length /\ (p.2 || (S.drop p.1).any (qy L)) = W}=>(⟨[(0,zL (ZT ZB L)),(11,zL (.os 1 0 M.length)),(18,zL (.bool s.1.2)),(102,zL (Qy zu S)),(103,zL (.int .i64 (S.length : Int))),(104,zL (.int .i64 (s.1.1 : Int)))],(1,some (qp 2 M.length M)) :: hepP 2 M,10⟩ : Hd)) (λs=>S.length - s.1.1) (λ_=>rfl) ?_ ⟨(0,false),Nat.zero_le _,eW⟩ [] ⟨rfl,⟨zD (zJ (zI L)),zD (zH rfl rfl),zG rfl,zM (zO zu S),zB rfl,zB rfl,trivial⟩,⟨⟨rfl,zQ (by omega) (qJ rfl rfl rfl rfl rfl rfl rfl rfl)⟩,⟨rfl,zA⟩,⟨rfl,zA⟩,⟨rfl,zA⟩,⟨rfl,zA⟩,⟨rfl,zA⟩,⟨rfl,zA⟩,⟨rfl,zA⟩,⟨rfl,zA⟩,trivial⟩⟩;rintro ⟨⟨p,b⟩,hp,hW⟩;dsimp only at hp hW ⊢;unfold Qy;by_cases hpl : p < S.length
 . have w4 : IntKind.i64.wrap ((p : Int) + 1) = ((p + 1 : Nat) : Int):=(IntWalk.i64_in _ (by omega)).trans (by omega);have hst:=zFy hpl hW;have hm:=(hSm _ (zw hpl)).2;obtain ⟨B,hB⟩ : ∃ B,qy L (S.getD p default) = B:=⟨_,rfl⟩;rw [hB] at hst;repeat' (first | (simp only [w4]) | (apply And.intro<;>intro hc<;>(first | exact Bool.noConfusion hc | (exfalso;first | exact absurd rfl hc | omega) | (simp only [zl] at hc<;>first | exact absurd rfl hc | (exfalso;first | exact absurd rfl hc | omega) | skip) | skip)) | (refine And.intro zj ?_) | (apply And.intro) | (intro s hs;(have q:=rd_lk hs (zr ZL _) rfl hB;clear hs;subst q)) | (refine Exists.intro _ (And.intro ⟨rfl,rfl,rfl⟩ ?_)))
   . exact λ_ _=>⟨rfl,Zy _⟩
   . exact ⟨by rw [zr ZL];exact hL.n,by rw [zr ZL];exact hL.h,hm⟩
   . have hBt : B = true:=by assumption
     rw [hBt,Bool.or_true] at hst;conv=>whnf
     exact ⟨⟨(p + 1,true),hpl,hst⟩,[],by dsimp only;omega,rfl,⟨zD (zJ (zI L)),zD (zH rfl rfl),zG rfl,zM (zO zu S),zB rfl,zB w4,trivial⟩,⟨⟨rfl,zQ (by omega) (qJ rfl rfl rfl rfl rfl rfl rfl rfl)⟩,⟨rfl,zA⟩,⟨rfl,zA⟩,⟨rfl,zA⟩,⟨rfl,zA⟩,⟨rfl,zA⟩,⟨rfl,zA⟩,⟨rfl,zA⟩,⟨rfl,zA⟩,trivial⟩⟩
   . have hBf : B = false:=by assumption
     rw [hBf,Bool.or_false] at hst;conv=>whnf
     exact ⟨⟨(p + 1,b),hpl,hst⟩,[],by dsimp only;omega,rfl,⟨zD (zJ (zI L)),zD (zH rfl rfl),zG rfl,zM (zO zu S),zB rfl,zB w4,trivial⟩,⟨⟨rfl,zQ (by omega) (qJ rfl rfl rfl rfl rfl rfl rfl rfl)⟩,⟨rfl,zA⟩,⟨rfl,zA⟩,⟨rfl,zA⟩,⟨rfl,zA⟩,⟨rfl,zA⟩,⟨rfl,zA⟩,⟨rfl,zA⟩,⟨rfl,zA⟩,trivial⟩⟩
 . have e : b = W:=by rw [<- hW,List.drop_of_length_le (by omega)];simp
   subst e;repeat' (first | (apply And.intro<;>intro hc<;>(first | exact Bool.noConfusion hc | (exfalso;first | exact absurd rfl hc | omega) | (simp only [zl] at hc<;>first | exact absurd rfl hc | (exfalso;first | exact absurd rfl hc | omega) | skip) | skip)) | (refine And.intro zj ?_) | (apply And.intro) | (intro s hs;skip) | (refine Exists.intro _ (And.intro ⟨rfl,rfl,rfl⟩ ?_)))
   conv=>whnf
   subst hR;refine ⟨some 1,ZZ ⟨zH rfl rfl,zW rfl,zC rfl,trivial⟩,⟨rfl,rfl,rfl,rfl,λp hp j hj=>?_⟩⟩;have hp : p < M.length:=hp;have hj : j < 3:=hj;show Zu _ (Zg 2 M p j) (zo ZB M p j);rcases (show p = 0 \/ p = 1 \/ p = 2 \/ p = 3 \/ p = 4 \/ p = 5 \/ p = 6 \/ p = 7 by omega) with rfl | rfl | rfl | rfl | rfl | rfl | rfl | rfl;all_goals exact Qt hj rfl rfl
theorem mcmp1 (L : List Sed) (now : Int) (S : List Smy) (draw : Int) (hL : LHn L) (hSn : S.length <= 9223372036854775807) (hdr : ZS draw) : zBG Try.prog 29 [(cNS ZB qA).enc L,(cI .i64).enc now,(cSl zu zAV).enc S,(cI .u32).enc draw] (some (Zs L now S draw).1.length) (Zz (Zs L now S draw)) (Zj ZB 78 (Zs L now S draw).1):=by
 obtain ⟨R,hR⟩ : ∃ R,Zs L now S draw = R:=⟨_,rfl⟩;rw [hR];obtain ⟨V,hV⟩ : ∃ V,ZA L = V:=⟨_,rfl⟩;obtain ⟨U,hU⟩ : ∃ V,ZR S = V:=⟨_,rfl⟩;obtain ⟨B,hB⟩ : ∃ B,ZD now = B:=⟨_,rfl⟩;refine zBC zN Try.func29 rfl _ (by show 4 <= _;decide) (λi _ j hj=>zB4 _ hj) ?_;refine zK (wd:=1) (by decide) zN (zb qz) zP ?_;refine zK (wd:=1) (by decide) zN (zb qz) zP ?_;repeat' (first | (apply And.intro<;>intro hc<;>(first | exact Bool.noConfusion hc | (exfalso;first | exact absurd rfl hc) | (simp only [zl] at hc<;>first | exact absurd rfl hc | (exfalso;first | exact absurd rfl hc) | skip) | skip)) | (refine And.intro zj ?_) | (apply And.intro) | (intro s hs;(first | (have q : V = s:=zAT hs (zr ZL _) hV;clear hs;subst q) | (have q : U = s:=rd_vsms hs (Ye eSm_rd _) hU;clear hs;subst q))) | (refine Exists.intro _ (And.intro ⟨rfl,rfl,rfl⟩ ?_)))
 . exact λ_ _=>⟨rfl,Zy _⟩
 . exact Eq.mpr (congrArg LHn (zr ZL _)) hL
 . exact qc (by rw [<- hR];unfold Zs;rw [if_pos (.inl (hV.trans ‹_›))])
 . exact Eq.mpr (congrArg (λz : List Smy=>z.length <= 9223372036854775807) (Ye eSm_rd _)) hSn
 . exact qc (by rw [<- hR];unfold Zs;rw [if_pos (.inr (hU.trans ‹_›))])
 have hVt : ZA L = true:=hV.trans ‹_›;have hUt : ZR S = true:=hU.trans ‹_›;refine zK (wd:=1) (by decide) zN (zb qz) zP ?_;repeat' (first | (apply And.intro<;>intro hc<;>(first | exact Bool.noConfusion hc | (exfalso;first | exact absurd rfl hc) | (simp only [zl] at hc<;>first | exact absurd rfl hc | (exfalso;first | exact absurd rfl hc) | skip) | skip)) | (refine And.intro zj ?_) | (apply And.intro) | (intro s hs;(have q : B = s:=hB.symm.trans hs.symm;clear hs;subst q)) | (refine Exists.intro _ (And.intro ⟨rfl,rfl,rfl⟩ ?_)))
 . exact qc (by rw [<- hR];unfold Zs;rw [if_neg (by rw [hVt,hUt];simp),if_pos (hB.trans ‹_›)])
 have hBt : ZD now = true:=hB.trans ‹_›;refine zK (wd:=9) (by decide) zN (zb qz) zP ?_;repeat' (first | (apply And.intro<;>intro hc<;>(first | exact Bool.noConfusion hc | (exfalso;first | exact absurd rfl hc) | (simp only [zl] at hc<;>first | exact absurd rfl hc | (exfalso;first | exact absurd rfl hc) | skip) | skip)) | (refine And.intro zj ?_) | (apply And.intro) | (intro s hs;(have q : L = s:=(hs.trans (zr ZL _)).symm;clear hs;subst q)) | (refine Exists.intro _ (And.intro ⟨rfl,rfl,rfl⟩ ?_)))
 . exact λ_ _=>⟨rfl,Zy _⟩
 . exact Eq.mpr (congrArg Cl8 (zr ZL _)) (vl_c8 hVt)
 change Sem _ _ _ _ _ _ _ _;refine Zb (wd:=1) (by decide) zN (zb qz) (zV qz) zP (SD L S (L.map (QU S now draw))) (by intro _;rfl) ?_ ?_
 . repeat' (first | (apply And.intro<;>intro hc<;>(first | exact Bool.noConfusion hc | (exfalso;first | exact absurd rfl hc) | (simp only [zl] at hc<;>first | exact absurd rfl hc | (exfalso;first | exact absurd rfl hc) | skip) | skip)) | (refine And.intro zj ?_) | (apply And.intro) | (intro s hs;skip) | (refine Exists.intro _ (And.intro ⟨rfl,rfl,rfl⟩ ?_)))
   conv=>whnf
   refine zU (zV qz) (SC L S now draw) (λs=>L.length - s.i) (λ_=>rfl) ?_ (MapI.start _ _) [(1,some 23),(2,some 24),(3,some 25),(4,some 26),(5,some 27),(6,some 28),(7,some 29),(8,some 30),(9,some 31)] ⟨rfl,⟨zD (zJ (zI L)),zB rfl,zM (zO zu S),zB rfl,zD (zH rfl rfl),zB rfl,zB rfl,trivial⟩,⟨⟨rfl,⟨rfl,rfl,rfl,rfl,λp hp j hj=>qm hj (qJ (P:=λp=>Wc.src _ (2 + p) = some (24 + p)) rfl rfl rfl rfl rfl rfl rfl rfl p (Nat.lt_of_lt_of_le hp (Zv hVt)))⟩⟩,⟨rfl,zA⟩,⟨rfl,zA⟩,⟨rfl,zA⟩,⟨rfl,zA⟩,⟨rfl,zA⟩,⟨rfl,zA⟩,⟨rfl,zA⟩,⟨rfl,zA⟩,trivial⟩⟩;intro s;by_cases hil : s.i < L.length
   . exact cp_all L S now draw hVt hUt hdr (Zi.1 hBt) s hil _
   . have eM:=s.last hil;have hML : s.M.length = L.length:=s.n;unfold SC;repeat' (first | (apply And.intro<;>intro hc<;>(first | exact Bool.noConfusion hc | (exfalso;first | exact absurd rfl hc | omega) | (simp only [zl] at hc<;>first | exact absurd rfl hc | (exfalso;first | exact absurd rfl hc | omega) | skip) | skip)) | (refine And.intro zj ?_) | (apply And.intro) | (intro s hs;skip) | (refine Exists.intro _ (And.intro ⟨rfl,rfl,rfl⟩ ?_)))
     conv=>whnf
     rw [<- eM];exact ⟨(),[],rfl,⟨zD (zJ (zI L)),zM (zO zu S),zD (zH rfl rfl),trivial⟩,⟨⟨rfl,zQ (by have:=Zv hVt;omega) (qJ rfl rfl rfl rfl rfl rfl rfl rfl)⟩,⟨rfl,zA⟩,⟨rfl,zA⟩,⟨rfl,zA⟩,⟨rfl,zA⟩,⟨rfl,zA⟩,⟨rfl,zA⟩,⟨rfl,zA⟩,⟨rfl,zA⟩,trivial⟩⟩
 . intro _;exact mcmp3 L S (L.map (QU S now draw)) hL hUt (by rw [List.length_map];exact Zv hVt) R (by rw [<- hR];exact zDQ hVt hUt hBt)
structure CmpP (L : List Sed) (S : List Smy) (d : Int) : Prop where
 h : LHn L
 n : S.length <= 9223372036854775807
 d : ZS d
abbrev zFz : Zk:=newE (AC.cons (cNS ZB qA) (AC.cons (cI .i64) (AC.cons (cSl zu zAV) (AC.cons (cI .u32) AC.nil)))) (λa=>CmpP a.1 a.2.2.1 a.2.2.2.1) (λa=>Zs a.1 a.2.1 a.2.2.1 a.2.2.2.1) (λs=>some s.1.length) Zz (λs=>Zj ZB 78 s.1)
theorem zF0 : EntOk Try.prog 29 zFz:=zA2 ⟨_,Try.func29,rfl,by kernel_rfl⟩ (λs l h x hx=>by
 injection h with h;subst h;rcases List.mem_cons.1 hx with rfl | hx
 . exact zCy zB7
 . rcases List.mem_cons.1 hx with rfl | hx
   . exact zCy zA1
   . cases hx) λa h=>mcmp1 a.1 a.2.1 a.2.2.1 a.2.2.2.1 h.h h.n h.d
end Go.Proofs.Ytfaibcgakcmhcaa.AX
