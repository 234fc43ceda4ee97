/- Texts of one's own in one file: Re5b, Re5a, Re5, Dd, CqU, CqD, CqM, CompressDecodesA, Fp, Wt, CoH, CompressDecodesW. -/
import Derived.Test.YtjknkfjhcapocaaGreatDoorJCompressDecodese
import Derived.Test.YtjknkfjhcapocaaGreatDoorJCompressDecodesc
import Derived.Test.YtjknkfjhcapocaaGreatDoorJCompressDecodesb
import Derived.SizedLaws
import Derived.ChangeSlices
import Derived.Test.YtjknkfjhcapocaaGreatDoorRows
import Derived.Test.YtjknkfjhcapocaaGreatDoorJCompressDecodesa
import Derived.LaidLaws
import Derived.OpenShut
import Derived.ChangeArms
import Derived.FnData
import Derived.KernelRfl
set_option linter.unusedVariables false
set_option linter.unusedSimpArgs false
set_option maxHeartbeats 16000000
set_option maxRecDepth 20000
namespace Go.Proofs.YtjknkfjhcapocaaGreatDoor.AX
open Go.RowKit
section
variable (b : List Int) (f t : Adr) (l : List Ctx) (now : Int)
theorem rd2 (hC : Zj f t l now = 0) (hb : BL b) (hbl : b.length <= 140737488355328) (hl : bytesL l) (s : RS2 b f t l now) : Sem Tryz.prog Tryz.f65.ntmps 0 (zC1 8 (Tryz.f65.body.getD Code.ret)) (HS2 b f t l now s).fr (HS2 b f t l now s).H (HS2 b f t l now s).nx (YQ T Tryz.f65.results.toList λx H _=>Done H x (zAN (Zr b f t l now))):=by
 obtain ⟨x,y,q,e,hr,hx,hy,j⟩:=s;unfold HS2;dsimp only;unfold KI at j;obtain ⟨ja,js⟩:=J_if j;have ja:=λhh=>zC4 (ja hh);have rU:=zAO (e:=e) (n:=1) hr;have vU:=zCE (q:=q) (e:=e) hb;obtain ⟨U,eU⟩ : ∃ x,ZM b q e 1 = x:=⟨_,rfl⟩;rw [eU] at ja rU vU;have wu : IntKind.i64.wrap U.1 = U.1:=IntWalk.i64_in _ (by omega);clear j;have g1:=trivial;refine YO (wd:=1) (by decide) zM (zT qA) zN ?_;repeat' (first | (apply And.intro<;>intro hc<;>(first | exact Bool.noConfusion hc | exact zn2 hc | (simp only [Zi] at hc<;>first | exact absurd rfl hc | exact zn2 hc | skip) | skip)) | (refine And.intro Za ?_) | (apply And.intro) | (refine Exists.intro b (And.intro ⟨rfl,rfl,by first | exact trivial⟩ ?_)) | (intro s hs;skip))
 all_goals try (first | exact rfl | exact λ_=>rfl)
 refine zBC (wd:=1) (by decide) zM (zT qA) (ZE qA) zN (HS3 b f t l now) (λ_=>rfl) ?_ (rd3 b f t l now hC hb hbl hl);repeat' (first | (apply And.intro<;>intro hc<;>(first | exact Bool.noConfusion hc | exact zn2 hc | (simp only [Zi] at hc<;>first | exact absurd rfl hc | exact zn2 hc | skip) | skip)) | (refine And.intro Za ?_) | (apply And.intro) | (refine Exists.intro b (And.intro ⟨rfl,rfl,by first | exact trivial | exact ⟨hr,by decide,by decide⟩⟩ ?_)) | (intro s hs;(first | (clear g1;have q : U = s:=(hs.trans eU).symm;clear hs;subst q) | skip)))
 all_goals try (first | exact rfl | exact λ_=>rfl)
 all_goals first
  | (refine ⟨⟨x,y,U.1,U.2.1,U.2.2,rU,hx,hy,vU,ja ‹_›⟩,[],rfl,?_,?_⟩
     . repeat' (first | exact qH | refine zF ?_ | refine zC ?_ | exact qI | apply And.intro)
       all_goals exact wu
     . repeat' (first | exact qH | refine zF ?_ | refine zC ?_ | exact qI | apply And.intro)
       all_goals first
        | exact QL rfl rfl rfl
        | (refine zh ?_;repeat' (first | exact trivial | exact rfl | exact zA rfl | exact zH rfl | exact zm | apply And.intro))
        | skip)
  | (refine ⟨⟨x,y,0,q,e,hr,hx,hy,⟨by decide,by decide⟩,js (by first | assumption | omega)⟩,[],rfl,?_,?_⟩
     . exact QI
     . repeat' (first | exact qH | refine zF ?_ | refine zC ?_ | exact qI | apply And.intro)
       all_goals first
        | exact QL rfl rfl rfl
        | (refine zh ?_;repeat' (first | exact trivial | exact rfl | exact zA rfl | exact zH rfl | exact zm | apply And.intro))
        | skip)
  | skip
end
section
variable (b : List Int) (f t : Adr) (l : List Ctx) (now : Int)
theorem rd1 (hC : Zj f t l now = 0) (hb : BL b) (hbl : b.length <= 140737488355328) (hl : bytesL l) (s : RS1 b f t l now) : Sem Tryz.prog Tryz.f65.ntmps 0 (zC1 5 (Tryz.f65.body.getD Code.ret)) (HS1 b f t l now s).fr (HS1 b f t l now s).H (HS1 b f t l now s).nx (YQ T Tryz.f65.results.toList λx H _=>Done H x (zAN (Zr b f t l now))):=by
 obtain ⟨x,q,e,hr,hx,j⟩:=s;unfold HS1;dsimp only;have ja:=zC4 j;have rU:=zAO (e:=e) (n:=1) hr;have vU:=zCE (q:=q) (e:=e) hb;obtain ⟨U,eU⟩ : ∃ x,ZM b q e 1 = x:=⟨_,rfl⟩;rw [eU] at ja rU vU;have wu : IntKind.i64.wrap U.1 = U.1:=IntWalk.i64_in _ (by omega);have jb:=zGa (z:=zJ) (q:=U.2.1) (by decide) ja;obtain ⟨E,eE⟩ : ∃ x,za U.2.2 (zBW U.1) 5 = x:=⟨_,rfl⟩;rw [eE] at jb;have m8 : (IntKind.i64.wrap ((IntKind.i64.wrap U.1).tdiv 8)).tmod 2 = U.1 / 8 % 2:=by rw [wu];exact zDe vU 8 2 (by decide) (by decide)
 have m4 : (IntKind.i64.wrap ((IntKind.i64.wrap U.1).tdiv 4)).tmod 2 = U.1 / 4 % 2:=by rw [wu];exact zDe vU 4 2 (by decide) (by decide)
 have mm : (IntKind.i64.wrap U.1).tmod 4 = U.1 % 4:=by rw [wu];exact Int.tmod_eq_emod_of_nonneg vU.1
 have bB : zBW U.1 = (decide ((IntKind.i64.wrap ((IntKind.i64.wrap U.1).tdiv 4)).tmod 2 = 1) && (decide ((IntKind.i64.wrap ((IntKind.i64.wrap U.1).tdiv 8)).tmod 2 = 1) || decide ((IntKind.i64.wrap U.1).tmod 4 = 0))):=by rw [m8,m4,mm];rfl
 have bT : (IntKind.i64.wrap ((IntKind.i64.wrap U.1).tdiv 8)).tmod 2 = 1 -> (IntKind.i64.wrap ((IntKind.i64.wrap U.1).tdiv 4)).tmod 2 = 1 -> true = zBW U.1:=λh1 h2=>by rw [bB,decide_eq_true h1,decide_eq_true h2];rfl
 have bF : ¬ (IntKind.i64.wrap ((IntKind.i64.wrap U.1).tdiv 4)).tmod 2 = 1 -> false = zBW U.1:=λh2=>by rw [bB,decide_eq_false h2];rfl
 have bX : ¬ (IntKind.i64.wrap ((IntKind.i64.wrap U.1).tdiv 8)).tmod 2 = 1 -> (IntKind.i64.wrap ((IntKind.i64.wrap U.1).tdiv 4)).tmod 2 = 1 -> ((IntKind.i64.wrap U.1).tmod 4 == 0) = zBW U.1:=λh1 h2=>by rw [bB,decide_eq_false h1,decide_eq_true h2];rfl
 clear j ja;have g1:=trivial;refine YO (wd:=1) (by decide) zM (zT qA) zN ?_;repeat' (first | (apply And.intro<;>intro hc<;>(first | exact Bool.noConfusion hc | exact zn2 hc | (simp only [Zi] at hc<;>first | exact absurd rfl hc | exact zn2 hc | skip) | skip)) | (refine And.intro Za ?_) | (apply And.intro) | (refine Exists.intro b (And.intro ⟨rfl,rfl,by first | exact trivial | exact ⟨hr,by decide,by decide⟩⟩ ?_)) | (intro s hs;(first | (clear g1;have q : U = s:=(hs.trans eU).symm;clear hs;subst q) | skip)))
 all_goals try (first | exact rfl | exact λ_=>rfl)
 refine YO (wd:=1) (by decide) zM (zT qA) zN ?_;repeat' (first | (apply And.intro<;>intro hc<;>(first | exact Bool.noConfusion hc | exact zn2 hc | (simp only [Zi] at hc<;>first | exact absurd rfl hc | exact zn2 hc | skip) | skip)) | (refine And.intro Za ?_) | (apply And.intro) | (refine Exists.intro b (And.intro ⟨rfl,rfl,by first | exact trivial⟩ ?_)) | (intro s hs;skip))
 refine zBC (wd:=1) (by decide) zM (zT qA) (ZE qA) zN (HS2 b f t l now) (λ_=>rfl) ?_ (rd2 b f t l now hC hb hbl hl);repeat' (first | (apply And.intro<;>intro hc<;>(first | exact Bool.noConfusion hc | exact zn2 hc | (simp only [Zi] at hc<;>first | exact absurd rfl hc | exact zn2 hc | skip) | skip)) | (refine And.intro Za ?_) | (apply And.intro) | (refine Exists.intro b (And.intro ⟨rfl,rfl,by first | exact trivial | exact ⟨hr,by decide,by decide⟩⟩ ?_)) | (intro s hs;(first | (have hb5:=bT ‹_› ‹_›;have q : s = ((),U.2.1,E):=hs.trans ((congrArg (λx=>((),U.2.1,za U.2.2 x 5)) hb5).trans (congrArg (λx=>((),U.2.1,x)) eE));clear hs;subst q) | (have hb5:=bX ‹_› ‹_›;have q : s = ((),U.2.1,E):=hs.trans ((congrArg (λx=>((),U.2.1,za U.2.2 x 5)) hb5).trans (congrArg (λx=>((),U.2.1,x)) eE));clear hs;subst q) | (have hb5:=bF ‹_›;have q : s = ((),U.2.1,E):=hs.trans ((congrArg (λx=>((),U.2.1,za U.2.2 x 5)) hb5).trans (congrArg (λx=>((),U.2.1,x)) eE));clear hs;subst q) | skip)))
 all_goals try (first | exact rfl | exact λ_=>rfl)
 all_goals first
  | (refine ⟨⟨x,U.1,U.2.1,E,rU,hx,vU,jb⟩,[],rfl,?_,?_⟩
     . repeat' (first | exact qH | refine zF ?_ | refine zC ?_ | exact qI | apply And.intro)
       all_goals first | exact wu | exact mm | (show ((IntKind.i64.wrap ((IntKind.i64.wrap U.1).tdiv 8)).tmod 2 == 1) = _;rw [m8];rfl) | (show ((IntKind.i64.wrap ((IntKind.i64.wrap U.1).tdiv 4)).tmod 2 == 1) = _;rw [m4];rfl)
     . repeat' (first | exact qH | refine zF ?_ | refine zC ?_ | exact qI | apply And.intro)
       all_goals first
        | exact QL rfl rfl rfl
        | (refine zh ?_;repeat' (first | exact trivial | exact rfl | exact zA rfl | exact zH rfl | exact zm | apply And.intro))
        | skip)
  | skip
end
section
variable (b : List Int) (f t : Adr) (l : List Ctx) (now : Int)
theorem rdecI_ok (hb : BL b) (hbl : b.length <= 140737488355328) (hl : bytesL l) : zY Tryz.prog 65 [(qf eB Zb).enc b,(cE ZF).enc f,(cE ZF).enc t,(qf zb zq).enc l,(cI .i64).enc now] (zAN (Zr b f t l now)):=by
 have r0 : RdOk b 0:=⟨hb,hbl,Int.le_refl 0,Int.natCast_nonneg _⟩;obtain ⟨Ck,eC⟩ : ∃ x,Zj f t l now = x:=⟨_,rfl⟩;have e0 : ¬ Ck = 0 -> Zr b f t l now = (((zJ,[]),0),Ck):=λh=>decI_0 eC h;refine zH5 zM Tryz.func65 rfl _ (by show 5 <= _;decide) _ ?_;refine YO (wd:=1) (by decide) zM (zT qA) zN ?_;repeat' (first | (apply And.intro<;>intro hc<;>(first | exact Bool.noConfusion hc | exact zn2 hc | (simp only [Zi] at hc<;>first | exact absurd rfl hc | exact zn2 hc | skip) | skip)) | (refine And.intro Za ?_) | (apply And.intro) | (refine Exists.intro b (And.intro ⟨rfl,rfl,by first | exact trivial⟩ ?_)) | (intro s hs;skip))
 refine YO (wd:=1) (by decide) zM (zT qA) zN ?_;repeat' (first | (apply And.intro<;>intro hc<;>(first | exact Bool.noConfusion hc | exact zn2 hc | (simp only [Zi] at hc<;>first | exact absurd rfl hc | exact zn2 hc | skip) | skip)) | (refine And.intro Za ?_) | (apply And.intro) | (refine Exists.intro b (And.intro ⟨rfl,rfl,by first | exact trivial⟩ ?_)) | (intro s hs;(first | (have q : Ck = s:=(hs.trans ((congr (congr (congrArg (λa b c=>Zj a b c now) (zt f)) (zt t)) (zU l)).trans eC)).symm;clear hs;subst q) | skip)))
 . exact Eq.mp (congrArg bytesL (zU l).symm) hl
 . rw [e0 ‹_›];exact zq4
 have hC : Zj f t l now = 0:=eC.trans ‹_›;have j0 : J (qi b f t l now) 0 (zo (zB b 0 1) zJ λx q=>if x < 96 \/ 127 < x then ((zJ,5),q) else zo (zB b q 1) zJ λy q=>if zBW y = true then ((zJ,5),q) else KI b f t l now x y q):=⟨λ_=>read_K b f t l now,λh=>absurd rfl h⟩;have j1:=zC4 j0;have v1:=zCE (q:=0) (e:=0) hb;have r1:=zAO (e:=0) (n:=1) r0;obtain ⟨U,eU⟩ : ∃ x,ZM b 0 0 1 = x:=⟨_,rfl⟩;rw [eU] at j1 v1 r1;have w1 : IntKind.i64.wrap U.1 = U.1:=IntWalk.i64_in _ (by omega);have j2 : J (qi b f t l now) U.2.2 (if (decide (U.1 < 96) || decide (127 < U.1)) = true then ((zJ,5),U.2.1) else zo (zB b U.2.1 1) zJ λy q=>if zBW y = true then ((zJ,5),q) else KI b f t l now U.1 y q):=by
  refine Eq.mp (congrArg (J _ _) ?_) j1;by_cases hh : U.1 < 96 \/ 127 < U.1
  . rw [if_pos hh,if_pos (by rw [Bool.or_eq_true,decide_eq_true_eq,decide_eq_true_eq];exact hh)]
  . rw [if_neg hh,if_neg (by rw [Bool.or_eq_true,decide_eq_true_eq,decide_eq_true_eq];exact hh)]
 have j3:=zGa (by decide) j2;obtain ⟨E,eE⟩ : ∃ x,za U.2.2 (decide (U.1 < 96) || decide (127 < U.1)) 5 = x:=⟨_,rfl⟩;rw [eE] at j3;have bT : IntKind.i64.wrap U.1 < 96 -> true = (decide (U.1 < 96) || decide (127 < U.1)):=λh=>by rw [decide_eq_true (show U.1 < 96 by omega)];rfl
 have bF : ¬ IntKind.i64.wrap U.1 < 96 -> decide (127 < IntKind.i64.wrap U.1) = (decide (U.1 < 96) || decide (127 < U.1)):=λh=>by rw [decide_eq_false (show ¬ U.1 < 96 by omega),w1];rfl
 clear j1 j2 j0;have g1:=trivial;refine YO (wd:=1) (by decide) zM (zT qA) zN ?_;repeat' (first | (apply And.intro<;>intro hc<;>(first | exact Bool.noConfusion hc | exact zn2 hc | (simp only [Zi] at hc<;>first | exact absurd rfl hc | exact zn2 hc | skip) | skip)) | (refine And.intro Za ?_) | (apply And.intro) | (refine Exists.intro b (And.intro ⟨rfl,rfl,by first | exact trivial⟩ ?_)) | (intro s hs;skip))
 refine YO (wd:=1) (by decide) zM (zT qA) zN ?_;repeat' (first | (apply And.intro<;>intro hc<;>(first | exact Bool.noConfusion hc | exact zn2 hc | (simp only [Zi] at hc<;>first | exact absurd rfl hc | exact zn2 hc | skip) | skip)) | (refine And.intro Za ?_) | (apply And.intro) | (refine Exists.intro b (And.intro ⟨rfl,rfl,by first | exact ⟨r0,by decide,by decide⟩ | exact trivial⟩ ?_)) | (intro s hs;(first | (clear g1;have q : U = s:=(hs.trans eU).symm;clear hs;subst q) | skip)))
 refine zBC (wd:=1) (by decide) zM (zT qA) (ZE qA) zN (HS1 b f t l now) (λ_=>rfl) ?_ (rd1 b f t l now hC hb hbl hl);repeat' (first | (apply And.intro<;>intro hc<;>(first | exact Bool.noConfusion hc | exact zn2 hc | (simp only [Zi] at hc<;>first | exact absurd rfl hc | exact zn2 hc | skip) | skip)) | (refine And.intro Za ?_) | (apply And.intro) | (refine Exists.intro b (And.intro ⟨rfl,rfl,by first | exact trivial⟩ ?_)) | (intro s hs;(first | (have hb5:=bT ‹_›;have q : s = ((),U.2.1,E):=hs.trans ((congrArg (λx=>((),U.2.1,za U.2.2 x 5)) hb5).trans (congrArg (λx=>((),U.2.1,x)) eE));clear hs;subst q) | (have hb5:=bF ‹_›;have q : s = ((),U.2.1,E):=hs.trans ((congrArg (λx=>((),U.2.1,za U.2.2 x 5)) hb5).trans (congrArg (λx=>((),U.2.1,x)) eE));clear hs;subst q) | skip)))
 all_goals try (first | exact rfl | exact λ_=>rfl)
 all_goals first
  | (refine ⟨⟨U.1,U.2.1,E,r1,v1,j3⟩,[],rfl,?_,?_⟩
     . repeat' (first | exact qH | refine zF ?_ | refine zC ?_ | exact qI | apply And.intro)
       all_goals exact w1
     . repeat' (first | exact qH | refine zF ?_ | refine zC ?_ | exact qI | apply And.intro)
       all_goals first
        | exact QL rfl rfl rfl
        | (refine zh ?_;repeat' (first | exact trivial | exact rfl | exact zA rfl | exact zH rfl | exact zm | apply And.intro))
        | skip)
  | skip
end
theorem rdecIE_ok : EntOk Tryz.prog 65 decIE:=zO ⟨_,Tryz.func65,rfl,by kernel_rfl⟩ λa h=>rdecI_ok a.1 a.2.1 a.2.2.1 a.2.2.2.1 a.2.2.2.2.1 h.1 h.2.1 h.2.2
theorem zA0 {b b' : List Int} {a a' c c' : Adr} {l l' : List Ctx} {n : Int} (h1 : b' = b) (h2 : a' = a) (h3 : c' = c) (h4 : l' = l) : Zr b' a' c' l' n = Zr b a c l n:=by rw [h1,h2,h3,h4]
theorem ruint2_ok (b : List Int) (a n : Int) (hb : BL b) (hl : b.length <= 140737488355328) :
 zY Tryz.prog 66 [(qf eB Zb).enc b,(cI .i64).enc a,(cI .i64).enc n] (zFx (ZL b a n)):=by
 by_cases hr : 1 <= n /\ n <= 8 /\ 0 <= a /\ a <= b.length - n
 . obtain ⟨m,rfl⟩ : ∃ m : Nat,n = m:=⟨n.toNat,by omega⟩;obtain ⟨p,rfl⟩ : ∃ p : Nat,a = p:=⟨a.toNat,by omega⟩;obtain ⟨w,hw⟩ : ∃ w,w = (b.drop p).take m:=⟨_,rfl⟩;have hwl : w.length = m:=by rw [hw];simp;omega
   have hwB : BL w:=by rw [hw];exact (hb.drop p).take m
   have hsp : ZL b p m = (ZT w,true):=by unfold ZL;rw [if_pos hr,hw];rfl
   rw [hsp];have e1 : IntKind.i64.wrap ((b.length : Int) - p) = b.length - p:=IntWalk.i64_in _ (by omega);refine zG (wd:=1) (by decide) zM (zT ZG) zN Tryz.func66 rfl _ (by show 3 <= _;decide) _ ?_;repeat' (first | (apply And.intro<;>intro hc<;>(first | exact Bool.noConfusion hc | (simp only [qm] at hc) | skip)) | (refine And.intro Ql ?_) | (apply And.intro) | (intro s hs))
   all_goals first
    | (exfalso;omega)
    | omega
    | skip
   refine zp (ZE ZG) (λs : {k : Nat // k <= m}=>(⟨[(0,one (.sl false b.length eB.sz (zn eB b))),(1,one (.int .i64 p)),(2,one (.int .i64 m)),(8,one (.int .u64 (ZT (w.take s.1)))),(9,one (.int .i64 (s.1 : Int)))],[],0⟩ : Hd)) (λs=>m - s.1) (λ_=>rfl) ?_ ⟨0,by omega⟩ [] ?_
   . rintro ⟨k,hk⟩;dsimp only at hk ⊢;have hv:=zBP (w.take k) (hwB.take k);have hp:=Yj (show (w.take k).length <= k by simp;omega);have e2 : IntKind.i64.wrap ((p : Int) + k) = p + k:=IntWalk.i64_in _ (by omega);repeat' (first | (apply And.intro<;>intro hc<;>(first | exact Bool.noConfusion hc | (simp only [qm] at hc) | skip)) | (refine And.intro Ql ?_) | (apply And.intro) | (intro s hs))
     all_goals first
      | omega
      | skip
     . have hc' : k < m:=by omega
       have hp7:=Yj (show k <= 7 by omega);have hx:=hb.get (p + k);refine ⟨⟨k + 1,by omega⟩,[],by dsimp only<;>omega,rfl,?_,?_⟩
       . repeat' (first | exact qH | refine zF ?_ | refine zC ?_ | exact qI | apply And.intro)
         . rw [e2,show ((p : Int) + k).toNat = p + k by omega];rw [shl8 _ ⟨hv.1,by omega⟩,show IntKind.u64.wrap (b.getD (p + k) default) = b.getD (p + k) default from IntWalk.u64_in _ (by omega),IntWalk.u64_in _ (by omega)];show _ = ZT (w.take (k + 1));rw [QC (by omega),YJ,hw,zBd _ _ _ _ (by omega) (by omega)]
         . exact zaw
       . exact QI
     . refine Done.mk (zE ?_);have hkm : k = m:=by omega
       refine ⟨zAY (zA ?_),zAY (zH rfl),trivial⟩;show ZT (w.take k) = ZT w;rw [List.take_of_length_le (by omega)]
   . refine ⟨rfl,?_,?_⟩
     . exact QI
     . exact QI
 . have hsp : ZL b a n = (0,false):=by unfold ZL;rw [if_neg hr]
   rw [hsp];have e1 : 0 <= a -> a <= b.length -> IntKind.i64.wrap ((b.length : Int) - a) = b.length - a:=λ_ _=>IntWalk.i64_in _ (by omega);refine zG (wd:=1) (by decide) zM (zT ZG) zN Tryz.func66 rfl _ (by show 3 <= _;decide) _ ?_;repeat' (first | (apply And.intro<;>intro hc<;>(first | exact Bool.noConfusion hc | (simp only [qm] at hc) | skip)) | (refine And.intro Ql ?_) | (apply And.intro) | (intro s hs))
   all_goals first
    | exact Done.mk (zE ⟨zAY (zA rfl),zAY (zH rfl),trivial⟩)
    | (exfalso;have:=e1 (by omega) (by omega);omega)
theorem zJE : EntOk Tryz.prog 66 zG9:=zO ⟨_,Tryz.func66,rfl,by kernel_rfl⟩ λa h=>ruint2_ok a.1 a.2.1 a.2.2.1 h.1 h.2
def LCs : Qb:=(64,some decE) :: (65,some decIE) :: (66,some zG9) :: (25,some sizeE) :: (33,some rsumE) :: []
theorem zFr : ZC Tryz.prog LCs:=⟨(LRp6_ok).1,rdecIE_ok,zJE,zO ⟨_,Tryz.func25,rfl,by kernel_rfl⟩ λa h=>zFa a.1 h,(zEh).1,trivial⟩
theorem zCD {b b' : List Int} {a a' n n' : Int} (h1 : b' = b) (h2 : a' = a) (h3 : n' = n) : ZL b' a' n' = ZL b a n:=by rw [h1,h2,h3]
theorem zDa (b : List Int) (n k : Nat) : b.getD (n + k) default = gB (b.drop n) k:=by
 unfold gB;rw [List.getD_eq_getElem?_getD,List.getD_eq_getElem?_getD,List.getElem?_drop]
theorem beVal_3 (x y z : Int) : ZT [x,y,z] = (x * 256 + y) * 256 + z:=by
 show ((0 * 256 + x) * 256 + y) * 256 + z = _;omega
theorem beVal_4 (x y z t : Int) : ZT [x,y,z,t] = ((x * 256 + y) * 256 + z) * 256 + t:=by
 show (((0 * 256 + x) * 256 + y) * 256 + z) * 256 + t = _;omega
theorem uI_n {b : List Int} {a n : Int} (ha : 0 <= a) (hn : 1 <= n /\ n <= 8) (h : a + n <= b.length) : (ZL b a n).1 = ZT ((b.drop a.toNat).take n.toNat):=by
 unfold ZL;rw [if_pos ⟨hn.1,hn.2,ha,by omega⟩]
theorem tk1 {r : List Int} {k : Nat} (h : k + 1 <= r.length) : (r.drop k).take 1 = [gB r k]:=by rw [qy (show k < r.length by omega)];rfl
theorem tk2 {r : List Int} {k : Nat} (h : k + 2 <= r.length) : (r.drop k).take 2 = [gB r k,gB r (k + 1)]:=by rw [qy (show k < r.length by omega),qy (show k + 1 < r.length by omega)];rfl
theorem tk3 {r : List Int} {k : Nat} (h : k + 3 <= r.length) : (r.drop k).take 3 = [gB r k,gB r (k + 1),gB r (k + 2)]:=by rw [qy (show k < r.length by omega),qy (show k + 1 < r.length by omega),qy (show k + 2 < r.length by omega)];rfl
theorem tk4 {r : List Int} {k : Nat} (h : k + 4 <= r.length) : (r.drop k).take 4 = [gB r k,gB r (k + 1),gB r (k + 2),gB r (k + 3)]:=by rw [qy (show k < r.length by omega),qy (show k + 1 < r.length by omega),qy (show k + 2 < r.length by omega),qy (show k + 3 < r.length by omega)];rfl
theorem zBr (x : Int) : IntKind.u16.wrap x = x % 65536:=by
 unfold IntKind.wrap;simp [IntKind.signed,IntKind.bits]
theorem shr64_8 (x : Int) : Zn .u64 x 8 = x / 256:=by
 show x.fdiv (2 ^ 8) = _;rw [Int.fdiv_eq_ediv_of_nonneg _ (by decide)];rfl
theorem zIA (x : Int) : Zn .u64 x 16 = x / 65536:=by
 show x.fdiv (2 ^ 16) = _;rw [Int.fdiv_eq_ediv_of_nonneg _ (by decide)];rfl
theorem zEo (x y : Int) : ZT [x,y] = x * 256 + y:=by
 show (0 * 256 + x) * 256 + y = _;omega
theorem zBJ {z : Nat -> CV} {b : List Int} {N a m : Nat} (hN : N = a + m) : IsRow (λk j=>Zm (Nat.blt (0 + k) 0) (z j) (zn eB b (N + (0 + k - 0)) j)) ((b.drop a).drop m):=⟨λk hk=>by
 show Zm (Nat.blt (0 + k) 0) (z 0) (CV.int .u8 (b.getD (N + (0 + k - 0)) default)) = _;rw [zG4 (Nat.zero_le (0 + k)),Yg,List.drop_drop,List.getD_eq_getElem?_getD,List.getD_eq_getElem?_getD,List.getElem?_drop,hN,Nat.sub_zero,Nat.zero_add]⟩
theorem rcdec_0 (b : List Int) (f t : Adr) (l : List Ctx) (now : Int) (hb : BL b) (hbl : b.length <= 140737488355328) (hl : bytesL l) (hne : ¬ b.length = 0) (h65 : ¬ gB b 0 = 65) (hD : (Zr b f t l now).2 = 0) (hu : (Zr b f t l now).1.1.1.nxt = 17) (hr0 : ¬ (b.drop (Zr b f t l now).1.2.toNat).length = 0) (hk : gB (b.drop (Zr b f t l now).1.2.toNat) 0 = 240) :
 zY Tryz.prog 36 [(qf eB Zb).enc b,(cE ZF).enc f,(cE ZF).enc t,(qf zb zq).enc l,(cI .i64).enc now] (zB7 (zAU b f t l now)):=by
 obtain ⟨W,eW⟩ : ∃ W,zAU b f t l now = W:=⟨_,rfl⟩;rw [eW];obtain ⟨hH,hlo,hhi⟩:=zDc (f:=f) (t:=t) (now:=now) hb hbl hl;have hpay:=zAi b f t l now;obtain ⟨D,eD⟩ : ∃ D,Zr b f t l now = D:=⟨_,rfl⟩;rw [eD] at hH hlo hhi hpay hD hu hr0 hk;have e0 : b.length = 0 -> W = (pk0,4):=λh=>by rw [<- eW];exact if_pos h
 have e1 : ¬ b.length = 0 -> gB b 0 = 65 -> W = Qa (b.drop 1):=λh g=>by rw [<- eW];exact zD2 h g
 have e2 : ¬ b.length = 0 -> ¬ gB b 0 = 65 -> ¬ D.2 = 0 -> W = (pk0,D.2):=λh g i=>by rw [<- eW];exact zD3 h g eD i
 have e3 : ¬ b.length = 0 -> ¬ gB b 0 = 65 -> D.2 = 0 -> W = zA3 D.1.1.1 (b.drop D.1.2.toNat):=λh g i=>by rw [<- eW];exact zD4 h g eD i
 have hx0:=zDa b D.1.2.toNat 0;rw [Nat.add_zero] at hx0;obtain ⟨R,eR⟩ : ∃ R,b.drop D.1.2.toNat = R:=⟨_,rfl⟩;have hR : BL R:=by rw [<- eR];exact hb.drop _
 have hRl : R.length = b.length - D.1.2.toNat:=by rw [<- eR];exact List.length_drop ..
 have rowR:=Yu b D.1.2.toNat (by omega);rw [eR] at rowR e3 hx0 hr0 hk;obtain ⟨Z,eZ⟩ : ∃ Z,Qa (b.drop 1) = Z:=⟨_,rfl⟩;rw [eZ] at e1;have row1 : 1 <= b.length -> (Zw eB (b.length - 1) λi=>zn eB b (1 + i)) = b.drop 1:=λh=>Yu b 1 h;have hgr : ∀ i,0 <= gB R i /\ gB R i < 256:=λi=>gB_r hR i;clear eW;have f3:=e3 hne h65 hD;have hsh : Unit -> R.length < 7 -> W = (pk0,4):=λ_ h=>f3.trans (zCC hu (zAT (k:=0) (by omega) hk (by decide) (by show _ < 7;exact h)) (show ¬ (4 : Int) = 0 by decide));have hlo' : Unit -> ¬ R.length < 7 -> W = zBc ({ D.1.1.1 with sp:=(rdU 0 R).1.1,dp:=(rdU 0 R).1.2 },R.drop 7) (rdU 0 R).2.1:=λ_ h=>f3.trans (zFq hu (zBD (k:=0) hk (by decide) (by show ¬ _ < 7;exact h)) rfl);clear e0 e1 e2 e3 f3 eZ;have hx : IntKind.i64.wrap (IntKind.i64.wrap (b.getD D.1.2.toNat default) - 240) = 0:=by
  rw [hx0,hk];rfl
 have hx1 : ¬ IntKind.i64.wrap (IntKind.i64.wrap (b.getD D.1.2.toNat default) - 240) < 0:=by rw [hx];decide
 have hx2 : ¬ 3 < IntKind.i64.wrap (IntKind.i64.wrap (b.getD D.1.2.toNat default) - 240):=by rw [hx];decide
 have hne' : ¬ (b.length : Int) = 0:=by omega
 have hr0' : ¬ D.1.2 = (b.length : Int):=by omega
 have w1 : IntKind.i64.wrap (D.1.2 + 1) = D.1.2 + 1:=IntWalk.i64_in _ (by omega);have w2 : IntKind.i64.wrap (IntKind.i64.wrap (D.1.2 + 1) + 4) = D.1.2 + 5:=by rw [w1];rw [IntWalk.i64_in _ (by omega)];omega
 have w3 : IntKind.i64.wrap (D.1.2 + 7) = D.1.2 + 7:=IntWalk.i64_in _ (by omega);have w4 : IntKind.i64.wrap ((b.length : Int) - D.1.2) = b.length - D.1.2:=IntWalk.i64_in _ (by omega);obtain ⟨V1,eV1⟩ : ∃ V,ZL b (D.1.2 + 1) 4 = V:=⟨_,rfl⟩;obtain ⟨V2,eV2⟩ : ∃ V,ZL b (D.1.2 + 5) 2 = V:=⟨_,rfl⟩;have y1 : Unit -> ¬ R.length < 7 -> V1.1 = ZT ((R.drop 1).take 4):=λ_ h=>by
  rw [<- eV1,uI_n (by omega) (by decide) (by omega),<- eR,List.drop_drop,show (D.1.2 + 1).toNat = D.1.2.toNat + 1 by omega];rfl
 have y2 : Unit -> ¬ R.length < 7 -> V2.1 = ZT ((R.drop 5).take 2):=λ_ h=>by
  rw [<- eV2,uI_n (by omega) (by decide) (by omega),<- eR,List.drop_drop,show (D.1.2 + 5).toNat = D.1.2.toNat + 5 by omega];rfl
 have z1 : Unit -> ¬ R.length < 7 -> V1.1 = ((gB R 1 * 256 + gB R 2) * 256 + gB R 3) * 256 + gB R 4:=λ_ h=>by rw [y1 () h,tk4 (by omega),beVal_4]
 have z2 : Unit -> ¬ R.length < 7 -> V2.1 = gB R 5 * 256 + gB R 6:=λ_ h=>by
  rw [y2 () h,tk2 (by omega)];exact zEo _ _
 have fs : Unit -> ¬ R.length < 7 -> IntKind.u16.wrap (Zn .u64 V1.1 16) = gB R 1 * 256 + gB R 2:=λ_ h=>by
  have:=z1 () h;have r1:=hgr 1;have r2:=hgr 2;have r3:=hgr 3;have r4:=hgr 4;rw [zIA];rw [zBr];omega
 have fd : Unit -> ¬ R.length < 7 -> IntKind.u16.wrap (V1.1) = gB R 3 * 256 + gB R 4:=λ_ h=>by
  have:=z1 () h;have r1:=hgr 1;have r2:=hgr 2;have r3:=hgr 3;have r4:=hgr 4;rw [zBr];omega
 have fm : Unit -> ¬ R.length < 7 -> IntKind.u16.wrap V2.1 = gB R 5 * 256 + gB R 6:=λ_ h=>by
  have:=z2 () h;have r1:=hgr 5;have r2:=hgr 6;rw [zBr];omega
 have hPW : Unit -> ¬ R.length < 7 -> W = zBc ({ D.1.1.1 with sp:=IntKind.u16.wrap (Zn .u64 V1.1 16),dp:=IntKind.u16.wrap (V1.1) },R.drop 7) (IntKind.u16.wrap V2.1):=λ_ h=>(hlo' () h).trans (by rw [fs () h,fd () h,fm () h];rfl);have hQ : Unit -> ¬ R.length < 7 -> Zw eB (0 + (b.length - (IntKind.i64.wrap (D.1.2 + 7)).toNat)) (λk j=>Zm (Nat.blt (0 + k) 0) (nth [CV.int .u8 0] j) (zn eB b ((IntKind.i64.wrap (D.1.2 + 7)).toNat + (0 + k - 0)) j)) = R.drop 7:=λ_ h=>by
  rw [<- eR];exact YX (by rw [List.length_drop,List.length_drop,w3];omega) (zBJ (by rw [w3];omega))
 clear hlo';obtain ⟨g1,g2,g3⟩:=zg3;refine zG (wd:=1) (by decide) zM (zT zFr) zN Tryz.func36 rfl _ (by show 5 <= _;decide) _ ?_;repeat' (first | (apply And.intro<;>intro hc<;>(first | exact Bool.noConfusion hc | (exfalso;first | exact absurd hc hne' | exact h65 hc | exact absurd hD hc | exact absurd hu hc | exact absurd hc hr0' | exact absurd hc hx1 | exact absurd hc hx2 | exact absurd hc (by decide)) | (simp only [Zi] at hc<;>first | exact absurd rfl hc | (exfalso;first | exact absurd hc hne' | exact h65 hc | exact absurd hD hc | exact absurd hu hc | exact absurd hc hr0' | exact absurd hc hx1 | exact absurd hc hx2 | exact absurd hc (by decide)) | skip) | skip)) | (refine And.intro Za ?_) | (apply And.intro) | (intro s hs;(first | (clear g1;have q : D = s:=(hs.trans ((zA0 (zx b) (zt f) (zt t) (zU l)).trans eD)).symm;clear hs;subst q) | (clear g2;have q : V1 = s:=((hs.trans (zCD (zx b) w1 rfl)).trans eV1).symm;clear hs;subst q) | (clear g3;have q : V2 = s:=((hs.trans (zCD (zx b) w2 rfl)).trans eV2).symm;clear hs;subst q) | skip)) | (rw [hx]))
 . exact λ_=>rfl
 . exact λ_=>rfl
 . exact Eq.mp (congrArg BL (zx b).symm) hb
 . show (Zw eB b.length _).length <= _;rw [zS];exact hbl
 . exact Eq.mp (congrArg bytesL (zU l).symm) hl
 . have hc2 : IntKind.i64.wrap ((b.length : Int) - D.1.2) < 7:=hc;rw [w4] at hc2;rw [hsh () (by omega)];exact zq3
 . exact Eq.mp (congrArg BL (zx b).symm) hb
 . show (Zw eB b.length _).length <= _;rw [zS];exact hbl
 . exact Eq.mp (congrArg BL (zx b).symm) hb
 . show (Zw eB b.length _).length <= _;rw [zS];exact hbl
 . show 0 <= IntKind.i64.wrap (D.1.2 + 7);rw [w3];omega
 . have hlong : ¬ R.length < 7:=by
    have hc2 : ¬ IntKind.i64.wrap ((b.length : Int) - D.1.2) < 7:=by assumption
    rw [w4] at hc2;omega
   show IntKind.i64.wrap (D.1.2 + 7) <= (b.length : Int);rw [w3];omega
 . exact rfl
 . show (Zw eB (0 + (b.length - _)) _).length <= _;rw [zS];omega
 . have hlong : ¬ R.length < 7:=by
    have hc2 : ¬ IntKind.i64.wrap ((b.length : Int) - D.1.2) < 7:=by assumption
    rw [w4] at hc2;omega
   have q:=hs.trans (congrArg ZB (Zq (h:={ D.1.1.1 with sp:=IntKind.u16.wrap (Zn .u64 V1.1 16),dp:=IntKind.u16.wrap (V1.1) }) (l:=R.drop 7) (λj hj=>(by (iterate 38 (rcases j with _ | j;exact rfl));exact absurd hj (by omega))) (hQ () hlong)));rw [hPW () hlong,zFo (by rw [<- q];assumption)];exact zq3
 . exact rfl
 . have hlong : ¬ R.length < 7:=by
    have hc2 : ¬ IntKind.i64.wrap ((b.length : Int) - D.1.2) < 7:=by assumption
    rw [w4] at hc2;omega
   exact Eq.mp (congrArg PkW (Zq (h:={ D.1.1.1 with sp:=IntKind.u16.wrap (Zn .u64 V1.1 16),dp:=IntKind.u16.wrap (V1.1) }) (l:=R.drop 7) (λj hj=>(by (iterate 38 (rcases j with _ | j;exact rfl));exact absurd hj (by omega))) (hQ () hlong)).symm) (zEr hH (hR.drop _) (zCB _) (zCB _))
 . show (Zw eB (0 + (b.length - _)) _).length <= _;rw [zS];omega
 . rename_i z hz hc1 hc2;have hlong : ¬ R.length < 7:=by
    have hc2 : ¬ IntKind.i64.wrap ((b.length : Int) - D.1.2) < 7:=by assumption
    rw [w4] at hc2;omega
   have q:=hz.trans (congrArg ZB (Zq (h:={ D.1.1.1 with sp:=IntKind.u16.wrap (Zn .u64 V1.1 16),dp:=IntKind.u16.wrap (V1.1) }) (l:=R.drop 7) (λj hj=>(by (iterate 38 (rcases j with _ | j;exact rfl));exact absurd hj (by omega))) (hQ () hlong)));have q2:=hs.trans (congrArg qZ (Zq (h:={ D.1.1.1 with sp:=IntKind.u16.wrap (Zn .u64 V1.1 16),dp:=IntKind.u16.wrap (V1.1) }) (l:=R.drop 7) (λj hj=>(by (iterate 38 (rcases j with _ | j;exact rfl));exact absurd hj (by omega))) (hQ () hlong)));rw [hPW () hlong,fin_6 (by rw [<- q];exact hc1) ‹_› (by rw [<- q2];exact hc)];exact zq3
 . rename_i z hz hc1 hc2;have hlong : ¬ R.length < 7:=by
    have hc2 : ¬ IntKind.i64.wrap ((b.length : Int) - D.1.2) < 7:=by assumption
    rw [w4] at hc2;omega
   have q:=hz.trans (congrArg ZB (Zq (h:={ D.1.1.1 with sp:=IntKind.u16.wrap (Zn .u64 V1.1 16),dp:=IntKind.u16.wrap (V1.1) }) (l:=R.drop 7) (λj hj=>(by (iterate 38 (rcases j with _ | j;exact rfl));exact absurd hj (by omega))) (hQ () hlong)));have q2:=hs.trans (congrArg qZ (Zq (h:={ D.1.1.1 with sp:=IntKind.u16.wrap (Zn .u64 V1.1 16),dp:=IntKind.u16.wrap (V1.1) }) (l:=R.drop 7) (λj hj=>(by (iterate 38 (rcases j with _ | j;exact rfl));exact absurd hj (by omega))) (hQ () hlong)));rw [hPW () hlong,zFp (by rw [<- q];exact hc1) (λ_=>by rw [<- q2];exact hc),<- eR];refine Done.mk (zE ⟨zk rfl (λj hj=>?_) (zX (l:=(b.drop D.1.2.toNat).drop 7) rfl rfl rfl ?_ ?_ ?_),zA rfl,trivial⟩)
   . revert j;exact zt9
   . show 0 + (b.length - (IntKind.i64.wrap (D.1.2 + 7)).toNat) = _;rw [List.length_drop,List.length_drop,w3];omega
   . exact Nat.le_refl _
   . exact zBJ (by show (IntKind.i64.wrap (D.1.2 + 7)).toNat = _;rw [w3];omega)
theorem rcdec_1 (b : List Int) (f t : Adr) (l : List Ctx) (now : Int) (hb : BL b) (hbl : b.length <= 140737488355328) (hl : bytesL l) (hne : ¬ b.length = 0) (h65 : ¬ gB b 0 = 65) (hD : (Zr b f t l now).2 = 0) (hu : (Zr b f t l now).1.1.1.nxt = 17) (hr0 : ¬ (b.drop (Zr b f t l now).1.2.toNat).length = 0) (hk : gB (b.drop (Zr b f t l now).1.2.toNat) 0 = 241) :
 zY Tryz.prog 36 [(qf eB Zb).enc b,(cE ZF).enc f,(cE ZF).enc t,(qf zb zq).enc l,(cI .i64).enc now] (zB7 (zAU b f t l now)):=by
 obtain ⟨W,eW⟩ : ∃ W,zAU b f t l now = W:=⟨_,rfl⟩;rw [eW];obtain ⟨hH,hlo,hhi⟩:=zDc (f:=f) (t:=t) (now:=now) hb hbl hl;have hpay:=zAi b f t l now;obtain ⟨D,eD⟩ : ∃ D,Zr b f t l now = D:=⟨_,rfl⟩;rw [eD] at hH hlo hhi hpay hD hu hr0 hk;have e0 : b.length = 0 -> W = (pk0,4):=λh=>by rw [<- eW];exact if_pos h
 have e1 : ¬ b.length = 0 -> gB b 0 = 65 -> W = Qa (b.drop 1):=λh g=>by rw [<- eW];exact zD2 h g
 have e2 : ¬ b.length = 0 -> ¬ gB b 0 = 65 -> ¬ D.2 = 0 -> W = (pk0,D.2):=λh g i=>by rw [<- eW];exact zD3 h g eD i
 have e3 : ¬ b.length = 0 -> ¬ gB b 0 = 65 -> D.2 = 0 -> W = zA3 D.1.1.1 (b.drop D.1.2.toNat):=λh g i=>by rw [<- eW];exact zD4 h g eD i
 have hx0:=zDa b D.1.2.toNat 0;rw [Nat.add_zero] at hx0;obtain ⟨R,eR⟩ : ∃ R,b.drop D.1.2.toNat = R:=⟨_,rfl⟩;have hR : BL R:=by rw [<- eR];exact hb.drop _
 have hRl : R.length = b.length - D.1.2.toNat:=by rw [<- eR];exact List.length_drop ..
 have rowR:=Yu b D.1.2.toNat (by omega);rw [eR] at rowR e3 hx0 hr0 hk;obtain ⟨Z,eZ⟩ : ∃ Z,Qa (b.drop 1) = Z:=⟨_,rfl⟩;rw [eZ] at e1;have row1 : 1 <= b.length -> (Zw eB (b.length - 1) λi=>zn eB b (1 + i)) = b.drop 1:=λh=>Yu b 1 h;have hgr : ∀ i,0 <= gB R i /\ gB R i < 256:=λi=>gB_r hR i;clear eW;have f3:=e3 hne h65 hD;have hsh : Unit -> R.length < 6 -> W = (pk0,4):=λ_ h=>f3.trans (zCC hu (zAT (k:=1) (by omega) hk (by decide) (by show _ < 6;exact h)) (show ¬ (4 : Int) = 0 by decide));have hlo' : Unit -> ¬ R.length < 6 -> W = zBc ({ D.1.1.1 with sp:=(rdU 1 R).1.1,dp:=(rdU 1 R).1.2 },R.drop 6) (rdU 1 R).2.1:=λ_ h=>f3.trans (zFq hu (zBD (k:=1) hk (by decide) (by show ¬ _ < 6;exact h)) rfl);clear e0 e1 e2 e3 f3 eZ;have hx : IntKind.i64.wrap (IntKind.i64.wrap (b.getD D.1.2.toNat default) - 240) = 1:=by
  rw [hx0,hk];rfl
 have hx1 : ¬ IntKind.i64.wrap (IntKind.i64.wrap (b.getD D.1.2.toNat default) - 240) < 0:=by rw [hx];decide
 have hx2 : ¬ 3 < IntKind.i64.wrap (IntKind.i64.wrap (b.getD D.1.2.toNat default) - 240):=by rw [hx];decide
 have hne' : ¬ (b.length : Int) = 0:=by omega
 have hr0' : ¬ D.1.2 = (b.length : Int):=by omega
 have w1 : IntKind.i64.wrap (D.1.2 + 1) = D.1.2 + 1:=IntWalk.i64_in _ (by omega);have w2 : IntKind.i64.wrap (IntKind.i64.wrap (D.1.2 + 1) + 3) = D.1.2 + 4:=by rw [w1];rw [IntWalk.i64_in _ (by omega)];omega
 have w3 : IntKind.i64.wrap (D.1.2 + 6) = D.1.2 + 6:=IntWalk.i64_in _ (by omega);have w4 : IntKind.i64.wrap ((b.length : Int) - D.1.2) = b.length - D.1.2:=IntWalk.i64_in _ (by omega);obtain ⟨V1,eV1⟩ : ∃ V,ZL b (D.1.2 + 1) 3 = V:=⟨_,rfl⟩;obtain ⟨V2,eV2⟩ : ∃ V,ZL b (D.1.2 + 4) 2 = V:=⟨_,rfl⟩;have y1 : Unit -> ¬ R.length < 6 -> V1.1 = ZT ((R.drop 1).take 3):=λ_ h=>by
  rw [<- eV1,uI_n (by omega) (by decide) (by omega),<- eR,List.drop_drop,show (D.1.2 + 1).toNat = D.1.2.toNat + 1 by omega];rfl
 have y2 : Unit -> ¬ R.length < 6 -> V2.1 = ZT ((R.drop 4).take 2):=λ_ h=>by
  rw [<- eV2,uI_n (by omega) (by decide) (by omega),<- eR,List.drop_drop,show (D.1.2 + 4).toNat = D.1.2.toNat + 4 by omega];rfl
 have z1 : Unit -> ¬ R.length < 6 -> V1.1 = (gB R 1 * 256 + gB R 2) * 256 + gB R 3:=λ_ h=>by rw [y1 () h,tk3 (by omega),beVal_3]
 have z2 : Unit -> ¬ R.length < 6 -> V2.1 = gB R 4 * 256 + gB R 5:=λ_ h=>by
  rw [y2 () h,tk2 (by omega)];exact zEo _ _
 have fs : Unit -> ¬ R.length < 6 -> IntKind.u16.wrap (Zn .u64 V1.1 8) = gB R 1 * 256 + gB R 2:=λ_ h=>by
  have:=z1 () h;have r1:=hgr 1;have r2:=hgr 2;have r3:=hgr 3;have r4:=hgr 4;rw [shr64_8];rw [zBr];omega
 have fd : Unit -> ¬ R.length < 6 -> IntKind.u16.wrap (IntKind.u64.wrap (61440 + V1.1.tmod 256)) = 240 * 256 + gB R 3:=λ_ h=>by
  have:=z1 () h;have r1:=hgr 1;have r2:=hgr 2;have r3:=hgr 3;have r4:=hgr 4;rw [Int.tmod_eq_emod_of_nonneg (by omega),IntWalk.u64_in _ (by omega)];rw [zBr];omega
 have fm : Unit -> ¬ R.length < 6 -> IntKind.u16.wrap V2.1 = gB R 4 * 256 + gB R 5:=λ_ h=>by
  have:=z2 () h;have r1:=hgr 4;have r2:=hgr 5;rw [zBr];omega
 have hPW : Unit -> ¬ R.length < 6 -> W = zBc ({ D.1.1.1 with sp:=IntKind.u16.wrap (Zn .u64 V1.1 8),dp:=IntKind.u16.wrap (IntKind.u64.wrap (61440 + V1.1.tmod 256)) },R.drop 6) (IntKind.u16.wrap V2.1):=λ_ h=>(hlo' () h).trans (by rw [fs () h,fd () h,fm () h];rfl);have hQ : Unit -> ¬ R.length < 6 -> Zw eB (0 + (b.length - (IntKind.i64.wrap (D.1.2 + 6)).toNat)) (λk j=>Zm (Nat.blt (0 + k) 0) (nth [CV.int .u8 0] j) (zn eB b ((IntKind.i64.wrap (D.1.2 + 6)).toNat + (0 + k - 0)) j)) = R.drop 6:=λ_ h=>by
  rw [<- eR];exact YX (by rw [List.length_drop,List.length_drop,w3];omega) (zBJ (by rw [w3];omega))
 clear hlo';obtain ⟨g1,g2,g3⟩:=zg3;refine zG (wd:=1) (by decide) zM (zT zFr) zN Tryz.func36 rfl _ (by show 5 <= _;decide) _ ?_;repeat' (first | (apply And.intro<;>intro hc<;>(first | exact Bool.noConfusion hc | (exfalso;first | exact absurd hc hne' | exact h65 hc | exact absurd hD hc | exact absurd hu hc | exact absurd hc hr0' | exact absurd hc hx1 | exact absurd hc hx2 | exact absurd hc (by decide)) | (simp only [Zi] at hc<;>first | exact absurd rfl hc | (exfalso;first | exact absurd hc hne' | exact h65 hc | exact absurd hD hc | exact absurd hu hc | exact absurd hc hr0' | exact absurd hc hx1 | exact absurd hc hx2 | exact absurd hc (by decide)) | skip) | skip)) | (refine And.intro Za ?_) | (apply And.intro) | (intro s hs;(first | (clear g1;have q : D = s:=(hs.trans ((zA0 (zx b) (zt f) (zt t) (zU l)).trans eD)).symm;clear hs;subst q) | (clear g2;have q : V1 = s:=((hs.trans (zCD (zx b) w1 rfl)).trans eV1).symm;clear hs;subst q) | (clear g3;have q : V2 = s:=((hs.trans (zCD (zx b) w2 rfl)).trans eV2).symm;clear hs;subst q) | skip)) | (rw [hx]))
 . exact λ_=>rfl
 . exact λ_=>rfl
 . exact Eq.mp (congrArg BL (zx b).symm) hb
 . show (Zw eB b.length _).length <= _;rw [zS];exact hbl
 . exact Eq.mp (congrArg bytesL (zU l).symm) hl
 . have hc2 : IntKind.i64.wrap ((b.length : Int) - D.1.2) < 6:=hc;rw [w4] at hc2;rw [hsh () (by omega)];exact zq3
 . exact Eq.mp (congrArg BL (zx b).symm) hb
 . show (Zw eB b.length _).length <= _;rw [zS];exact hbl
 . exact Eq.mp (congrArg BL (zx b).symm) hb
 . show (Zw eB b.length _).length <= _;rw [zS];exact hbl
 . show 0 <= IntKind.i64.wrap (D.1.2 + 6);rw [w3];omega
 . have hlong : ¬ R.length < 6:=by
    have hc2 : ¬ IntKind.i64.wrap ((b.length : Int) - D.1.2) < 6:=by assumption
    rw [w4] at hc2;omega
   show IntKind.i64.wrap (D.1.2 + 6) <= (b.length : Int);rw [w3];omega
 . exact rfl
 . show (Zw eB (0 + (b.length - _)) _).length <= _;rw [zS];omega
 . have hlong : ¬ R.length < 6:=by
    have hc2 : ¬ IntKind.i64.wrap ((b.length : Int) - D.1.2) < 6:=by assumption
    rw [w4] at hc2;omega
   have q:=hs.trans (congrArg ZB (Zq (h:={ D.1.1.1 with sp:=IntKind.u16.wrap (Zn .u64 V1.1 8),dp:=IntKind.u16.wrap (IntKind.u64.wrap (61440 + V1.1.tmod 256)) }) (l:=R.drop 6) (λj hj=>(by (iterate 38 (rcases j with _ | j;exact rfl));exact absurd hj (by omega))) (hQ () hlong)));rw [hPW () hlong,zFo (by rw [<- q];assumption)];exact zq3
 . exact rfl
 . have hlong : ¬ R.length < 6:=by
    have hc2 : ¬ IntKind.i64.wrap ((b.length : Int) - D.1.2) < 6:=by assumption
    rw [w4] at hc2;omega
   exact Eq.mp (congrArg PkW (Zq (h:={ D.1.1.1 with sp:=IntKind.u16.wrap (Zn .u64 V1.1 8),dp:=IntKind.u16.wrap (IntKind.u64.wrap (61440 + V1.1.tmod 256)) }) (l:=R.drop 6) (λj hj=>(by (iterate 38 (rcases j with _ | j;exact rfl));exact absurd hj (by omega))) (hQ () hlong)).symm) (zEr hH (hR.drop _) (zCB _) (zCB _))
 . show (Zw eB (0 + (b.length - _)) _).length <= _;rw [zS];omega
 . rename_i z hz hc1 hc2;have hlong : ¬ R.length < 6:=by
    have hc2 : ¬ IntKind.i64.wrap ((b.length : Int) - D.1.2) < 6:=by assumption
    rw [w4] at hc2;omega
   have q:=hz.trans (congrArg ZB (Zq (h:={ D.1.1.1 with sp:=IntKind.u16.wrap (Zn .u64 V1.1 8),dp:=IntKind.u16.wrap (IntKind.u64.wrap (61440 + V1.1.tmod 256)) }) (l:=R.drop 6) (λj hj=>(by (iterate 38 (rcases j with _ | j;exact rfl));exact absurd hj (by omega))) (hQ () hlong)));have q2:=hs.trans (congrArg qZ (Zq (h:={ D.1.1.1 with sp:=IntKind.u16.wrap (Zn .u64 V1.1 8),dp:=IntKind.u16.wrap (IntKind.u64.wrap (61440 + V1.1.tmod 256)) }) (l:=R.drop 6) (λj hj=>(by (iterate 38 (rcases j with _ | j;exact rfl));exact absurd hj (by omega))) (hQ () hlong)));rw [hPW () hlong,fin_6 (by rw [<- q];exact hc1) ‹_› (by rw [<- q2];exact hc)];exact zq3
 . rename_i z hz hc1 hc2;have hlong : ¬ R.length < 6:=by
    have hc2 : ¬ IntKind.i64.wrap ((b.length : Int) - D.1.2) < 6:=by assumption
    rw [w4] at hc2;omega
   have q:=hz.trans (congrArg ZB (Zq (h:={ D.1.1.1 with sp:=IntKind.u16.wrap (Zn .u64 V1.1 8),dp:=IntKind.u16.wrap (IntKind.u64.wrap (61440 + V1.1.tmod 256)) }) (l:=R.drop 6) (λj hj=>(by (iterate 38 (rcases j with _ | j;exact rfl));exact absurd hj (by omega))) (hQ () hlong)));have q2:=hs.trans (congrArg qZ (Zq (h:={ D.1.1.1 with sp:=IntKind.u16.wrap (Zn .u64 V1.1 8),dp:=IntKind.u16.wrap (IntKind.u64.wrap (61440 + V1.1.tmod 256)) }) (l:=R.drop 6) (λj hj=>(by (iterate 38 (rcases j with _ | j;exact rfl));exact absurd hj (by omega))) (hQ () hlong)));rw [hPW () hlong,zFp (by rw [<- q];exact hc1) (λ_=>by rw [<- q2];exact hc),<- eR];refine Done.mk (zE ⟨zk rfl (λj hj=>?_) (zX (l:=(b.drop D.1.2.toNat).drop 6) rfl rfl rfl ?_ ?_ ?_),zA rfl,trivial⟩)
   . revert j;exact zt9
   . show 0 + (b.length - (IntKind.i64.wrap (D.1.2 + 6)).toNat) = _;rw [List.length_drop,List.length_drop,w3];omega
   . exact Nat.le_refl _
   . exact zBJ (by show (IntKind.i64.wrap (D.1.2 + 6)).toNat = _;rw [w3];omega)
theorem rcdec_2 (b : List Int) (f t : Adr) (l : List Ctx) (now : Int) (hb : BL b) (hbl : b.length <= 140737488355328) (hl : bytesL l) (hne : ¬ b.length = 0) (h65 : ¬ gB b 0 = 65) (hD : (Zr b f t l now).2 = 0) (hu : (Zr b f t l now).1.1.1.nxt = 17) (hr0 : ¬ (b.drop (Zr b f t l now).1.2.toNat).length = 0) (hk : gB (b.drop (Zr b f t l now).1.2.toNat) 0 = 242) :
 zY Tryz.prog 36 [(qf eB Zb).enc b,(cE ZF).enc f,(cE ZF).enc t,(qf zb zq).enc l,(cI .i64).enc now] (zB7 (zAU b f t l now)):=by
 obtain ⟨W,eW⟩ : ∃ W,zAU b f t l now = W:=⟨_,rfl⟩;rw [eW];obtain ⟨hH,hlo,hhi⟩:=zDc (f:=f) (t:=t) (now:=now) hb hbl hl;have hpay:=zAi b f t l now;obtain ⟨D,eD⟩ : ∃ D,Zr b f t l now = D:=⟨_,rfl⟩;rw [eD] at hH hlo hhi hpay hD hu hr0 hk;have e0 : b.length = 0 -> W = (pk0,4):=λh=>by rw [<- eW];exact if_pos h
 have e1 : ¬ b.length = 0 -> gB b 0 = 65 -> W = Qa (b.drop 1):=λh g=>by rw [<- eW];exact zD2 h g
 have e2 : ¬ b.length = 0 -> ¬ gB b 0 = 65 -> ¬ D.2 = 0 -> W = (pk0,D.2):=λh g i=>by rw [<- eW];exact zD3 h g eD i
 have e3 : ¬ b.length = 0 -> ¬ gB b 0 = 65 -> D.2 = 0 -> W = zA3 D.1.1.1 (b.drop D.1.2.toNat):=λh g i=>by rw [<- eW];exact zD4 h g eD i
 have hx0:=zDa b D.1.2.toNat 0;rw [Nat.add_zero] at hx0;obtain ⟨R,eR⟩ : ∃ R,b.drop D.1.2.toNat = R:=⟨_,rfl⟩;have hR : BL R:=by rw [<- eR];exact hb.drop _
 have hRl : R.length = b.length - D.1.2.toNat:=by rw [<- eR];exact List.length_drop ..
 have rowR:=Yu b D.1.2.toNat (by omega);rw [eR] at rowR e3 hx0 hr0 hk;obtain ⟨Z,eZ⟩ : ∃ Z,Qa (b.drop 1) = Z:=⟨_,rfl⟩;rw [eZ] at e1;have row1 : 1 <= b.length -> (Zw eB (b.length - 1) λi=>zn eB b (1 + i)) = b.drop 1:=λh=>Yu b 1 h;have hgr : ∀ i,0 <= gB R i /\ gB R i < 256:=λi=>gB_r hR i;clear eW;have f3:=e3 hne h65 hD;have hsh : Unit -> R.length < 6 -> W = (pk0,4):=λ_ h=>f3.trans (zCC hu (zAT (k:=2) (by omega) hk (by decide) (by show _ < 6;exact h)) (show ¬ (4 : Int) = 0 by decide));have hlo' : Unit -> ¬ R.length < 6 -> W = zBc ({ D.1.1.1 with sp:=(rdU 2 R).1.1,dp:=(rdU 2 R).1.2 },R.drop 6) (rdU 2 R).2.1:=λ_ h=>f3.trans (zFq hu (zBD (k:=2) hk (by decide) (by show ¬ _ < 6;exact h)) rfl);clear e0 e1 e2 e3 f3 eZ;have hx : IntKind.i64.wrap (IntKind.i64.wrap (b.getD D.1.2.toNat default) - 240) = 2:=by
  rw [hx0,hk];rfl
 have hx1 : ¬ IntKind.i64.wrap (IntKind.i64.wrap (b.getD D.1.2.toNat default) - 240) < 0:=by rw [hx];decide
 have hx2 : ¬ 3 < IntKind.i64.wrap (IntKind.i64.wrap (b.getD D.1.2.toNat default) - 240):=by rw [hx];decide
 have hne' : ¬ (b.length : Int) = 0:=by omega
 have hr0' : ¬ D.1.2 = (b.length : Int):=by omega
 have w1 : IntKind.i64.wrap (D.1.2 + 1) = D.1.2 + 1:=IntWalk.i64_in _ (by omega);have w2 : IntKind.i64.wrap (IntKind.i64.wrap (D.1.2 + 1) + 3) = D.1.2 + 4:=by rw [w1];rw [IntWalk.i64_in _ (by omega)];omega
 have w3 : IntKind.i64.wrap (D.1.2 + 6) = D.1.2 + 6:=IntWalk.i64_in _ (by omega);have w4 : IntKind.i64.wrap ((b.length : Int) - D.1.2) = b.length - D.1.2:=IntWalk.i64_in _ (by omega);obtain ⟨V1,eV1⟩ : ∃ V,ZL b (D.1.2 + 1) 3 = V:=⟨_,rfl⟩;obtain ⟨V2,eV2⟩ : ∃ V,ZL b (D.1.2 + 4) 2 = V:=⟨_,rfl⟩;have y1 : Unit -> ¬ R.length < 6 -> V1.1 = ZT ((R.drop 1).take 3):=λ_ h=>by
  rw [<- eV1,uI_n (by omega) (by decide) (by omega),<- eR,List.drop_drop,show (D.1.2 + 1).toNat = D.1.2.toNat + 1 by omega];rfl
 have y2 : Unit -> ¬ R.length < 6 -> V2.1 = ZT ((R.drop 4).take 2):=λ_ h=>by
  rw [<- eV2,uI_n (by omega) (by decide) (by omega),<- eR,List.drop_drop,show (D.1.2 + 4).toNat = D.1.2.toNat + 4 by omega];rfl
 have z1 : Unit -> ¬ R.length < 6 -> V1.1 = (gB R 1 * 256 + gB R 2) * 256 + gB R 3:=λ_ h=>by rw [y1 () h,tk3 (by omega),beVal_3]
 have z2 : Unit -> ¬ R.length < 6 -> V2.1 = gB R 4 * 256 + gB R 5:=λ_ h=>by
  rw [y2 () h,tk2 (by omega)];exact zEo _ _
 have fs : Unit -> ¬ R.length < 6 -> IntKind.u16.wrap (IntKind.u64.wrap (61440 + Zn .u64 V1.1 16)) = 240 * 256 + gB R 1:=λ_ h=>by
  have:=z1 () h;have r1:=hgr 1;have r2:=hgr 2;have r3:=hgr 3;have r4:=hgr 4;rw [zIA,IntWalk.u64_in _ (by omega)];rw [zBr];omega
 have fd : Unit -> ¬ R.length < 6 -> IntKind.u16.wrap (V1.1) = gB R 2 * 256 + gB R 3:=λ_ h=>by
  have:=z1 () h;have r1:=hgr 1;have r2:=hgr 2;have r3:=hgr 3;have r4:=hgr 4;rw [zBr];omega
 have fm : Unit -> ¬ R.length < 6 -> IntKind.u16.wrap V2.1 = gB R 4 * 256 + gB R 5:=λ_ h=>by
  have:=z2 () h;have r1:=hgr 4;have r2:=hgr 5;rw [zBr];omega
 have hPW : Unit -> ¬ R.length < 6 -> W = zBc ({ D.1.1.1 with sp:=IntKind.u16.wrap (IntKind.u64.wrap (61440 + Zn .u64 V1.1 16)),dp:=IntKind.u16.wrap (V1.1) },R.drop 6) (IntKind.u16.wrap V2.1):=λ_ h=>(hlo' () h).trans (by rw [fs () h,fd () h,fm () h];rfl);have hQ : Unit -> ¬ R.length < 6 -> Zw eB (0 + (b.length - (IntKind.i64.wrap (D.1.2 + 6)).toNat)) (λk j=>Zm (Nat.blt (0 + k) 0) (nth [CV.int .u8 0] j) (zn eB b ((IntKind.i64.wrap (D.1.2 + 6)).toNat + (0 + k - 0)) j)) = R.drop 6:=λ_ h=>by
  rw [<- eR];exact YX (by rw [List.length_drop,List.length_drop,w3];omega) (zBJ (by rw [w3];omega))
 clear hlo';obtain ⟨g1,g2,g3⟩:=zg3;refine zG (wd:=1) (by decide) zM (zT zFr) zN Tryz.func36 rfl _ (by show 5 <= _;decide) _ ?_;repeat' (first | (apply And.intro<;>intro hc<;>(first | exact Bool.noConfusion hc | (exfalso;first | exact absurd hc hne' | exact h65 hc | exact absurd hD hc | exact absurd hu hc | exact absurd hc hr0' | exact absurd hc hx1 | exact absurd hc hx2 | exact absurd hc (by decide)) | (simp only [Zi] at hc<;>first | exact absurd rfl hc | (exfalso;first | exact absurd hc hne' | exact h65 hc | exact absurd hD hc | exact absurd hu hc | exact absurd hc hr0' | exact absurd hc hx1 | exact absurd hc hx2 | exact absurd hc (by decide)) | skip) | skip)) | (refine And.intro Za ?_) | (apply And.intro) | (intro s hs;(first | (clear g1;have q : D = s:=(hs.trans ((zA0 (zx b) (zt f) (zt t) (zU l)).trans eD)).symm;clear hs;subst q) | (clear g2;have q : V1 = s:=((hs.trans (zCD (zx b) w1 rfl)).trans eV1).symm;clear hs;subst q) | (clear g3;have q : V2 = s:=((hs.trans (zCD (zx b) w2 rfl)).trans eV2).symm;clear hs;subst q) | skip)) | (rw [hx]))
 . exact λ_=>rfl
 . exact λ_=>rfl
 . exact Eq.mp (congrArg BL (zx b).symm) hb
 . show (Zw eB b.length _).length <= _;rw [zS];exact hbl
 . exact Eq.mp (congrArg bytesL (zU l).symm) hl
 . have hc2 : IntKind.i64.wrap ((b.length : Int) - D.1.2) < 6:=hc;rw [w4] at hc2;rw [hsh () (by omega)];exact zq3
 . exact Eq.mp (congrArg BL (zx b).symm) hb
 . show (Zw eB b.length _).length <= _;rw [zS];exact hbl
 . exact Eq.mp (congrArg BL (zx b).symm) hb
 . show (Zw eB b.length _).length <= _;rw [zS];exact hbl
 . show 0 <= IntKind.i64.wrap (D.1.2 + 6);rw [w3];omega
 . have hlong : ¬ R.length < 6:=by
    have hc2 : ¬ IntKind.i64.wrap ((b.length : Int) - D.1.2) < 6:=by assumption
    rw [w4] at hc2;omega
   show IntKind.i64.wrap (D.1.2 + 6) <= (b.length : Int);rw [w3];omega
 . exact rfl
 . show (Zw eB (0 + (b.length - _)) _).length <= _;rw [zS];omega
 . have hlong : ¬ R.length < 6:=by
    have hc2 : ¬ IntKind.i64.wrap ((b.length : Int) - D.1.2) < 6:=by assumption
    rw [w4] at hc2;omega
   have q:=hs.trans (congrArg ZB (Zq (h:={ D.1.1.1 with sp:=IntKind.u16.wrap (IntKind.u64.wrap (61440 + Zn .u64 V1.1 16)),dp:=IntKind.u16.wrap (V1.1) }) (l:=R.drop 6) (λj hj=>(by (iterate 38 (rcases j with _ | j;exact rfl));exact absurd hj (by omega))) (hQ () hlong)));rw [hPW () hlong,zFo (by rw [<- q];assumption)];exact zq3
 . exact rfl
 . have hlong : ¬ R.length < 6:=by
    have hc2 : ¬ IntKind.i64.wrap ((b.length : Int) - D.1.2) < 6:=by assumption
    rw [w4] at hc2;omega
   exact Eq.mp (congrArg PkW (Zq (h:={ D.1.1.1 with sp:=IntKind.u16.wrap (IntKind.u64.wrap (61440 + Zn .u64 V1.1 16)),dp:=IntKind.u16.wrap (V1.1) }) (l:=R.drop 6) (λj hj=>(by (iterate 38 (rcases j with _ | j;exact rfl));exact absurd hj (by omega))) (hQ () hlong)).symm) (zEr hH (hR.drop _) (zCB _) (zCB _))
 . show (Zw eB (0 + (b.length - _)) _).length <= _;rw [zS];omega
 . rename_i z hz hc1 hc2;have hlong : ¬ R.length < 6:=by
    have hc2 : ¬ IntKind.i64.wrap ((b.length : Int) - D.1.2) < 6:=by assumption
    rw [w4] at hc2;omega
   have q:=hz.trans (congrArg ZB (Zq (h:={ D.1.1.1 with sp:=IntKind.u16.wrap (IntKind.u64.wrap (61440 + Zn .u64 V1.1 16)),dp:=IntKind.u16.wrap (V1.1) }) (l:=R.drop 6) (λj hj=>(by (iterate 38 (rcases j with _ | j;exact rfl));exact absurd hj (by omega))) (hQ () hlong)));have q2:=hs.trans (congrArg qZ (Zq (h:={ D.1.1.1 with sp:=IntKind.u16.wrap (IntKind.u64.wrap (61440 + Zn .u64 V1.1 16)),dp:=IntKind.u16.wrap (V1.1) }) (l:=R.drop 6) (λj hj=>(by (iterate 38 (rcases j with _ | j;exact rfl));exact absurd hj (by omega))) (hQ () hlong)));rw [hPW () hlong,fin_6 (by rw [<- q];exact hc1) ‹_› (by rw [<- q2];exact hc)];exact zq3
 . rename_i z hz hc1 hc2;have hlong : ¬ R.length < 6:=by
    have hc2 : ¬ IntKind.i64.wrap ((b.length : Int) - D.1.2) < 6:=by assumption
    rw [w4] at hc2;omega
   have q:=hz.trans (congrArg ZB (Zq (h:={ D.1.1.1 with sp:=IntKind.u16.wrap (IntKind.u64.wrap (61440 + Zn .u64 V1.1 16)),dp:=IntKind.u16.wrap (V1.1) }) (l:=R.drop 6) (λj hj=>(by (iterate 38 (rcases j with _ | j;exact rfl));exact absurd hj (by omega))) (hQ () hlong)));have q2:=hs.trans (congrArg qZ (Zq (h:={ D.1.1.1 with sp:=IntKind.u16.wrap (IntKind.u64.wrap (61440 + Zn .u64 V1.1 16)),dp:=IntKind.u16.wrap (V1.1) }) (l:=R.drop 6) (λj hj=>(by (iterate 38 (rcases j with _ | j;exact rfl));exact absurd hj (by omega))) (hQ () hlong)));rw [hPW () hlong,zFp (by rw [<- q];exact hc1) (λ_=>by rw [<- q2];exact hc),<- eR];refine Done.mk (zE ⟨zk rfl (λj hj=>?_) (zX (l:=(b.drop D.1.2.toNat).drop 6) rfl rfl rfl ?_ ?_ ?_),zA rfl,trivial⟩)
   . revert j;exact zt9
   . show 0 + (b.length - (IntKind.i64.wrap (D.1.2 + 6)).toNat) = _;rw [List.length_drop,List.length_drop,w3];omega
   . exact Nat.le_refl _
   . exact zBJ (by show (IntKind.i64.wrap (D.1.2 + 6)).toNat = _;rw [w3];omega)
theorem rcdec_3 (b : List Int) (f t : Adr) (l : List Ctx) (now : Int) (hb : BL b) (hbl : b.length <= 140737488355328) (hl : bytesL l) (hne : ¬ b.length = 0) (h65 : ¬ gB b 0 = 65) (hD : (Zr b f t l now).2 = 0) (hu : (Zr b f t l now).1.1.1.nxt = 17) (hr0 : ¬ (b.drop (Zr b f t l now).1.2.toNat).length = 0) (hk : gB (b.drop (Zr b f t l now).1.2.toNat) 0 = 243) :
 zY Tryz.prog 36 [(qf eB Zb).enc b,(cE ZF).enc f,(cE ZF).enc t,(qf zb zq).enc l,(cI .i64).enc now] (zB7 (zAU b f t l now)):=by
 obtain ⟨W,eW⟩ : ∃ W,zAU b f t l now = W:=⟨_,rfl⟩;rw [eW];obtain ⟨hH,hlo,hhi⟩:=zDc (f:=f) (t:=t) (now:=now) hb hbl hl;have hpay:=zAi b f t l now;obtain ⟨D,eD⟩ : ∃ D,Zr b f t l now = D:=⟨_,rfl⟩;rw [eD] at hH hlo hhi hpay hD hu hr0 hk;have e0 : b.length = 0 -> W = (pk0,4):=λh=>by rw [<- eW];exact if_pos h
 have e1 : ¬ b.length = 0 -> gB b 0 = 65 -> W = Qa (b.drop 1):=λh g=>by rw [<- eW];exact zD2 h g
 have e2 : ¬ b.length = 0 -> ¬ gB b 0 = 65 -> ¬ D.2 = 0 -> W = (pk0,D.2):=λh g i=>by rw [<- eW];exact zD3 h g eD i
 have e3 : ¬ b.length = 0 -> ¬ gB b 0 = 65 -> D.2 = 0 -> W = zA3 D.1.1.1 (b.drop D.1.2.toNat):=λh g i=>by rw [<- eW];exact zD4 h g eD i
 have hx0:=zDa b D.1.2.toNat 0;rw [Nat.add_zero] at hx0;obtain ⟨R,eR⟩ : ∃ R,b.drop D.1.2.toNat = R:=⟨_,rfl⟩;have hR : BL R:=by rw [<- eR];exact hb.drop _
 have hRl : R.length = b.length - D.1.2.toNat:=by rw [<- eR];exact List.length_drop ..
 have rowR:=Yu b D.1.2.toNat (by omega);rw [eR] at rowR e3 hx0 hr0 hk;obtain ⟨Z,eZ⟩ : ∃ Z,Qa (b.drop 1) = Z:=⟨_,rfl⟩;rw [eZ] at e1;have row1 : 1 <= b.length -> (Zw eB (b.length - 1) λi=>zn eB b (1 + i)) = b.drop 1:=λh=>Yu b 1 h;have hgr : ∀ i,0 <= gB R i /\ gB R i < 256:=λi=>gB_r hR i;clear eW;have f3:=e3 hne h65 hD;have hsh : Unit -> R.length < 4 -> W = (pk0,4):=λ_ h=>f3.trans (zCC hu (zAT (k:=3) (by omega) hk (by decide) (by show _ < 4;exact h)) (show ¬ (4 : Int) = 0 by decide));have hlo' : Unit -> ¬ R.length < 4 -> W = zBc ({ D.1.1.1 with sp:=(rdU 3 R).1.1,dp:=(rdU 3 R).1.2 },R.drop 4) (rdU 3 R).2.1:=λ_ h=>f3.trans (zFq hu (zBD (k:=3) hk (by decide) (by show ¬ _ < 4;exact h)) rfl);clear e0 e1 e2 e3 f3 eZ;have hx : IntKind.i64.wrap (IntKind.i64.wrap (b.getD D.1.2.toNat default) - 240) = 3:=by
  rw [hx0,hk];rfl
 have hx1 : ¬ IntKind.i64.wrap (IntKind.i64.wrap (b.getD D.1.2.toNat default) - 240) < 0:=by rw [hx];decide
 have hx2 : ¬ 3 < IntKind.i64.wrap (IntKind.i64.wrap (b.getD D.1.2.toNat default) - 240):=by rw [hx];decide
 have hne' : ¬ (b.length : Int) = 0:=by omega
 have hr0' : ¬ D.1.2 = (b.length : Int):=by omega
 have w1 : IntKind.i64.wrap (D.1.2 + 1) = D.1.2 + 1:=IntWalk.i64_in _ (by omega);have w2 : IntKind.i64.wrap (IntKind.i64.wrap (D.1.2 + 1) + 1) = D.1.2 + 2:=by rw [w1];rw [IntWalk.i64_in _ (by omega)];omega
 have w3 : IntKind.i64.wrap (D.1.2 + 4) = D.1.2 + 4:=IntWalk.i64_in _ (by omega);have w4 : IntKind.i64.wrap ((b.length : Int) - D.1.2) = b.length - D.1.2:=IntWalk.i64_in _ (by omega);obtain ⟨V1,eV1⟩ : ∃ V,ZL b (D.1.2 + 1) 1 = V:=⟨_,rfl⟩;obtain ⟨V2,eV2⟩ : ∃ V,ZL b (D.1.2 + 2) 2 = V:=⟨_,rfl⟩;have y1 : Unit -> ¬ R.length < 4 -> V1.1 = ZT ((R.drop 1).take 1):=λ_ h=>by
  rw [<- eV1,uI_n (by omega) (by decide) (by omega),<- eR,List.drop_drop,show (D.1.2 + 1).toNat = D.1.2.toNat + 1 by omega];rfl
 have y2 : Unit -> ¬ R.length < 4 -> V2.1 = ZT ((R.drop 2).take 2):=λ_ h=>by
  rw [<- eV2,uI_n (by omega) (by decide) (by omega),<- eR,List.drop_drop,show (D.1.2 + 2).toNat = D.1.2.toNat + 2 by omega];rfl
 have z1 : Unit -> ¬ R.length < 4 -> V1.1 = gB R 1:=λ_ h=>by rw [y1 () h,tk1 (by omega),beVal_1]
 have z2 : Unit -> ¬ R.length < 4 -> V2.1 = gB R 2 * 256 + gB R 3:=λ_ h=>by
  rw [y2 () h,tk2 (by omega)];exact zEo _ _
 have fs : Unit -> ¬ R.length < 4 -> IntKind.u16.wrap (IntKind.u64.wrap (61616 + IntKind.u64.wrap (V1.1.tdiv 16))) = 240 * 256 + (176 + gB R 1 / 16):=λ_ h=>by
  have:=z1 () h;have r1:=hgr 1;have r2:=hgr 2;have r3:=hgr 3;have r4:=hgr 4;rw [Int.tdiv_eq_ediv_of_nonneg (by omega),IntWalk.u64_in (V1.1 / 16) (by omega),IntWalk.u64_in _ (by omega)];rw [zBr];omega
 have fd : Unit -> ¬ R.length < 4 -> IntKind.u16.wrap (IntKind.u64.wrap (61616 + V1.1.tmod 16)) = 240 * 256 + (176 + gB R 1 % 16):=λ_ h=>by
  have:=z1 () h;have r1:=hgr 1;have r2:=hgr 2;have r3:=hgr 3;have r4:=hgr 4;rw [Int.tmod_eq_emod_of_nonneg (by omega),IntWalk.u64_in _ (by omega)];rw [zBr];omega
 have fm : Unit -> ¬ R.length < 4 -> IntKind.u16.wrap V2.1 = gB R 2 * 256 + gB R 3:=λ_ h=>by
  have:=z2 () h;have r1:=hgr 2;have r2:=hgr 3;rw [zBr];omega
 have hPW : Unit -> ¬ R.length < 4 -> W = zBc ({ D.1.1.1 with sp:=IntKind.u16.wrap (IntKind.u64.wrap (61616 + IntKind.u64.wrap (V1.1.tdiv 16))),dp:=IntKind.u16.wrap (IntKind.u64.wrap (61616 + V1.1.tmod 16)) },R.drop 4) (IntKind.u16.wrap V2.1):=λ_ h=>(hlo' () h).trans (by rw [fs () h,fd () h,fm () h];rfl);have hQ : Unit -> ¬ R.length < 4 -> Zw eB (0 + (b.length - (IntKind.i64.wrap (D.1.2 + 4)).toNat)) (λk j=>Zm (Nat.blt (0 + k) 0) (nth [CV.int .u8 0] j) (zn eB b ((IntKind.i64.wrap (D.1.2 + 4)).toNat + (0 + k - 0)) j)) = R.drop 4:=λ_ h=>by
  rw [<- eR];exact YX (by rw [List.length_drop,List.length_drop,w3];omega) (zBJ (by rw [w3];omega))
 clear hlo';obtain ⟨g1,g2,g3⟩:=zg3;refine zG (wd:=1) (by decide) zM (zT zFr) zN Tryz.func36 rfl _ (by show 5 <= _;decide) _ ?_;repeat' (first | (apply And.intro<;>intro hc<;>(first | exact Bool.noConfusion hc | (exfalso;first | exact absurd hc hne' | exact h65 hc | exact absurd hD hc | exact absurd hu hc | exact absurd hc hr0' | exact absurd hc hx1 | exact absurd hc hx2 | exact absurd hc (by decide)) | (simp only [Zi] at hc<;>first | exact absurd rfl hc | (exfalso;first | exact absurd hc hne' | exact h65 hc | exact absurd hD hc | exact absurd hu hc | exact absurd hc hr0' | exact absurd hc hx1 | exact absurd hc hx2 | exact absurd hc (by decide)) | skip) | skip)) | (refine And.intro Za ?_) | (apply And.intro) | (intro s hs;(first | (clear g1;have q : D = s:=(hs.trans ((zA0 (zx b) (zt f) (zt t) (zU l)).trans eD)).symm;clear hs;subst q) | (clear g2;have q : V1 = s:=((hs.trans (zCD (zx b) w1 rfl)).trans eV1).symm;clear hs;subst q) | (clear g3;have q : V2 = s:=((hs.trans (zCD (zx b) w2 rfl)).trans eV2).symm;clear hs;subst q) | skip)) | (rw [hx]))
 . exact λ_=>rfl
 . exact λ_=>rfl
 . exact Eq.mp (congrArg BL (zx b).symm) hb
 . show (Zw eB b.length _).length <= _;rw [zS];exact hbl
 . exact Eq.mp (congrArg bytesL (zU l).symm) hl
 . have hc2 : IntKind.i64.wrap ((b.length : Int) - D.1.2) < 4:=hc;rw [w4] at hc2;rw [hsh () (by omega)];exact zq3
 . exact Eq.mp (congrArg BL (zx b).symm) hb
 . show (Zw eB b.length _).length <= _;rw [zS];exact hbl
 . exact Eq.mp (congrArg BL (zx b).symm) hb
 . show (Zw eB b.length _).length <= _;rw [zS];exact hbl
 . show 0 <= IntKind.i64.wrap (D.1.2 + 4);rw [w3];omega
 . have hlong : ¬ R.length < 4:=by
    have hc2 : ¬ IntKind.i64.wrap ((b.length : Int) - D.1.2) < 4:=by assumption
    rw [w4] at hc2;omega
   show IntKind.i64.wrap (D.1.2 + 4) <= (b.length : Int);rw [w3];omega
 . exact rfl
 . show (Zw eB (0 + (b.length - _)) _).length <= _;rw [zS];omega
 . have hlong : ¬ R.length < 4:=by
    have hc2 : ¬ IntKind.i64.wrap ((b.length : Int) - D.1.2) < 4:=by assumption
    rw [w4] at hc2;omega
   have q:=hs.trans (congrArg ZB (Zq (h:={ D.1.1.1 with sp:=IntKind.u16.wrap (IntKind.u64.wrap (61616 + IntKind.u64.wrap (V1.1.tdiv 16))),dp:=IntKind.u16.wrap (IntKind.u64.wrap (61616 + V1.1.tmod 16)) }) (l:=R.drop 4) (λj hj=>(by (iterate 38 (rcases j with _ | j;exact rfl));exact absurd hj (by omega))) (hQ () hlong)));rw [hPW () hlong,zFo (by rw [<- q];assumption)];exact zq3
 . exact rfl
 . have hlong : ¬ R.length < 4:=by
    have hc2 : ¬ IntKind.i64.wrap ((b.length : Int) - D.1.2) < 4:=by assumption
    rw [w4] at hc2;omega
   exact Eq.mp (congrArg PkW (Zq (h:={ D.1.1.1 with sp:=IntKind.u16.wrap (IntKind.u64.wrap (61616 + IntKind.u64.wrap (V1.1.tdiv 16))),dp:=IntKind.u16.wrap (IntKind.u64.wrap (61616 + V1.1.tmod 16)) }) (l:=R.drop 4) (λj hj=>(by (iterate 38 (rcases j with _ | j;exact rfl));exact absurd hj (by omega))) (hQ () hlong)).symm) (zEr hH (hR.drop _) (zCB _) (zCB _))
 . show (Zw eB (0 + (b.length - _)) _).length <= _;rw [zS];omega
 . rename_i z hz hc1 hc2;have hlong : ¬ R.length < 4:=by
    have hc2 : ¬ IntKind.i64.wrap ((b.length : Int) - D.1.2) < 4:=by assumption
    rw [w4] at hc2;omega
   have q:=hz.trans (congrArg ZB (Zq (h:={ D.1.1.1 with sp:=IntKind.u16.wrap (IntKind.u64.wrap (61616 + IntKind.u64.wrap (V1.1.tdiv 16))),dp:=IntKind.u16.wrap (IntKind.u64.wrap (61616 + V1.1.tmod 16)) }) (l:=R.drop 4) (λj hj=>(by (iterate 38 (rcases j with _ | j;exact rfl));exact absurd hj (by omega))) (hQ () hlong)));have q2:=hs.trans (congrArg qZ (Zq (h:={ D.1.1.1 with sp:=IntKind.u16.wrap (IntKind.u64.wrap (61616 + IntKind.u64.wrap (V1.1.tdiv 16))),dp:=IntKind.u16.wrap (IntKind.u64.wrap (61616 + V1.1.tmod 16)) }) (l:=R.drop 4) (λj hj=>(by (iterate 38 (rcases j with _ | j;exact rfl));exact absurd hj (by omega))) (hQ () hlong)));rw [hPW () hlong,fin_6 (by rw [<- q];exact hc1) ‹_› (by rw [<- q2];exact hc)];exact zq3
 . rename_i z hz hc1 hc2;have hlong : ¬ R.length < 4:=by
    have hc2 : ¬ IntKind.i64.wrap ((b.length : Int) - D.1.2) < 4:=by assumption
    rw [w4] at hc2;omega
   have q:=hz.trans (congrArg ZB (Zq (h:={ D.1.1.1 with sp:=IntKind.u16.wrap (IntKind.u64.wrap (61616 + IntKind.u64.wrap (V1.1.tdiv 16))),dp:=IntKind.u16.wrap (IntKind.u64.wrap (61616 + V1.1.tmod 16)) }) (l:=R.drop 4) (λj hj=>(by (iterate 38 (rcases j with _ | j;exact rfl));exact absurd hj (by omega))) (hQ () hlong)));have q2:=hs.trans (congrArg qZ (Zq (h:={ D.1.1.1 with sp:=IntKind.u16.wrap (IntKind.u64.wrap (61616 + IntKind.u64.wrap (V1.1.tdiv 16))),dp:=IntKind.u16.wrap (IntKind.u64.wrap (61616 + V1.1.tmod 16)) }) (l:=R.drop 4) (λj hj=>(by (iterate 38 (rcases j with _ | j;exact rfl));exact absurd hj (by omega))) (hQ () hlong)));rw [hPW () hlong,zFp (by rw [<- q];exact hc1) (λ_=>by rw [<- q2];exact hc),<- eR];refine Done.mk (zE ⟨zk rfl (λj hj=>?_) (zX (l:=(b.drop D.1.2.toNat).drop 4) rfl rfl rfl ?_ ?_ ?_),zA rfl,trivial⟩)
   . revert j;exact zt9
   . show 0 + (b.length - (IntKind.i64.wrap (D.1.2 + 4)).toNat) = _;rw [List.length_drop,List.length_drop,w3];omega
   . exact Nat.le_refl _
   . exact zBJ (by show (IntKind.i64.wrap (D.1.2 + 4)).toNat = _;rw [w3];omega)
theorem rcdec_r (b : List Int) (f t : Adr) (l : List Ctx) (now : Int) (hb : BL b) (hbl : b.length <= 140737488355328) (hl : bytesL l) (hrest : ¬ b.length = 0 -> ¬ gB b 0 = 65 -> (Zr b f t l now).2 = 0 -> (Zr b f t l now).1.1.1.nxt = 17 -> ¬ (b.drop (Zr b f t l now).1.2.toNat).length = 0 -> gB (b.drop (Zr b f t l now).1.2.toNat) 0 < 240 \/ 243 < gB (b.drop (Zr b f t l now).1.2.toNat) 0) :
 zY Tryz.prog 36 [(qf eB Zb).enc b,(cE ZF).enc f,(cE ZF).enc t,(qf zb zq).enc l,(cI .i64).enc now] (zB7 (zAU b f t l now)):=by
 obtain ⟨W,eW⟩ : ∃ W,zAU b f t l now = W:=⟨_,rfl⟩;rw [eW];obtain ⟨hH,hlo,hhi⟩:=zDc (f:=f) (t:=t) (now:=now) hb hbl hl;have hpay:=zAi b f t l now;obtain ⟨D,eD⟩ : ∃ D,Zr b f t l now = D:=⟨_,rfl⟩;rw [eD] at hH hlo hhi hpay hrest;have e0 : b.length = 0 -> W = (pk0,4):=λh=>by rw [<- eW];exact if_pos h
 have e1 : ¬ b.length = 0 -> gB b 0 = 65 -> W = Qa (b.drop 1):=λh g=>by rw [<- eW];exact zD2 h g
 have e2 : ¬ b.length = 0 -> ¬ gB b 0 = 65 -> ¬ D.2 = 0 -> W = (pk0,D.2):=λh g i=>by rw [<- eW];exact zD3 h g eD i
 have e3 : ¬ b.length = 0 -> ¬ gB b 0 = 65 -> D.2 = 0 -> W = zA3 D.1.1.1 (b.drop D.1.2.toNat):=λh g i=>by rw [<- eW];exact zD4 h g eD i
 have hx0:=zDa b D.1.2.toNat 0;rw [Nat.add_zero] at hx0;obtain ⟨R,eR⟩ : ∃ R,b.drop D.1.2.toNat = R:=⟨_,rfl⟩;have hR : BL R:=by rw [<- eR];exact hb.drop _
 have hRl : R.length = b.length - D.1.2.toNat:=by rw [<- eR];exact List.length_drop ..
 have rowR:=Yu b D.1.2.toNat (by omega);rw [eR] at rowR e3 hx0 hrest;obtain ⟨Z,eZ⟩ : ∃ Z,Qa (b.drop 1) = Z:=⟨_,rfl⟩;rw [eZ] at e1;have row1 : 1 <= b.length -> (Zw eB (b.length - 1) λi=>zn eB b (1 + i)) = b.drop 1:=λh=>Yu b 1 h;have hgr : ∀ i,0 <= gB R i /\ gB R i < 256:=λi=>gB_r hR i;clear eW;have cx0 : IntKind.i64.wrap (IntKind.i64.wrap (b.getD D.1.2.toNat default) - 240) = gB R 0 - 240:=by
  have:=hgr 0;rw [hx0,IntWalk.i64_in (gB R 0) (by omega),IntWalk.i64_in _ (by omega)]
 have hrng : ¬ (b.length : Int) = 0 -> ¬ b.getD (Int.toNat 0) default = 65 -> D.2 = 0 -> D.1.1.1.nxt = 17 -> ¬ D.1.2 = (b.length : Int) -> ¬ IntKind.i64.wrap (IntKind.i64.wrap (b.getD D.1.2.toNat default) - 240) < 0 -> ¬ 3 < IntKind.i64.wrap (IntKind.i64.wrap (b.getD D.1.2.toNat default) - 240) -> False:=λb1 b2 a1 a2 a3 a4 a5=>by
  rw [cx0] at a4 a5;rcases hrest (by omega) b2 a1 a2 (by omega) with h | h<;>omega
 have rowE : Zw eB (0 + (b.length - D.1.2.toNat)) (λk j=>Zm (Nat.blt (0 + k) 0) (nth [CV.int .u8 0] j) (zn eB b (D.1.2.toNat + (0 + k - 0)) j)) = R:=by
  rw [<- eR];exact YX (by rw [List.length_drop];omega) (zBJ (m:=0) rfl)
 obtain ⟨g1,g2⟩:=zg2;refine zG (wd:=1) (by decide) zM (zT zFr) zN Tryz.func36 rfl _ (by show 5 <= _;decide) _ ?_;repeat' (first | (apply And.intro<;>intro hc<;>(first | exact Bool.noConfusion hc | (exfalso;first | exact hrng ‹_› ‹_› ‹_› ‹_› ‹_› ‹_› hc | exact absurd hc ‹_› | exact absurd ‹_› hc) | (simp only [Zi] at hc<;>first | exact absurd rfl hc | (exfalso;first | exact hrng ‹_› ‹_› ‹_› ‹_› ‹_› ‹_› hc | exact absurd hc ‹_› | exact absurd ‹_› hc) | skip) | skip)) | (refine And.intro Za ?_) | (apply And.intro) | (intro s hs;(first | (clear g1;have q : D = s:=(hs.trans ((zA0 (zx b) (zt f) (zt t) (zU l)).trans eD)).symm;clear hs;subst q) | (clear g2;have q : Z = s:=(hs.trans ((congrArg Qa (row1 (by omega))).trans eZ)).symm;clear hs;subst q) | skip)))
 . rw [e0 (by omega)];exact zq3
 . show BL (Zw eB (b.length - 1) λi=>zn eB b (1 + i));rw [row1 (by omega)];exact hb.drop 1
 . show (Zw eB (b.length - 1) λi=>zn eB b (1 + i)).length <= _;rw [zS];omega
 . rw [e1 (by omega) ‹_›];refine Done.mk (zE ⟨zk rfl (λj hj=>?_) ?_,zA rfl,trivial⟩)
   . revert j;exact zt9
   . exact qh (λ_=>rfl) rfl rfl λi _ j _=>qd rfl
 . exact λ_=>rfl
 . exact λ_=>rfl
 . exact Eq.mp (congrArg BL (zx b).symm) hb
 . show (Zw eB b.length _).length <= _;rw [zS];exact hbl
 . exact Eq.mp (congrArg bytesL (zU l).symm) hl
 . rw [e2 (by omega) ‹_› ‹_›];exact zq3
 . have hr : R.length = 0:=by omega
   have hr2 : R = []:=List.eq_nil_of_length_eq_zero hr;rw [e3 (by omega) ‹_› ‹_›,zCC ‹_› (show Qk R = (((0,0),0,0),4) by rw [hr2];rfl) (show ¬ (4 : Int) = 0 by decide)];exact zq3
 . have h5 : IntKind.i64.wrap (IntKind.i64.wrap (b.getD D.1.2.toNat default) - 240) < 0:=by assumption
   rw [cx0] at h5;rw [e3 (by omega) ‹_› ‹_›,zCC ‹_› (ud_bad (by omega) (.inl (by omega))) (show ¬ (5 : Int) = 0 by decide)];exact zq3
 . have h5 : 3 < IntKind.i64.wrap (IntKind.i64.wrap (b.getD D.1.2.toNat default) - 240):=by assumption
   rw [cx0] at h5;rw [e3 (by omega) ‹_› ‹_›,zCC ‹_› (ud_bad (by omega) (.inr (by omega))) (show ¬ (5 : Int) = 0 by decide)];exact zq3
 . exact rfl
 . show (Zw eB (0 + (b.length - _)) _).length <= _;rw [zS];omega
 . have q:=hs.trans (congrArg ZB (Zq (h:=D.1.1.1) (l:=R) (λj hj=>(by (iterate 38 (rcases j with _ | j;exact rfl));exact absurd hj (by omega))) rowE));rw [e3 (by omega) ‹_› ‹_›,restN ‹_›,zFo (by rw [<- q];assumption)];exact zq3
 . rename_i hc1 hc2;have q:=hs.trans (congrArg ZB (Zq (h:=D.1.1.1) (l:=R) (λj hj=>(by (iterate 38 (rcases j with _ | j;exact rfl));exact absurd hj (by omega))) rowE));rw [e3 (by omega) ‹_› ‹_›,restN ‹_›,zFp (by rw [<- q];exact hc1) (λh=>absurd h ‹_›),<- eR];refine Done.mk (zE ⟨zk rfl (λj hj=>?_) (zX (l:=b.drop D.1.2.toNat) rfl rfl rfl ?_ ?_ ?_),zA rfl,trivial⟩)
   . revert j;exact zt9
   . show 0 + (b.length - D.1.2.toNat) = _;rw [List.length_drop];omega
   . exact Nat.le_refl _
   . exact zBJ (m:=0) rfl
theorem rcdec_ok (b : List Int) (f t : Adr) (l : List Ctx) (now : Int) (hb : BL b) (hbl : b.length <= 140737488355328) (hl : bytesL l) : zY Tryz.prog 36 [(qf eB Zb).enc b,(cE ZF).enc f,(cE ZF).enc t,(qf zb zq).enc l,(cI .i64).enc now] (zB7 (zAU b f t l now)):=by
 by_cases h : ¬ b.length = 0 /\ ¬ gB b 0 = 65 /\ (Zr b f t l now).2 = 0 /\ (Zr b f t l now).1.1.1.nxt = 17 /\ ¬ (b.drop (Zr b f t l now).1.2.toNat).length = 0 /\ ¬ (gB (b.drop (Zr b f t l now).1.2.toNat) 0 < 240 \/ 243 < gB (b.drop (Zr b f t l now).1.2.toNat) 0)
 . obtain ⟨a1,a2,a3,a4,a5,a6⟩:=h;have h4 : gB (b.drop (Zr b f t l now).1.2.toNat) 0 = 240 \/ gB (b.drop (Zr b f t l now).1.2.toNat) 0 = 241 \/ gB (b.drop (Zr b f t l now).1.2.toNat) 0 = 242 \/ gB (b.drop (Zr b f t l now).1.2.toNat) 0 = 243:=by omega
   rcases h4 with h | h | h | h
   . exact rcdec_0 b f t l now hb hbl hl a1 a2 a3 a4 a5 h
   . exact rcdec_1 b f t l now hb hbl hl a1 a2 a3 a4 a5 h
   . exact rcdec_2 b f t l now hb hbl hl a1 a2 a3 a4 a5 h
   . exact rcdec_3 b f t l now hb hbl hl a1 a2 a3 a4 a5 h
 . exact rcdec_r b f t l now hb hbl hl λa1 a2 a3 a4 a5=>Classical.byContradiction λa6=>h ⟨a1,a2,a3,a4,a5,a6⟩
theorem rcdecE_ok : EntOk Tryz.prog 36 cdecE:=zO ⟨_,Tryz.func36,rfl,by kernel_rfl⟩ λa h=>rcdec_ok a.1 a.2.1 a.2.2.1 a.2.2.2.1 a.2.2.2.2.1 h.1 h.2.1 h.2.2
def LZd : Qb:=(35,some cdecE) :: (36,some cdecE) :: (37,some rsameE) :: []
theorem LZd_ok : ZC Tryz.prog LZd:=⟨zHQ,rcdecE_ok,(LRp_ok).1,trivial⟩
theorem decF_len (b : List Int) : (Qa b).1.2.length <= 1280:=by
 unfold Qa;split
 . exact Nat.zero_le _
 . split
   . exact Nat.zero_le _
   . split
     . exact Nat.zero_le _
     . split
       . exact Nat.zero_le _
       . split
         . exact Nat.zero_le _
         . split
           . exact Nat.zero_le _
           . rename_i h _;have hv : zj (pkF b) = true:=by
              cases hv : zj (pkF b) with
              | true=>rfl
              | false=>exact absurd hv h
             show (pkF b).2.length <= 1280;have:=YT hv;omega
theorem zHP (p : Zz) (m : Int) : (zBc p m).1.2.length <= 1280:=by
 unfold zBc;split
 . exact Nat.zero_le _
 . split
   . exact Nat.zero_le _
   . rename_i h _;show p.2.length <= 1280;have : ZB p <= 1280:=by omega
     unfold ZB at this;split at this<;>omega
theorem decC_len (b : List Int) (f t : Adr) (l : List Ctx) (now : Int) : (zAU b f t l now).1.2.length <= 1280:=by
 unfold zAU;split
 . exact Nat.zero_le _
 . split
   . exact decF_len _
   . split
     . unfold zA3;split
       . split
         . exact zHP _ _
         . exact Nat.zero_le _
       . exact zHP _ _
     . exact Nat.zero_le _
theorem zGX (b : List Int) (f t : Adr) (l : List Ctx) (now : Int) (hb : BL b) (hbl : b.length <= 140737488355328) (hl : bytesL l) : zY Tryz.prog 16 [(qf eB Zb).enc b,(cE ZF).enc f,(cE ZF).enc t,(qf zb zq).enc l,(cI .i64).enc now] (cB.enc true):=by
 have hP:=decC_len b f t l now;obtain ⟨D,eD⟩ : ∃ D,zAU b f t l now = D:=⟨_,rfl⟩;rw [eD] at hP;obtain ⟨g1,g2⟩:=zg2;refine zG (wd:=1) (by decide) zM (zT LZd_ok) zN Tryz.func16 rfl _ (by show 5 <= _;decide) _ ?_;repeat' (first | (apply And.intro<;>intro hc<;>(first | exact Bool.noConfusion hc | (exfalso;first | exact absurd rfl hc) | (simp only [Zi] at hc<;>first | exact absurd rfl hc | (exfalso;first | exact absurd rfl hc) | skip) | skip)) | (refine And.intro Za ?_) | (apply And.intro) | (intro s hs;(first | (clear g1;have q : D = s:=(hs.trans ((zEq (zx b) (zt f) (zt t) (zU l) rfl).trans eD)).symm;clear hs;subst q) | (clear g2;have q : D = s:=(hs.trans ((zEq (zx b) (zt f) (zt t) (zU l) rfl).trans eD)).symm;clear hs;subst q) | (have q : s = true:=hs;clear hs;subst q) | skip)))
 all_goals first
  | exact Eq.mp (congrArg BL (zx b).symm) hb
  | (show (Zw eB b.length _).length <= _;rw [zS];exact hbl)
  | exact Eq.mp (congrArg bytesL (zU l).symm) hl
  | exact λ_=>rfl
  | exact rfl
  | exact Done.mk (zC rfl)
  | (show (Zw eB D.1.2.length _).length <= _
     rw [zS];omega)
  | (refine (Zq (h:=D.1.1) (l:=D.1.2) (λj hj=>?_) (zx D.1.2)).trans (Zq (h:=D.1.1) (l:=D.1.2) (λj hj=>?_) (zx D.1.2)).symm
     . iterate 38 (rcases j with _ | j;exact rfl)
       exact absurd hj (by omega)
     . iterate 38 (rcases j with _ | j;exact rfl)
       exact absurd hj (by omega))
  | skip
abbrev dcd15E : ZD:=ZH (AC.cons (qf eB Zb) (AC.cons (cE ZF) (AC.cons (cE ZF) (AC.cons (qf zb zq) (AC.cons (cI .i64) AC.nil))))) (λa=>BL a.1 /\ a.1.length <= 140737488355328 /\ bytesL a.2.2.2.1) (λ_=>true) cB.enc
theorem now2_ok (n : Nat) (l : List Int) (q : Int) (ht : TapeOk n (rI l) q) :
 ∃ (r q' : Int),True /\ TapeOk n (rI l) q' /\ ze Tryz.prog 12 [] (Zf n (rI l) q) ((cI .i64).enc r) (Zf n (rI l) q'):=by
 refine qE (wd:=1) (by decide) zM (zT zAX) zN Tryz.func12 rfl _ (by show 0 + 1 <= _;decide) (λ_=>zDT) ?_;repeat' (first | (apply And.intro<;>intro hc<;>(first | exact Bool.noConfusion hc | (simp only [qm] at hc) | skip)) | (refine And.intro Za ?_) | (apply And.intro) | (intro s hs))
 all_goals exact ⟨(_,_),⟨trivial,by assumption⟩,⟨zF rfl,ZI⟩⟩
abbrev now2E : ZD:=Yt AC.nil (λ_=>True) (λa (r : Int)=>True) (cI .i64).enc
def LZv : Qb:=(12,some now2E) :: (16,some dcd15E) :: (13,some cencE) :: (14,some cplE) :: LCo
theorem LZv_ok : ZC Tryz.prog LZv:=⟨qv ⟨_,Tryz.func12,rfl,by kernel_rfl⟩ λn l q a ht hp=>now2_ok n l q ht,zO ⟨_,Tryz.func16,rfl,by kernel_rfl⟩ λa h=>zGX a.1 a.2.1 a.2.2.1 a.2.2.2.1 a.2.2.2.2.1 h.1 h.2.1 h.2.2,rcencE_ok,rcplE_ok,LCo_ok⟩
theorem encC_two {p : Zz} {f t : Adr} {l : List Ctx} {now : Int} (hp : zj p = true) (hf : ZQ f = true) (ht : ZQ t = true) (hl : Zd l = true) (hn : vt now = true) : 2 <= (zAA p f t l now).1.length:=by
 rw [encC_ok hp hf ht hl hn,zEY hp hf ht hl hn];show 2 <= (zCf p _ _ ++ _).length;rw [List.length_append,zHp];omega
theorem encC_bl2 {p : Zz} (hp : PkW p) (f t : Adr) (l : List Ctx) (now : Int) : BL (zAA p f t l now).1:=by
 unfold zAA;split
 . exact zAz (encI_bl hp f t l now) (tail_bl hp)
 . exact .nil
theorem zID {p : Zz} (hp : PkW p) : BL (QQ p).1:=by
 unfold QQ;split
 . exact .cons (by decide) (encB_BL hp _)
 . exact .nil
theorem zIE {p : Zz} (hp : zj p = true) : 1 <= (QQ p).1.length:=by
 unfold QQ;rw [if_pos hp];exact Nat.succ_le_succ (Nat.zero_le _)
theorem bl_raw {l : List Int} (h : BL l) : BL (Zw eB l.length (zn eB l)):=by rw [zx];exact h
theorem bl_raw0 {l : List Int} (h : BL l) : BL (Zw eB l.length λk j=>zn eB l (0 + k) j):=zCx (zGV (zDZ h _))
theorem d_isB {C : List Int} (h : BL C) (i : Nat) {x : Int} {g : Nat -> CV} (hg : g 0 = .int .u8 x) (hx : 0 <= x /\ x < 256) : IsB (λk j=>zBg false (λk j=>Zm (Nat.blt k 0) ((λ_=>nth [CV.int IntKind.u8 0]) k j) ((λk j=>zn eB C (0 + k) j) (k - 0) j)) i g (0 + k) j) (0 + C.length):=
 zGV (F:=zBg false (λk j=>Zm (Nat.blt k 0) ((λ_=>nth [CV.int IntKind.u8 0]) k j) ((λk j=>zn eB C (0 + k) j) (k - 0) j)) i g) (zHL (zEi (A:=λ_=>nth [CV.int IntKind.u8 0]) (C:=λk j=>zn eB C (0 + k) j) (n:=0) zFk (zGV (zDZ h _))) hg hx)
theorem f_isB {C raw : List Int} (h : BL C) (hr : BL raw) (i : Nat) {x : Int} {g : Nat -> CV} (hg : g 0 = .int .u8 x) (hx : 0 <= x /\ x < 256) : IsB (λk j=>(λk j=>Zm (Nat.blt k (0 + C.length)) (zBg false (λk j=>Zm (Nat.blt k 0) ((λ_=>nth [CV.int IntKind.u8 0]) k j) ((λk j=>zn eB C (0 + k) j) (k - 0) j)) i g k j) (zn eB raw (k - (0 + C.length)) j)) (0 + k) j) (0 + C.length + raw.length):=
 zGV (F:=λk j=>Zm (Nat.blt k (0 + C.length)) (zBg false (λk j=>Zm (Nat.blt k 0) ((λ_=>nth [CV.int IntKind.u8 0]) k j) ((λk j=>zn eB C (0 + k) j) (k - 0) j)) i g k j) (zn eB raw (k - (0 + C.length)) j)) (zEi (A:=zBg false (λk j=>Zm (Nat.blt k 0) ((λ_=>nth [CV.int IntKind.u8 0]) k j) ((λk j=>zn eB C (0 + k) j) (k - 0) j)) i g) (C:=zn eB raw) (zHL (zEi (A:=λ_=>nth [CV.int IntKind.u8 0]) (C:=λk j=>zn eB C (0 + k) j) (n:=0) zFk (zGV (zDZ h _))) hg hx) (zDZ hr _))
theorem isB_cut {F : Nat -> Nat -> CV} {n m : Nat} (h : IsB F n) (hm : m <= n) : IsB (λk j=>F (0 + 0 + k) j) m:=⟨λk hk=>by
 show ∃ z,F (0 + 0 + k) 0 = .int .u8 z /\ _;rw [show 0 + 0 + k = k by omega];exact h.at_ k (by omega)⟩
theorem d_cut {C : List Int} (h : BL C) (i m : Nat) (hm : m <= 0 + C.length) {x : Int} {g : Nat -> CV} (hg : g 0 = .int .u8 x) (hx : 0 <= x /\ x < 256) : IsB (λk j=>zBg false (λk j=>Zm (Nat.blt k 0) ((λ_=>nth [CV.int IntKind.u8 0]) k j) ((λk j=>zn eB C (0 + k) j) (k - 0) j)) i g (0 + 0 + k) j) m:=
 isB_cut (F:=zBg false (λk j=>Zm (Nat.blt k 0) ((λ_=>nth [CV.int IntKind.u8 0]) k j) ((λk j=>zn eB C (0 + k) j) (k - 0) j)) i g) (zHL (zEi (A:=λ_=>nth [CV.int IntKind.u8 0]) (C:=λk j=>zn eB C (0 + k) j) (n:=0) zFk (zGV (zDZ h _))) hg hx) hm
theorem e_isB {raw : List Int} (h : BL raw) {o : Operand} : IsB (λk j=>(λk j=>Zm (Nat.blt k 1) ((λk j=>Zm (Nat.beq k (0,o).fst) ((λ_=>CV.int IntKind.u8 65) j) ((λ_=>nth [CV.int IntKind.u8 0]) k j)) k j) (zn eB raw (k - 1) j)) (0 + k) j) (1 + raw.length):=⟨λk _=>by
 rcases k with _ | k
 . exact ⟨65,rfl,by decide⟩
 . show ∃ z,Zm (Nat.blt (0 + (k + 1)) 1) _ (zn eB raw (0 + (k + 1) - 1) 0) = .int .u8 z /\ _;rw [zG4 (by omega),Yg];exact ⟨_,rfl,h.get _⟩⟩
theorem zHO (raw : List Int) (hr : BL raw) (hrl : raw.length <= 140737488351232) (f t : Adr) (tab : List Ctx) (htab : bytesL tab) (now : Int) (n : Nat) (l : List Int) (hl : rngL l) (at_ by_ cut : Int) (hby : 0 <= by_ /\ by_ < 256) : zY Tryz.prog 4 [.e (.c (.sl true raw.length 1 (zn eB raw))),(cE ZF).enc f,(cE ZF).enc t,.e (.c (slR zb tab)),(cI .i64).enc now,.e (.c (.sl true n 1 (rI l))),(cI .i64).enc at_,(cI .u8).enc by_,(cI .i64).enc cut] (.e (.c (.bool true))):=by
 obtain ⟨g1,g2,g3,g4,g5,g6⟩:=zg6;refine zG (wd:=1) (by decide) zM (zT LZv_ok) zN Tryz.func4 rfl _ (by show 9 <= _;decide) _ ?_;repeat' (first | (apply And.intro<;>intro hc<;>(first | exact Bool.noConfusion hc | (simp only [qm] at hc) | skip)) | (refine And.intro Za ?_) | (apply And.intro) | (intro s hs))
 . exact ⟨l,rfl,hl⟩
 intro ht0;repeat' (first | (apply And.intro<;>intro hc<;>(first | exact Bool.noConfusion hc | (simp only [Zi] at hc<;>first | exact absurd rfl hc | skip) | skip)) | (refine And.intro Za ?_) | (apply And.intro) | (intro s hs;(first | (clear g1;rename_i a ha q1 t1 b hb q2 t2 L hL q3 t3 r hm q4 t4;have hC2:=encC_two hm.v ha.v hb.v hL.v (show vt 5 = true from rfl);have hCb:=encC_bl2 hm.w a b L 5;have hCl:=encC_sm r a b L 5;have hZ2:=zIE hm.v;have hZb:=zID hm.w;have hZl:=plainZ_sm r;obtain ⟨C,eC⟩ : ∃ C,zAA r a b L 5 = C:=⟨_,rfl⟩;obtain ⟨Z,eZ⟩ : ∃ Z,QQ r = Z:=⟨_,rfl⟩;rw [eC] at hC2 hCb hCl;rw [eZ] at hZ2 hZb hZl;have q : C = s:=((hs.trans (zEp (Zq (h:=r.1) (l:=r.2) (λj hj=>(by (iterate 38 (rcases j with _ | j;exact rfl));exact absurd hj (by omega))) (zx r.2)) rfl rfl (zU L))).trans eC).symm;clear hs;subst q) | (clear g2;have q : Z = s:=((hs.trans (congrArg QQ (Zq (h:=r.1) (l:=r.2) (λj hj=>(by (iterate 38 (rcases j with _ | j;exact rfl));exact absurd hj (by omega))) (zx r.2)))).trans eZ).symm;clear hs;subst q) | (have q : s = true:=hs;clear hs;subst q) | (clear g3;have hi : 0 <= s /\ s < (if (50 : Int) < ((0 + C.1.length : Nat) : Int) then (50 : Int) else ((0 + C.1.length : Nat) : Int)):=(by (rw [show s = modF at_ (if (50 : Int) < ((0 + C.1.length : Nat) : Int) then (50 : Int) else ((0 + C.1.length : Nat) : Int)) from hs];exact zEb (by split<;>omega)));clear hs;have hiL : 0 <= s /\ s < C.1.length:=(by (split at hi<;>omega));clear hi) | (clear g4;have hi : 0 <= s /\ s < (if (55 : Int) < ((0 + Z.1.length : Nat) : Int) then (55 : Int) else ((0 + Z.1.length : Nat) : Int)):=(by (rw [show s = modF at_ (if (55 : Int) < ((0 + Z.1.length : Nat) : Int) then (55 : Int) else ((0 + Z.1.length : Nat) : Int)) from hs];exact zEb (by split<;>omega)));clear hs;have hiM : 0 <= s /\ s < Z.1.length:=(by (split at hi<;>omega));clear hi) | (clear g5;have wl : (IntKind.i64.wrap (((0 + C.1.length : Nat) : Int) + 1)) = (C.1.length : Int) + 1:=(by (rw [IntWalk.i64_in _ (by omega)];omega));have hi : 0 <= s /\ s < (IntKind.i64.wrap (((0 + C.1.length : Nat) : Int) + 1)):=(by (rw [show s = modF cut (IntKind.i64.wrap (((0 + C.1.length : Nat) : Int) + 1)) from hs];exact zEb (by rw [wl];omega)));rw [wl] at hi;clear hs;clear wl) | (clear g6;have wl : (IntKind.i64.wrap (((0 + Z.1.length : Nat) : Int) + 1)) = (Z.1.length : Int) + 1:=(by (rw [IntWalk.i64_in _ (by omega)];omega));have hi : 0 <= s /\ s < (IntKind.i64.wrap (((0 + Z.1.length : Nat) : Int) + 1)):=(by (rw [show s = modF cut (IntKind.i64.wrap (((0 + Z.1.length : Nat) : Int) + 1)) from hs];exact zEb (by rw [wl];omega)));rw [wl] at hi;clear hs;clear wl) | skip)))
 . exact λ_=>rfl
 . exact λ_=>rfl
 . (rename PkM _=>hm
    rename Zz=>r;refine Eq.mp (congrArg PkW (Zq (h:=r.1) (l:=r.2) (λj hj=>?_) (zx r.2)).symm) hm.w;iterate 38 (rcases j with _ | j;exact rfl)
    exact absurd hj (by omega))
 . (rename PkM _=>hm
    rename Zz=>r;have:=YT hm.v;exact Nat.le_trans (Nat.le_of_eq (zS _ _ _)) (by omega))
 . (rename madeL _=>hL
    rename List Ctx=>L;exact Eq.mp (congrArg bytesL (zU L).symm) ⟨hL.b,Nat.le_trans hL.n (by decide)⟩)
 . (rename PkM _=>hm
    rename Zz=>r;refine Eq.mp (congrArg PkW (Zq (h:=r.1) (l:=r.2) (λj hj=>?_) (zx r.2)).symm) hm.w;iterate 38 (rcases j with _ | j;exact rfl)
    exact absurd hj (by omega))
 . (rename PkM _=>hm
    rename Zz=>r;have:=YT hm.v;exact Nat.le_trans (Nat.le_of_eq (zS _ _ _)) (by omega))
 . exact λ_=>rfl
 . exact λ_=>rfl
 . exact bl_raw hr
 . exact Nat.le_trans (Nat.le_of_eq (zS _ _ _)) (by omega)
 . exact Eq.mp (congrArg bytesL (zU tab).symm) htab
 . exact rfl
 . exact rfl
 . exact zCx (e_isB hr)
 . exact Nat.le_trans (Nat.le_of_eq (zS _ _ _)) (by omega)
 . exact Eq.mp (congrArg bytesL (zU tab).symm) htab
 . exact rfl
 . exact rfl
 . exact bl_raw0 hCb
 . exact Nat.le_trans (Nat.le_of_eq (zS _ _ _)) (by omega)
 . (rename madeL _=>hL
    rename List Ctx=>L;exact Eq.mp (congrArg bytesL (zU L).symm) ⟨hL.b,Nat.le_trans hL.n (by decide)⟩)
 . exact rfl
 . exact rfl
 . exact zCx (d_isB hCb _ rfl (u8r _))
 . exact Nat.le_trans (Nat.le_of_eq (zS _ _ _)) (by omega)
 . (rename madeL _=>hL
    rename List Ctx=>L;exact Eq.mp (congrArg bytesL (zU L).symm) ⟨hL.b,Nat.le_trans hL.n (by decide)⟩)
 . exact rfl
 . exact rfl
 . exact zCx (d_isB hZb _ rfl (u8r _))
 . exact Nat.le_trans (Nat.le_of_eq (zS _ _ _)) (by omega)
 . (rename madeL _=>hL
    rename List Ctx=>L;exact Eq.mp (congrArg bytesL (zU L).symm) ⟨hL.b,Nat.le_trans hL.n (by decide)⟩)
 . (show 1 <= IntKind.i64.wrap (((0 + C.1.length : Nat) : Int) + 1);rw [IntWalk.i64_in _ (by omega)];omega)
 . (show IntKind.i64.wrap (((0 + C.1.length : Nat) : Int) + 1) <= 4611686018427387904;rw [IntWalk.i64_in _ (by omega)];omega)
 . exact rfl
 . exact rfl
 . exact zCx (d_cut hCb _ _ (by omega) rfl (u8r _))
 . exact Nat.le_trans (Nat.le_of_eq (zS _ _ _)) (by omega)
 . (rename madeL _=>hL
    rename List Ctx=>L;exact Eq.mp (congrArg bytesL (zU L).symm) ⟨hL.b,Nat.le_trans hL.n (by decide)⟩)
 . exact rfl
 . exact rfl
 . exact zCx (f_isB hCb hr _ rfl (u8r _))
 . exact Nat.le_trans (Nat.le_of_eq (zS _ _ _)) (by omega)
 . (rename madeL _=>hL
    rename List Ctx=>L;exact Eq.mp (congrArg bytesL (zU L).symm) ⟨hL.b,Nat.le_trans hL.n (by decide)⟩)
 . (show 1 <= IntKind.i64.wrap (((0 + Z.1.length : Nat) : Int) + 1);rw [IntWalk.i64_in _ (by omega)];omega)
 . (show IntKind.i64.wrap (((0 + Z.1.length : Nat) : Int) + 1) <= 4611686018427387904;rw [IntWalk.i64_in _ (by omega)];omega)
 . exact rfl
 . exact rfl
 . exact zCx (d_cut hZb _ _ (by omega) rfl (u8r _))
 . exact Nat.le_trans (Nat.le_of_eq (zS _ _ _)) (by omega)
 . (rename madeL _=>hL
    rename List Ctx=>L;exact Eq.mp (congrArg bytesL (zU L).symm) ⟨hL.b,Nat.le_trans hL.n (by decide)⟩)
 . exact Done.mk (zC rfl)
end Go.Proofs.YtjknkfjhcapocaaGreatDoor.AX
namespace Go.Proofs.YtjknkfjhcapocaaGreatDoor
open Go.RowKit AX
abbrev ksCtx : List (Option IntKind):=[some .i64,some .u8,some .u8,some .u8,some .u8,some .u8,some .u8,some .u8,some .u8,some .u8,some .u8,some .u8,some .u8,some .u8,some .u8,some .u8,some .u8,some .i64,none,some .i64]
theorem ctx_at : ∀ i,i < 16 -> ksCtx[1 + i]? = some (some .u8):=by decide
theorem ok_ctx (g : Nat -> CV) (h : MtC ksCtx g) : zb.ok g = true:=by
 show (isK .i64 (g 0) && okA .u8 g 1 16 && isK .i64 (g 17) && isB (g 18) && isK .i64 (g 19)) = true;rw [h.k (j:=0) rfl,okA_of λi hi=>h.k (ctx_at i hi),h.k (j:=17) rfl,h.b (j:=18) rfl,h.k (j:=19) rfl];rfl
theorem by_ctx {c : Ctx} (h : ∃ g,MtC ksCtx g /\ c = zb.rd g) : byteOk c.ip:=by
 obtain ⟨g,hg,rfl⟩:=h;exact ⟨λq=>wf_u8 (hg.wf (ctx_at q.1 q.2))⟩
abbrev ksAdr : List (Option IntKind):=[some .i64,some .u16,some .u64]
theorem ok_adr (g : Nat -> CV) (h : MtC ksAdr g) : ZF.ok g = true:=by
 show (isK .i64 (g 0) && isK .u16 (g 1) && isK .u64 (g 2)) = true;rw [h.k (j:=0) rfl,h.k (j:=1) rfl,h.k (j:=2) rfl];rfl
end Go.Proofs.YtjknkfjhcapocaaGreatDoor
namespace Go.Proofs.YtjknkfjhcapocaaGreatDoor.AX
open Go.RowKit
theorem zGW {w : World} {sp : Nat -> Bool} {held : Bool} {fuel : Nat} {cs : List Value} {a b c : Int} {p : List MemPlace} (h : DataW.trod (H:=Unit) (λ_=>()) Tryz.prog w 0 sp held fuel 33 cs = some (.agg [.lit (.int .i64 a),.lit (.int .u16 b),.lit (.int .u64 c)],p)) : cs = [.int .i64 a,.int .u16 b,.int .u64 c]:=by
 obtain ⟨xs,n,_,hx,hl,hlen,hf⟩:=DataW.trod_struct Tryz.underlying33 h;have hl3 : cs.length = 3:=hl.trans (by kernel_rfl);obtain ⟨c0,c1,c2,rfl⟩ : ∃ c0 c1 c2,cs = [c0,c1,c2]:=by
  match cs,hl3 with
  | [x,y,z],_=>exact ⟨x,y,z,rfl⟩
 obtain ⟨y0,y1,y2,rfl⟩ : ∃ y0 y1 y2,xs = [y0,y1,y2]:=by
  match xs,hlen with
  | [x,y,z],_=>exact ⟨x,y,z,rfl⟩
 have k0 : Tryz.prog.cellsOf 3 = 1:=by kernel_rfl
 have k1 : Tryz.prog.cellsOf 29 = 1:=by kernel_rfl
 have k2 : Tryz.prog.cellsOf 31 = 1:=by kernel_rfl
 have h0 : DataW.trod (H:=Unit) (λ_=>()) Tryz.prog w 0 sp held n 3 (([c0,c1,c2].drop 0).take (Tryz.prog.cellsOf 3)) = some y0:=hf 0 _ rfl;have h1 : DataW.trod (H:=Unit) (λ_=>()) Tryz.prog w 0 sp held n 29 (([c0,c1,c2].drop 1).take (Tryz.prog.cellsOf 29)) = some y1:=hf 1 _ rfl;have h2 : DataW.trod (H:=Unit) (λ_=>()) Tryz.prog w 0 sp held n 31 (([c0,c1,c2].drop 2).take (Tryz.prog.cellsOf 31)) = some y2:=hf 2 _ rfl;rw [k0] at h0;rw [k1] at h1;rw [k2] at h2;obtain ⟨n0,e0,rfl,_⟩:=DataW.trod_int Tryz.underlying3 h0;obtain ⟨n1,e1,rfl,_⟩:=DataW.trod_int Tryz.underlying29 h1;obtain ⟨n2,e2,rfl,_⟩:=DataW.trod_int Tryz.underlying31 h2;simp at hx e0 e1 e2;obtain ⟨⟨rfl,rfl,rfl⟩,_⟩:=hx;rw [e0,e1,e2]
theorem cell_ltG {w : World} {p : Addr} {u : Value} (h : w.cell? p = some u) : p.block < w.heap.size:=by
 rcases Nat.lt_or_ge p.block w.heap.size with h1 | h1
 . exact h1
 . have : w.heap[p.block]? = none:=Array.getElem?_eq_none h1;simp [World.cell?,this] at h
theorem zD7 {w : World} {name : String} {g : Nat} {cs : Array Value} {l : List (IntKind × Int)} (hg : Tryz.prog.globalNamed name = some g) (hv : w.var? Tryz.prog name = some cs) (hc : cs.toList = l.map λx=>Value.int x.1 x.2) (h0 : 0 < l.length) :
 g < w.heap.size /\ ∀ (j : Nat) (k : IntKind) (n : Int),l[j]? = some (k,n) -> w.cell? ⟨g,j,none⟩ = some (.int k n):=by
 have key : ∀ (j : Nat) (k : IntKind) (n : Int),l[j]? = some (k,n) -> w.cell? ⟨g,j,none⟩ = some (.int k n):=λj k n hj=>by
  rw [World.var?_cell hg hv,<- Array.getElem?_toList,hc,List.getElem?_map,hj];rfl
 refine ⟨?_,key⟩;obtain ⟨⟨k,n⟩,l',rfl⟩ : ∃ x l',l = x :: l':=by
  match l,h0 with
  | x :: l',_=>exact ⟨x,l',rfl⟩
 exact cell_ltG (key 0 k n rfl)
theorem len_cells {w : World} {sp : Nat -> Bool} {held : Bool} {fuel : Nat} {cs : List Value} {a b c d : Int} {p : List MemPlace} (h : DataW.trod (H:=Unit) (λ_=>()) Tryz.prog w 0 sp held fuel 104 cs = some (.agg [.lit (.int .i64 a),.lit (.int .i64 b),.lit (.int .i64 c),.lit (.int .i64 d)],p)) : cs = [.int .i64 a,.int .i64 b,.int .i64 c,.int .i64 d]:=by
 obtain ⟨xs,n,_,hx,hl,hlen,hf⟩:=DataW.trod_array Tryz.underlying104 h;have hl4 : cs.length = 4:=hl.trans (by kernel_rfl);obtain ⟨c0,c1,c2,c3,rfl⟩ : ∃ c0 c1 c2 c3,cs = [c0,c1,c2,c3]:=by
  match cs,hl4 with
  | [x,y,z,t],_=>exact ⟨x,y,z,t,rfl⟩
 obtain ⟨y0,y1,y2,y3,rfl⟩ : ∃ y0 y1 y2 y3,xs = [y0,y1,y2,y3]:=by
  match xs,hlen with
  | [x,y,z,t],_=>exact ⟨x,y,z,t,rfl⟩
 have k0 : Tryz.prog.cellsOf 3 = 1:=by kernel_rfl
 have h0:=hf 0 (by decide);have h1:=hf 1 (by decide);have h2:=hf 2 (by decide);have h3:=hf 3 (by decide);rw [k0] at h0 h1 h2 h3;obtain ⟨n0,e0,q0,_⟩:=DataW.trod_int Tryz.underlying3 h0;obtain ⟨n1,e1,q1,_⟩:=DataW.trod_int Tryz.underlying3 h1;obtain ⟨n2,e2,q2,_⟩:=DataW.trod_int Tryz.underlying3 h2;obtain ⟨n3,e3,q3,_⟩:=DataW.trod_int Tryz.underlying3 h3;simp at hx e0 e1 e2 e3 q0 q1 q2 q3;subst q0 q1 q2 q3;simp at hx;obtain ⟨⟨rfl,rfl,rfl,rfl⟩,_⟩:=hx;rw [e0,e1,e2,e3]
theorem glob_of {w : World} (h : laidMet Tryz.prog [("multihop/multihopref15.lengths",Rows.laid_multihop_multihopref15_lengths),("multihop/multihoplaw15.one",Rows.laid_multihop_multihoplaw15_one),("multihop/multihoplaw15.two",Rows.laid_multihop_multihoplaw15_two)] w) : GlobOk (λ_=>False) w:=by
 obtain ⟨ps,⟨g0,t0,cs0,fuel0,p0,q0,hg0,ht0,hv0,hd0,⟨g,t,cs,fuel,p,q,hg,ht,hv,hd,⟨g',t',cs',fuel',p',q',hg',ht',hv',hd',_,_⟩,_⟩,_⟩,_,_⟩:=h;have G0 : Tryz.prog.globalNamed "multihop/multihoplaw15.one" = some 0:=by kernel_rfl
 have G1 : Tryz.prog.globalNamed "multihop/multihoplaw15.two" = some 1:=by kernel_rfl
 have G2 : Tryz.prog.globalNamed "multihop/multihopref15.lengths" = some 2:=by kernel_rfl
 have T0 : (Tryz.prog.globals[0]?).map (·.type) = some 33:=by kernel_rfl
 have T1 : (Tryz.prog.globals[1]?).map (·.type) = some 33:=by kernel_rfl
 have T2 : (Tryz.prog.globals[2]?).map (·.type) = some 104:=by kernel_rfl
 obtain rfl:=Option.some.inj (G2.symm.trans hg0);obtain rfl:=Option.some.inj (T2.symm.trans ht0);obtain rfl:=Option.some.inj (G0.symm.trans hg);obtain rfl:=Option.some.inj (T0.symm.trans ht);obtain rfl:=Option.some.inj (G1.symm.trans hg');obtain rfl:=Option.some.inj (T1.symm.trans ht');have r0:=zD7 (l:=[(.i64,2),(.u16,1),(.u64,0)]) hg hv (zGW hd) (by decide);have r1:=zD7 (l:=[(.i64,2),(.u16,2),(.u64,0)]) hg' hv' (zGW hd') (by decide);have r2:=zD7 (l:=[(.i64,4),(.i64,3),(.i64,3),(.i64,1)]) hg0 hv0 (len_cells hd0) (by decide);intro p hp;rcases List.mem_cons.1 hp with rfl | hp
 . exact ⟨r0.1,id,r0.2⟩
 . rcases List.mem_cons.1 hp with rfl | hp
   . exact ⟨r1.1,id,r1.2⟩
   . rcases List.mem_cons.1 hp with rfl | hp
     . exact ⟨r2.1,id,r2.2⟩
     . cases hp
end Go.Proofs.YtjknkfjhcapocaaGreatDoor.AX
namespace Go.Proofs.YtjknkfjhcapocaaGreatDoor
open Go.RowKit AX
theorem walkCompressDecodes (a0 : Option Addr) (len0 cap0 : Nat) (z0 : List Int) (x1 : Array Value) (x2 : Array Value) (a3 : Option Addr) (len3 cap3 : Nat) (a4 : Int) (a5 : Option Addr) (len5 cap5 : Nat) (z5 : List Int) (a6 : Int) (a7 : Int) (a8 : Int) (w : World) (w0 : IsRow .u8 w a0 len0 cap0 z0) (rr0 : cap0 * 1 <= 140737488351232) (w1 : Mt ksAdr x1.toList) (w2 : Mt ksAdr x2.toList) (w3 : IsRows w ksCtx a3 len3 cap3) (rr3 : len3 * 48 <= 140737488351232) (w4 : (Lit.int .i64 a4).wf = true) (w5 : IsRow .i64 w a5 len5 cap5 z5) (rr5 : cap5 * 8 <= 140737488351232) (w6 : (Lit.int .i64 a6).wf = true) (w7 : (Lit.int .u8 a7).wf = true) (w8 : (Lit.int .i64 a8).wf = true) (hg : AX.GlobOk (λ_=>False) w) :
 Calls Tryz.prog 4 #[.slice a0 len0 cap0,.agg x1,.agg x2,.slice a3 len3 cap3,.int .i64 a4,.slice a5 len5 cap5,.int .i64 a6,.int .u8 a7,.int .i64 a8] w λe w'=>e = .returned (.bool true) /\ Below w.heap.size w w':=by
 obtain ⟨b,hb,hl,hrel⟩:=rowB_cut w0;have h3:=(zIC w0).2.2;obtain ⟨f,hf,h1⟩:=zIB w1 (E:=ZF) (w:=w) rfl ok_adr;obtain ⟨t,ht,h2⟩:=zIB w2 (E:=ZF) (w:=w) rfl ok_adr;obtain ⟨raw,hn,hraw,h4⟩:=rows_rel w3 (E:=zb) (by decide) rfl ok_ctx;exact walk_of (zHO b hb (by omega) f t raw ⟨λd hd=>by_ctx (hraw d hd),by omega⟩ a4 len5 z5 (rng_of w5) a6 a7 a8 (wf_u8 w7)) (Ym hrel (Ym h1 (Ym h2 (Ym h4 (Ym rfl (Ym (row_rel w5) (Ym rfl (Ym rfl (relL1 rfl))))))))) hg
end Go.Proofs.YtjknkfjhcapocaaGreatDoor
