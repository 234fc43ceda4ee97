/- Texts of one's own in one file: Mrg, Mrh, Mrj, Mqd, Mqe, Mrk, Mrl, Mrm, Mth, MulticastStepsA, Fn, Mtg, MulticastStepsW. -/
import Derived.Test.YtfaibcgakcmhcaaJMulticastStepsd
import Derived.Test.YtfaibcgakcmhcaaJMulticastStepse
import Derived.Test.YtfaibcgakcmhcaaJMulticastStepsb
set_option linter.unusedVariables false
set_option linter.unusedSimpArgs false
set_option maxHeartbeats 16000000
set_option maxRecDepth 20000
namespace Go.Proofs.Ytfaibcgakcmhcaa.AX
open Go.RowKit
theorem rs2_0 (M0 : List Sed) (now draw : Int) (hm : ∀ s ∈ M0,SdOk s) (h8 : M0.length <= 8) (hd : ZM draw) (ht : 0 <= now /\ now <= 1099511627776) (s : StI M0 now draw) (hi : s.i = 0) (hil : s.i < M0.length) (K : Kt) :
 Zs T (Zt LRs) 1 Try.f46.ntmps 0 (Zz (ZK 7 (Try.f46.body.getD Code.ret))) (SR2 M0 now draw s).fr (SR2 M0 now draw s).H (SR2 M0 now draw s).nx (QY (λfr H _=>Qz (SR2 M0 now draw) (λs=>M0.length - s.i) 0 (M0.length - s.i) fr H) K):=by
 have hS : SdOk (M0.getD s.i default):=hm _ (zj hil);obtain ⟨s',es'⟩ : ∃ s',s.next hil hS.n = s':=⟨_,rfl⟩;have f1 : s'.M = s.M.set s.i { M0.getD s.i default with held:=(qe (M0.getD s.i default).id now draw (M0.getD s.i default).held s.b).1 }:=by rw [<- es'];rfl
 have f2 : s'.Z = s.Z ++ (qe (M0.getD s.i default).id now draw (M0.getD s.i default).held s.b).2:=by rw [<- es'];rfl
 have f3 : s'.b = s.b + (M0.getD s.i default).held.length:=by rw [<- es'];rfl
 have f4 : s'.i = s.i + 1:=by rw [<- es'];rfl
 clear es';obtain ⟨i,M,Z,b,hn,hi0,hb,hz,h2,r1,r2⟩:=s;dsimp only at hi hil hS f1 f2 f3 f4;subst hi;have hiM : 0 < M.length:=by omega
 have e0:=h2 0 (Nat.le_refl _);rw [<- e0] at hS f1 f2 f3;have hk:=hS.n;unfold SR2;dsimp only;clear h2 r1 r2 e0;repeat' (first | (apply And.intro<;>intro hc<;>(first | exact Bool.noConfusion hc | (exfalso;first | exact absurd rfl hc | omega) | (simp only [zg] at hc<;>first | exact absurd rfl hc | (exfalso;first | exact absurd rfl hc | omega) | skip) | skip)) | (refine And.intro ze ?_) | (apply And.intro) | (intro s hs;skip) | (refine Exists.intro _ (And.intro ⟨rfl,rfl,rfl⟩ ?_)))
 conv=>whnf
 refine zQ (zT qr) (λs : InI (M.getD 0 default).held (M.getD 0 default).id now draw b Z=>(⟨[(1,zO (.int .i64 now)),(2,zO (.int .u32 draw)),(9,zO (.os 1 0 M.length)),(10,zO (.os 10 0 s.Z.length)),(11,zO (.int .u32 ((b + s.k : Nat) : Int))),(64,zO (.int .i64 (M0.length : Int))),(65,zO (.int .i64 ((0 : Nat) : Int))),(16,zO (.int .i64 ((0 : Nat) : Int))),(73,zO (.int .i64 ((M.getD 0 default).held.length : Int))),(74,zO (.int .i64 (s.k : Int)))],[(1,some (qt 2 M.length M)),(2,some (zV s.H)),(3,some (zV (M.getD 1 default).held)),(4,some (zV (M.getD 2 default).held)),(5,some (zV (M.getD 3 default).held)),(6,some (zV (M.getD 4 default).held)),(7,some (zV (M.getD 5 default).held)),(8,some (zV (M.getD 6 default).held)),(9,some (zV (M.getD 7 default).held)),(10,some (ZL Zr 32 s.Z))],11⟩ : Hd)) (λs=>(M.getD 0 default).held.length - s.k) (λ_=>rfl) ?_ (InI.start _ _ _ _ _ _) [] ⟨rfl,⟨zA rfl,zA rfl,zE (zD rfl rfl),zE (zD rfl rfl),zA rfl,zA rfl,zA rfl,zA rfl,zA rfl,zA rfl,trivial⟩,⟨⟨rfl,zP (by omega) (qF rfl rfl rfl rfl rfl rfl rfl rfl)⟩,⟨rfl,zB⟩,⟨rfl,zB⟩,⟨rfl,zB⟩,⟨rfl,zB⟩,⟨rfl,zB⟩,⟨rfl,zB⟩,⟨rfl,zB⟩,⟨rfl,zB⟩,⟨rfl,zB⟩,trivial⟩⟩;intro s;by_cases hkn : s.k < (M.getD 0 default).held.length
 . have w4 : IntKind.i64.wrap ((s.k : Int) + 1) = ((s.k + 1 : Nat) : Int):=(IntWalk.i64_in _ (by omega)).trans (by omega);have w5 : IntKind.u32.wrap (((b + s.k : Nat) : Int) + 1) = ((b + (s.k + 1) : Nat) : Int):=(IntWalk.u32_in _ (by omega)).trans (by omega);have z0 : 0 + (s.k : Int).toNat = s.k:=Nat.zero_add s.k;have eh:=s.h2 s.k (Nat.le_refl _);have hl:=s.n;have hzz:=s.hz;have bk : Nat.beq s.k s.k = true:=Nat.beq_refl _;have hx:=QD hS (zj hkn);rw [<- eh] at hx;have hxd:=hx.d;have hxt:=hx.t;obtain ⟨T,eT⟩ : ∃ T,qK (s.H.getD s.k default).tm now (IntKind.u32.wrap (draw + ((b + s.k : Nat) : Int))) = T:=⟨_,rfl⟩;have hTe:=zAD hxt ht eT;repeat' (first | (simp only [z0,w4,w5,bk,Bool.cond_true]) | (apply And.intro<;>intro hc<;>(first | exact Bool.noConfusion hc | (exfalso;first | exact absurd rfl hc | omega) | (simp only [zg] at hc<;>first | exact absurd rfl hc | (exfalso;first | exact absurd rfl hc | omega) | skip) | skip)) | (refine And.intro ze ?_) | (apply And.intro) | (intro s hs;(have q : T = s:=eT.symm.trans hs.symm;clear hs;subst q)) | (refine Exists.intro _ (And.intro ⟨rfl,rfl,rfl⟩ ?_)))
   . exact hc
   . exact (QI _).1
   . exact (QI _).2
   . conv=>whnf
     exact ⟨s.next hkn s.H s.Z (by rw [<- eh,qT (λg=>absurd (hTe.2 g) hc)];exact qi (by rw [hl];exact hkn)) (by rw [<- eh,qT (λg=>absurd (hTe.2 g) hc)];exact List.append_nil _),[],by dsimp only [InI.next];omega,rfl,⟨zA rfl,zA rfl,zE (zD rfl rfl),zE (zD rfl rfl),zA rfl,zA rfl,zA rfl,zA rfl,zA rfl,zA w4,trivial⟩,⟨⟨rfl,zP (by omega) (qF rfl rfl rfl rfl rfl rfl rfl rfl)⟩,⟨rfl,zB⟩,⟨rfl,zB⟩,⟨rfl,zB⟩,⟨rfl,zB⟩,⟨rfl,zB⟩,⟨rfl,zB⟩,⟨rfl,zB⟩,⟨rfl,zB⟩,⟨rfl,zB⟩,trivial⟩⟩
   . conv=>whnf
     refine ⟨s.next hkn (s.H.set s.k { s.H.getD s.k default with tm:=T.1 }) (s.Z ++ [⟨(M.getD 0 default).id,(s.H.getD s.k default).num,(s.H.getD s.k default).data⟩]) (by rw [<- eh,ZB (hTe.1 ‹_›) eT]) (by rw [<- eh,ZB (hTe.1 ‹_›) eT,if_pos hc]),[(10,some 67)],by dsimp only [InI.next];omega,rfl,⟨zA rfl,zA rfl,zE (zD rfl rfl),zE (zD rfl (by show _ = (s.Z ++ [_]).length;rw [List.length_append];rfl)),zA rfl,zA rfl,zA rfl,zA rfl,zA rfl,zA w4,trivial⟩,⟨⟨rfl,zP (by omega) (qF rfl rfl rfl rfl rfl rfl rfl rfl)⟩,⟨rfl,ZY ?_⟩,⟨rfl,zB⟩,⟨rfl,zB⟩,⟨rfl,zB⟩,⟨rfl,zB⟩,⟨rfl,zB⟩,⟨rfl,zB⟩,⟨rfl,zB⟩,⟨rfl,?_⟩,trivial⟩⟩
     . exact ZJ (by rw [hl];exact hkn) (YR ⟨zC rfl,zC rfl,zC rfl,zC rfl,zC rfl,zC rfl,zC rfl,zS rfl⟩)
     . refine qP λj hj=>?_;rcases j with _ | _ | _ | j
       . exact zC rfl
       . exact zC rfl
       . refine zy rfl rfl rfl rfl (Nat.le_of_eq (Nat.zero_add _)) λq hq j hj=>?_;show ZX _ (qC eB (s.H.getD s.k default).data (0 + q) j) (qC eB (s.H.getD s.k default).data q j);exact zC (congrArg (λz=>(s.H.getD s.k default).data.getD z default) (Nat.zero_add q))
       . omega
   . conv=>whnf
     refine ⟨s.next hkn (s.H.set s.k { s.H.getD s.k default with tm:=T.1 }) s.Z (by rw [<- eh,ZB (hTe.1 ‹_›) eT]) (by rw [<- eh,ZB (hTe.1 ‹_›) eT,if_neg (by rw [hc];simp)];exact List.append_nil _),[],by dsimp only [InI.next];omega,rfl,⟨zA rfl,zA rfl,zE (zD rfl rfl),zE (zD rfl rfl),zA rfl,zA rfl,zA rfl,zA rfl,zA rfl,zA w4,trivial⟩,⟨⟨rfl,zP (by omega) (qF rfl rfl rfl rfl rfl rfl rfl rfl)⟩,⟨rfl,ZY ?_⟩,⟨rfl,zB⟩,⟨rfl,zB⟩,⟨rfl,zB⟩,⟨rfl,zB⟩,⟨rfl,zB⟩,⟨rfl,zB⟩,⟨rfl,zB⟩,⟨rfl,zB⟩,trivial⟩⟩;exact ZJ (by rw [hl];exact hkn) (YR ⟨zC rfl,zC rfl,zC rfl,zC rfl,zC rfl,zC rfl,zC rfl,zS rfl⟩)
 . obtain ⟨l1,l2⟩:=s.last hkn;have hkk:=s.hk;have w6 : IntKind.i64.wrap ((0 : Int) + 1) = ((0 + 1 : Nat) : Int):=rfl;repeat' (first | (apply And.intro<;>intro hc<;>(first | exact Bool.noConfusion hc | (exfalso;first | exact absurd rfl hc | omega) | (simp only [zg] at hc<;>first | exact absurd rfl hc | (exfalso;first | exact absurd rfl hc | omega) | skip) | skip)) | (refine And.intro ze ?_) | (apply And.intro) | (intro s hs;skip) | (refine Exists.intro _ (And.intro ⟨rfl,rfl,rfl⟩ ?_)))
   conv=>whnf
   refine ⟨s',[],by show M0.length - s'.i < _;rw [f4];omega,rfl,⟨zA rfl,zA rfl,zE (zD rfl (by rw [f1,List.length_set])),zE (zD rfl (by rw [f2,l2])),zA (by rw [f3];omega),zA rfl,zA (by rw [f4];rfl),trivial⟩,⟨⟨rfl,⟨rfl,by show _ = s'.M.length;rw [f1,List.length_set];rfl,rfl,rfl,λp hp j hj=>?_⟩⟩,⟨rfl,zF (by rw [f1,qH hiM];exact l1)⟩,⟨rfl,zF (by rw [f1];exact congrArg Sed.held (zJ (by decide)).symm)⟩,⟨rfl,zF (by rw [f1];exact congrArg Sed.held (zJ (by decide)).symm)⟩,⟨rfl,zF (by rw [f1];exact congrArg Sed.held (zJ (by decide)).symm)⟩,⟨rfl,zF (by rw [f1];exact congrArg Sed.held (zJ (by decide)).symm)⟩,⟨rfl,zF (by rw [f1];exact congrArg Sed.held (zJ (by decide)).symm)⟩,⟨rfl,zF (by rw [f1];exact congrArg Sed.held (zJ (by decide)).symm)⟩,⟨rfl,zF (by rw [f1];exact congrArg Sed.held (zJ (by decide)).symm)⟩,⟨rfl,QU (by rw [f2,l2])⟩,trivial⟩⟩;have hp : p < M.length:=hp;have hj : j < 3:=hj;show ZX _ (ZT 2 M p j) (ZT 2 s'.M p j);rw [f1];rcases (show p = 0 \/ p = 1 \/ p = 2 \/ p = 3 \/ p = 4 \/ p = 5 \/ p = 6 \/ p = 7 by omega) with rfl | rfl | rfl | rfl | rfl | rfl | rfl | rfl;all_goals first
    | exact ZG hj (by decide) rfl rfl
    | skip
   refine ZH hiM ?_;rcases j with _ | _ | _ | j
   . exact zC rfl
   . exact zC rfl
   . exact zD rfl qu.symm
   . omega
theorem rs2_1 (M0 : List Sed) (now draw : Int) (hm : ∀ s ∈ M0,SdOk s) (h8 : M0.length <= 8) (hd : ZM draw) (ht : 0 <= now /\ now <= 1099511627776) (s : StI M0 now draw) (hi : s.i = 1) (hil : s.i < M0.length) (K : Kt) :
 Zs T (Zt LRs) 1 Try.f46.ntmps 0 (Zz (ZK 7 (Try.f46.body.getD Code.ret))) (SR2 M0 now draw s).fr (SR2 M0 now draw s).H (SR2 M0 now draw s).nx (QY (λfr H _=>Qz (SR2 M0 now draw) (λs=>M0.length - s.i) 0 (M0.length - s.i) fr H) K):=by
 have hS : SdOk (M0.getD s.i default):=hm _ (zj hil);obtain ⟨s',es'⟩ : ∃ s',s.next hil hS.n = s':=⟨_,rfl⟩;have f1 : s'.M = s.M.set s.i { M0.getD s.i default with held:=(qe (M0.getD s.i default).id now draw (M0.getD s.i default).held s.b).1 }:=by rw [<- es'];rfl
 have f2 : s'.Z = s.Z ++ (qe (M0.getD s.i default).id now draw (M0.getD s.i default).held s.b).2:=by rw [<- es'];rfl
 have f3 : s'.b = s.b + (M0.getD s.i default).held.length:=by rw [<- es'];rfl
 have f4 : s'.i = s.i + 1:=by rw [<- es'];rfl
 clear es';obtain ⟨i,M,Z,b,hn,hi0,hb,hz,h2,r1,r2⟩:=s;dsimp only at hi hil hS f1 f2 f3 f4;subst hi;have hiM : 1 < M.length:=by omega
 have e0:=h2 1 (Nat.le_refl _);rw [<- e0] at hS f1 f2 f3;have hk:=hS.n;unfold SR2;dsimp only;clear h2 r1 r2 e0;repeat' (first | (apply And.intro<;>intro hc<;>(first | exact Bool.noConfusion hc | (exfalso;first | exact absurd rfl hc | omega) | (simp only [zg] at hc<;>first | exact absurd rfl hc | (exfalso;first | exact absurd rfl hc | omega) | skip) | skip)) | (refine And.intro ze ?_) | (apply And.intro) | (intro s hs;skip) | (refine Exists.intro _ (And.intro ⟨rfl,rfl,rfl⟩ ?_)))
 conv=>whnf
 refine zQ (zT qr) (λs : InI (M.getD 1 default).held (M.getD 1 default).id now draw b Z=>(⟨[(1,zO (.int .i64 now)),(2,zO (.int .u32 draw)),(9,zO (.os 1 0 M.length)),(10,zO (.os 10 0 s.Z.length)),(11,zO (.int .u32 ((b + s.k : Nat) : Int))),(64,zO (.int .i64 (M0.length : Int))),(65,zO (.int .i64 ((1 : Nat) : Int))),(16,zO (.int .i64 ((1 : Nat) : Int))),(73,zO (.int .i64 ((M.getD 1 default).held.length : Int))),(74,zO (.int .i64 (s.k : Int)))],[(1,some (qt 2 M.length M)),(2,some (zV (M.getD 0 default).held)),(3,some (zV s.H)),(4,some (zV (M.getD 2 default).held)),(5,some (zV (M.getD 3 default).held)),(6,some (zV (M.getD 4 default).held)),(7,some (zV (M.getD 5 default).held)),(8,some (zV (M.getD 6 default).held)),(9,some (zV (M.getD 7 default).held)),(10,some (ZL Zr 32 s.Z))],11⟩ : Hd)) (λs=>(M.getD 1 default).held.length - s.k) (λ_=>rfl) ?_ (InI.start _ _ _ _ _ _) [] ⟨rfl,⟨zA rfl,zA rfl,zE (zD rfl rfl),zE (zD rfl rfl),zA rfl,zA rfl,zA rfl,zA rfl,zA rfl,zA rfl,trivial⟩,⟨⟨rfl,zP (by omega) (qF rfl rfl rfl rfl rfl rfl rfl rfl)⟩,⟨rfl,zB⟩,⟨rfl,zB⟩,⟨rfl,zB⟩,⟨rfl,zB⟩,⟨rfl,zB⟩,⟨rfl,zB⟩,⟨rfl,zB⟩,⟨rfl,zB⟩,⟨rfl,zB⟩,trivial⟩⟩;intro s;by_cases hkn : s.k < (M.getD 1 default).held.length
 . have w4 : IntKind.i64.wrap ((s.k : Int) + 1) = ((s.k + 1 : Nat) : Int):=(IntWalk.i64_in _ (by omega)).trans (by omega);have w5 : IntKind.u32.wrap (((b + s.k : Nat) : Int) + 1) = ((b + (s.k + 1) : Nat) : Int):=(IntWalk.u32_in _ (by omega)).trans (by omega);have z0 : 0 + (s.k : Int).toNat = s.k:=Nat.zero_add s.k;have eh:=s.h2 s.k (Nat.le_refl _);have hl:=s.n;have hzz:=s.hz;have bk : Nat.beq s.k s.k = true:=Nat.beq_refl _;have hx:=QD hS (zj hkn);rw [<- eh] at hx;have hxd:=hx.d;have hxt:=hx.t;obtain ⟨T,eT⟩ : ∃ T,qK (s.H.getD s.k default).tm now (IntKind.u32.wrap (draw + ((b + s.k : Nat) : Int))) = T:=⟨_,rfl⟩;have hTe:=zAD hxt ht eT;repeat' (first | (simp only [z0,w4,w5,bk,Bool.cond_true]) | (apply And.intro<;>intro hc<;>(first | exact Bool.noConfusion hc | (exfalso;first | exact absurd rfl hc | omega) | (simp only [zg] at hc<;>first | exact absurd rfl hc | (exfalso;first | exact absurd rfl hc | omega) | skip) | skip)) | (refine And.intro ze ?_) | (apply And.intro) | (intro s hs;(have q : T = s:=eT.symm.trans hs.symm;clear hs;subst q)) | (refine Exists.intro _ (And.intro ⟨rfl,rfl,rfl⟩ ?_)))
   . exact hc
   . exact (QI _).1
   . exact (QI _).2
   . conv=>whnf
     exact ⟨s.next hkn s.H s.Z (by rw [<- eh,qT (λg=>absurd (hTe.2 g) hc)];exact qi (by rw [hl];exact hkn)) (by rw [<- eh,qT (λg=>absurd (hTe.2 g) hc)];exact List.append_nil _),[],by dsimp only [InI.next];omega,rfl,⟨zA rfl,zA rfl,zE (zD rfl rfl),zE (zD rfl rfl),zA rfl,zA rfl,zA rfl,zA rfl,zA rfl,zA w4,trivial⟩,⟨⟨rfl,zP (by omega) (qF rfl rfl rfl rfl rfl rfl rfl rfl)⟩,⟨rfl,zB⟩,⟨rfl,zB⟩,⟨rfl,zB⟩,⟨rfl,zB⟩,⟨rfl,zB⟩,⟨rfl,zB⟩,⟨rfl,zB⟩,⟨rfl,zB⟩,⟨rfl,zB⟩,trivial⟩⟩
   . conv=>whnf
     refine ⟨s.next hkn (s.H.set s.k { s.H.getD s.k default with tm:=T.1 }) (s.Z ++ [⟨(M.getD 1 default).id,(s.H.getD s.k default).num,(s.H.getD s.k default).data⟩]) (by rw [<- eh,ZB (hTe.1 ‹_›) eT]) (by rw [<- eh,ZB (hTe.1 ‹_›) eT,if_pos hc]),[(10,some 67)],by dsimp only [InI.next];omega,rfl,⟨zA rfl,zA rfl,zE (zD rfl rfl),zE (zD rfl (by show _ = (s.Z ++ [_]).length;rw [List.length_append];rfl)),zA rfl,zA rfl,zA rfl,zA rfl,zA rfl,zA w4,trivial⟩,⟨⟨rfl,zP (by omega) (qF rfl rfl rfl rfl rfl rfl rfl rfl)⟩,⟨rfl,zB⟩,⟨rfl,ZY ?_⟩,⟨rfl,zB⟩,⟨rfl,zB⟩,⟨rfl,zB⟩,⟨rfl,zB⟩,⟨rfl,zB⟩,⟨rfl,zB⟩,⟨rfl,?_⟩,trivial⟩⟩
     . exact ZJ (by rw [hl];exact hkn) (YR ⟨zC rfl,zC rfl,zC rfl,zC rfl,zC rfl,zC rfl,zC rfl,zS rfl⟩)
     . refine qP λj hj=>?_;rcases j with _ | _ | _ | j
       . exact zC rfl
       . exact zC rfl
       . refine zy rfl rfl rfl rfl (Nat.le_of_eq (Nat.zero_add _)) λq hq j hj=>?_;show ZX _ (qC eB (s.H.getD s.k default).data (0 + q) j) (qC eB (s.H.getD s.k default).data q j);exact zC (congrArg (λz=>(s.H.getD s.k default).data.getD z default) (Nat.zero_add q))
       . omega
   . conv=>whnf
     refine ⟨s.next hkn (s.H.set s.k { s.H.getD s.k default with tm:=T.1 }) s.Z (by rw [<- eh,ZB (hTe.1 ‹_›) eT]) (by rw [<- eh,ZB (hTe.1 ‹_›) eT,if_neg (by rw [hc];simp)];exact List.append_nil _),[],by dsimp only [InI.next];omega,rfl,⟨zA rfl,zA rfl,zE (zD rfl rfl),zE (zD rfl rfl),zA rfl,zA rfl,zA rfl,zA rfl,zA rfl,zA w4,trivial⟩,⟨⟨rfl,zP (by omega) (qF rfl rfl rfl rfl rfl rfl rfl rfl)⟩,⟨rfl,zB⟩,⟨rfl,ZY ?_⟩,⟨rfl,zB⟩,⟨rfl,zB⟩,⟨rfl,zB⟩,⟨rfl,zB⟩,⟨rfl,zB⟩,⟨rfl,zB⟩,⟨rfl,zB⟩,trivial⟩⟩;exact ZJ (by rw [hl];exact hkn) (YR ⟨zC rfl,zC rfl,zC rfl,zC rfl,zC rfl,zC rfl,zC rfl,zS rfl⟩)
 . obtain ⟨l1,l2⟩:=s.last hkn;have hkk:=s.hk;have w6 : IntKind.i64.wrap ((1 : Int) + 1) = ((1 + 1 : Nat) : Int):=rfl;repeat' (first | (apply And.intro<;>intro hc<;>(first | exact Bool.noConfusion hc | (exfalso;first | exact absurd rfl hc | omega) | (simp only [zg] at hc<;>first | exact absurd rfl hc | (exfalso;first | exact absurd rfl hc | omega) | skip) | skip)) | (refine And.intro ze ?_) | (apply And.intro) | (intro s hs;skip) | (refine Exists.intro _ (And.intro ⟨rfl,rfl,rfl⟩ ?_)))
   conv=>whnf
   refine ⟨s',[],by show M0.length - s'.i < _;rw [f4];omega,rfl,⟨zA rfl,zA rfl,zE (zD rfl (by rw [f1,List.length_set])),zE (zD rfl (by rw [f2,l2])),zA (by rw [f3];omega),zA rfl,zA (by rw [f4];rfl),trivial⟩,⟨⟨rfl,⟨rfl,by show _ = s'.M.length;rw [f1,List.length_set];rfl,rfl,rfl,λp hp j hj=>?_⟩⟩,⟨rfl,zF (by rw [f1];exact congrArg Sed.held (zJ (by decide)).symm)⟩,⟨rfl,zF (by rw [f1,qH hiM];exact l1)⟩,⟨rfl,zF (by rw [f1];exact congrArg Sed.held (zJ (by decide)).symm)⟩,⟨rfl,zF (by rw [f1];exact congrArg Sed.held (zJ (by decide)).symm)⟩,⟨rfl,zF (by rw [f1];exact congrArg Sed.held (zJ (by decide)).symm)⟩,⟨rfl,zF (by rw [f1];exact congrArg Sed.held (zJ (by decide)).symm)⟩,⟨rfl,zF (by rw [f1];exact congrArg Sed.held (zJ (by decide)).symm)⟩,⟨rfl,zF (by rw [f1];exact congrArg Sed.held (zJ (by decide)).symm)⟩,⟨rfl,QU (by rw [f2,l2])⟩,trivial⟩⟩;have hp : p < M.length:=hp;have hj : j < 3:=hj;show ZX _ (ZT 2 M p j) (ZT 2 s'.M p j);rw [f1];rcases (show p = 0 \/ p = 1 \/ p = 2 \/ p = 3 \/ p = 4 \/ p = 5 \/ p = 6 \/ p = 7 by omega) with rfl | rfl | rfl | rfl | rfl | rfl | rfl | rfl;all_goals first
    | exact ZG hj (by decide) rfl rfl
    | skip
   refine ZH hiM ?_;rcases j with _ | _ | _ | j
   . exact zC rfl
   . exact zC rfl
   . exact zD rfl qu.symm
   . omega
theorem rs2_2 (M0 : List Sed) (now draw : Int) (hm : ∀ s ∈ M0,SdOk s) (h8 : M0.length <= 8) (hd : ZM draw) (ht : 0 <= now /\ now <= 1099511627776) (s : StI M0 now draw) (hi : s.i = 2) (hil : s.i < M0.length) (K : Kt) :
 Zs T (Zt LRs) 1 Try.f46.ntmps 0 (Zz (ZK 7 (Try.f46.body.getD Code.ret))) (SR2 M0 now draw s).fr (SR2 M0 now draw s).H (SR2 M0 now draw s).nx (QY (λfr H _=>Qz (SR2 M0 now draw) (λs=>M0.length - s.i) 0 (M0.length - s.i) fr H) K):=by
 have hS : SdOk (M0.getD s.i default):=hm _ (zj hil);obtain ⟨s',es'⟩ : ∃ s',s.next hil hS.n = s':=⟨_,rfl⟩;have f1 : s'.M = s.M.set s.i { M0.getD s.i default with held:=(qe (M0.getD s.i default).id now draw (M0.getD s.i default).held s.b).1 }:=by rw [<- es'];rfl
 have f2 : s'.Z = s.Z ++ (qe (M0.getD s.i default).id now draw (M0.getD s.i default).held s.b).2:=by rw [<- es'];rfl
 have f3 : s'.b = s.b + (M0.getD s.i default).held.length:=by rw [<- es'];rfl
 have f4 : s'.i = s.i + 1:=by rw [<- es'];rfl
 clear es';obtain ⟨i,M,Z,b,hn,hi0,hb,hz,h2,r1,r2⟩:=s;dsimp only at hi hil hS f1 f2 f3 f4;subst hi;have hiM : 2 < M.length:=by omega
 have e0:=h2 2 (Nat.le_refl _);rw [<- e0] at hS f1 f2 f3;have hk:=hS.n;unfold SR2;dsimp only;clear h2 r1 r2 e0;repeat' (first | (apply And.intro<;>intro hc<;>(first | exact Bool.noConfusion hc | (exfalso;first | exact absurd rfl hc | omega) | (simp only [zg] at hc<;>first | exact absurd rfl hc | (exfalso;first | exact absurd rfl hc | omega) | skip) | skip)) | (refine And.intro ze ?_) | (apply And.intro) | (intro s hs;skip) | (refine Exists.intro _ (And.intro ⟨rfl,rfl,rfl⟩ ?_)))
 conv=>whnf
 refine zQ (zT qr) (λs : InI (M.getD 2 default).held (M.getD 2 default).id now draw b Z=>(⟨[(1,zO (.int .i64 now)),(2,zO (.int .u32 draw)),(9,zO (.os 1 0 M.length)),(10,zO (.os 10 0 s.Z.length)),(11,zO (.int .u32 ((b + s.k : Nat) : Int))),(64,zO (.int .i64 (M0.length : Int))),(65,zO (.int .i64 ((2 : Nat) : Int))),(16,zO (.int .i64 ((2 : Nat) : Int))),(73,zO (.int .i64 ((M.getD 2 default).held.length : Int))),(74,zO (.int .i64 (s.k : Int)))],[(1,some (qt 2 M.length M)),(2,some (zV (M.getD 0 default).held)),(3,some (zV (M.getD 1 default).held)),(4,some (zV s.H)),(5,some (zV (M.getD 3 default).held)),(6,some (zV (M.getD 4 default).held)),(7,some (zV (M.getD 5 default).held)),(8,some (zV (M.getD 6 default).held)),(9,some (zV (M.getD 7 default).held)),(10,some (ZL Zr 32 s.Z))],11⟩ : Hd)) (λs=>(M.getD 2 default).held.length - s.k) (λ_=>rfl) ?_ (InI.start _ _ _ _ _ _) [] ⟨rfl,⟨zA rfl,zA rfl,zE (zD rfl rfl),zE (zD rfl rfl),zA rfl,zA rfl,zA rfl,zA rfl,zA rfl,zA rfl,trivial⟩,⟨⟨rfl,zP (by omega) (qF rfl rfl rfl rfl rfl rfl rfl rfl)⟩,⟨rfl,zB⟩,⟨rfl,zB⟩,⟨rfl,zB⟩,⟨rfl,zB⟩,⟨rfl,zB⟩,⟨rfl,zB⟩,⟨rfl,zB⟩,⟨rfl,zB⟩,⟨rfl,zB⟩,trivial⟩⟩;intro s;by_cases hkn : s.k < (M.getD 2 default).held.length
 . have w4 : IntKind.i64.wrap ((s.k : Int) + 1) = ((s.k + 1 : Nat) : Int):=(IntWalk.i64_in _ (by omega)).trans (by omega);have w5 : IntKind.u32.wrap (((b + s.k : Nat) : Int) + 1) = ((b + (s.k + 1) : Nat) : Int):=(IntWalk.u32_in _ (by omega)).trans (by omega);have z0 : 0 + (s.k : Int).toNat = s.k:=Nat.zero_add s.k;have eh:=s.h2 s.k (Nat.le_refl _);have hl:=s.n;have hzz:=s.hz;have bk : Nat.beq s.k s.k = true:=Nat.beq_refl _;have hx:=QD hS (zj hkn);rw [<- eh] at hx;have hxd:=hx.d;have hxt:=hx.t;obtain ⟨T,eT⟩ : ∃ T,qK (s.H.getD s.k default).tm now (IntKind.u32.wrap (draw + ((b + s.k : Nat) : Int))) = T:=⟨_,rfl⟩;have hTe:=zAD hxt ht eT;repeat' (first | (simp only [z0,w4,w5,bk,Bool.cond_true]) | (apply And.intro<;>intro hc<;>(first | exact Bool.noConfusion hc | (exfalso;first | exact absurd rfl hc | omega) | (simp only [zg] at hc<;>first | exact absurd rfl hc | (exfalso;first | exact absurd rfl hc | omega) | skip) | skip)) | (refine And.intro ze ?_) | (apply And.intro) | (intro s hs;(have q : T = s:=eT.symm.trans hs.symm;clear hs;subst q)) | (refine Exists.intro _ (And.intro ⟨rfl,rfl,rfl⟩ ?_)))
   . exact hc
   . exact (QI _).1
   . exact (QI _).2
   . conv=>whnf
     exact ⟨s.next hkn s.H s.Z (by rw [<- eh,qT (λg=>absurd (hTe.2 g) hc)];exact qi (by rw [hl];exact hkn)) (by rw [<- eh,qT (λg=>absurd (hTe.2 g) hc)];exact List.append_nil _),[],by dsimp only [InI.next];omega,rfl,⟨zA rfl,zA rfl,zE (zD rfl rfl),zE (zD rfl rfl),zA rfl,zA rfl,zA rfl,zA rfl,zA rfl,zA w4,trivial⟩,⟨⟨rfl,zP (by omega) (qF rfl rfl rfl rfl rfl rfl rfl rfl)⟩,⟨rfl,zB⟩,⟨rfl,zB⟩,⟨rfl,zB⟩,⟨rfl,zB⟩,⟨rfl,zB⟩,⟨rfl,zB⟩,⟨rfl,zB⟩,⟨rfl,zB⟩,⟨rfl,zB⟩,trivial⟩⟩
   . conv=>whnf
     refine ⟨s.next hkn (s.H.set s.k { s.H.getD s.k default with tm:=T.1 }) (s.Z ++ [⟨(M.getD 2 default).id,(s.H.getD s.k default).num,(s.H.getD s.k default).data⟩]) (by rw [<- eh,ZB (hTe.1 ‹_›) eT]) (by rw [<- eh,ZB (hTe.1 ‹_›) eT,if_pos hc]),[(10,some 67)],by dsimp only [InI.next];omega,rfl,⟨zA rfl,zA rfl,zE (zD rfl rfl),zE (zD rfl (by show _ = (s.Z ++ [_]).length;rw [List.length_append];rfl)),zA rfl,zA rfl,zA rfl,zA rfl,zA rfl,zA w4,trivial⟩,⟨⟨rfl,zP (by omega) (qF rfl rfl rfl rfl rfl rfl rfl rfl)⟩,⟨rfl,zB⟩,⟨rfl,zB⟩,⟨rfl,ZY ?_⟩,⟨rfl,zB⟩,⟨rfl,zB⟩,⟨rfl,zB⟩,⟨rfl,zB⟩,⟨rfl,zB⟩,⟨rfl,?_⟩,trivial⟩⟩
     . exact ZJ (by rw [hl];exact hkn) (YR ⟨zC rfl,zC rfl,zC rfl,zC rfl,zC rfl,zC rfl,zC rfl,zS rfl⟩)
     . refine qP λj hj=>?_;rcases j with _ | _ | _ | j
       . exact zC rfl
       . exact zC rfl
       . refine zy rfl rfl rfl rfl (Nat.le_of_eq (Nat.zero_add _)) λq hq j hj=>?_;show ZX _ (qC eB (s.H.getD s.k default).data (0 + q) j) (qC eB (s.H.getD s.k default).data q j);exact zC (congrArg (λz=>(s.H.getD s.k default).data.getD z default) (Nat.zero_add q))
       . omega
   . conv=>whnf
     refine ⟨s.next hkn (s.H.set s.k { s.H.getD s.k default with tm:=T.1 }) s.Z (by rw [<- eh,ZB (hTe.1 ‹_›) eT]) (by rw [<- eh,ZB (hTe.1 ‹_›) eT,if_neg (by rw [hc];simp)];exact List.append_nil _),[],by dsimp only [InI.next];omega,rfl,⟨zA rfl,zA rfl,zE (zD rfl rfl),zE (zD rfl rfl),zA rfl,zA rfl,zA rfl,zA rfl,zA rfl,zA w4,trivial⟩,⟨⟨rfl,zP (by omega) (qF rfl rfl rfl rfl rfl rfl rfl rfl)⟩,⟨rfl,zB⟩,⟨rfl,zB⟩,⟨rfl,ZY ?_⟩,⟨rfl,zB⟩,⟨rfl,zB⟩,⟨rfl,zB⟩,⟨rfl,zB⟩,⟨rfl,zB⟩,⟨rfl,zB⟩,trivial⟩⟩;exact ZJ (by rw [hl];exact hkn) (YR ⟨zC rfl,zC rfl,zC rfl,zC rfl,zC rfl,zC rfl,zC rfl,zS rfl⟩)
 . obtain ⟨l1,l2⟩:=s.last hkn;have hkk:=s.hk;have w6 : IntKind.i64.wrap ((2 : Int) + 1) = ((2 + 1 : Nat) : Int):=rfl;repeat' (first | (apply And.intro<;>intro hc<;>(first | exact Bool.noConfusion hc | (exfalso;first | exact absurd rfl hc | omega) | (simp only [zg] at hc<;>first | exact absurd rfl hc | (exfalso;first | exact absurd rfl hc | omega) | skip) | skip)) | (refine And.intro ze ?_) | (apply And.intro) | (intro s hs;skip) | (refine Exists.intro _ (And.intro ⟨rfl,rfl,rfl⟩ ?_)))
   conv=>whnf
   refine ⟨s',[],by show M0.length - s'.i < _;rw [f4];omega,rfl,⟨zA rfl,zA rfl,zE (zD rfl (by rw [f1,List.length_set])),zE (zD rfl (by rw [f2,l2])),zA (by rw [f3];omega),zA rfl,zA (by rw [f4];rfl),trivial⟩,⟨⟨rfl,⟨rfl,by show _ = s'.M.length;rw [f1,List.length_set];rfl,rfl,rfl,λp hp j hj=>?_⟩⟩,⟨rfl,zF (by rw [f1];exact congrArg Sed.held (zJ (by decide)).symm)⟩,⟨rfl,zF (by rw [f1];exact congrArg Sed.held (zJ (by decide)).symm)⟩,⟨rfl,zF (by rw [f1,qH hiM];exact l1)⟩,⟨rfl,zF (by rw [f1];exact congrArg Sed.held (zJ (by decide)).symm)⟩,⟨rfl,zF (by rw [f1];exact congrArg Sed.held (zJ (by decide)).symm)⟩,⟨rfl,zF (by rw [f1];exact congrArg Sed.held (zJ (by decide)).symm)⟩,⟨rfl,zF (by rw [f1];exact congrArg Sed.held (zJ (by decide)).symm)⟩,⟨rfl,zF (by rw [f1];exact congrArg Sed.held (zJ (by decide)).symm)⟩,⟨rfl,QU (by rw [f2,l2])⟩,trivial⟩⟩;have hp : p < M.length:=hp;have hj : j < 3:=hj;show ZX _ (ZT 2 M p j) (ZT 2 s'.M p j);rw [f1];rcases (show p = 0 \/ p = 1 \/ p = 2 \/ p = 3 \/ p = 4 \/ p = 5 \/ p = 6 \/ p = 7 by omega) with rfl | rfl | rfl | rfl | rfl | rfl | rfl | rfl;all_goals first
    | exact ZG hj (by decide) rfl rfl
    | skip
   refine ZH hiM ?_;rcases j with _ | _ | _ | j
   . exact zC rfl
   . exact zC rfl
   . exact zD rfl qu.symm
   . omega
theorem rs2_3 (M0 : List Sed) (now draw : Int) (hm : ∀ s ∈ M0,SdOk s) (h8 : M0.length <= 8) (hd : ZM draw) (ht : 0 <= now /\ now <= 1099511627776) (s : StI M0 now draw) (hi : s.i = 3) (hil : s.i < M0.length) (K : Kt) :
 Zs T (Zt LRs) 1 Try.f46.ntmps 0 (Zz (ZK 7 (Try.f46.body.getD Code.ret))) (SR2 M0 now draw s).fr (SR2 M0 now draw s).H (SR2 M0 now draw s).nx (QY (λfr H _=>Qz (SR2 M0 now draw) (λs=>M0.length - s.i) 0 (M0.length - s.i) fr H) K):=by
 have hS : SdOk (M0.getD s.i default):=hm _ (zj hil);obtain ⟨s',es'⟩ : ∃ s',s.next hil hS.n = s':=⟨_,rfl⟩;have f1 : s'.M = s.M.set s.i { M0.getD s.i default with held:=(qe (M0.getD s.i default).id now draw (M0.getD s.i default).held s.b).1 }:=by rw [<- es'];rfl
 have f2 : s'.Z = s.Z ++ (qe (M0.getD s.i default).id now draw (M0.getD s.i default).held s.b).2:=by rw [<- es'];rfl
 have f3 : s'.b = s.b + (M0.getD s.i default).held.length:=by rw [<- es'];rfl
 have f4 : s'.i = s.i + 1:=by rw [<- es'];rfl
 clear es';obtain ⟨i,M,Z,b,hn,hi0,hb,hz,h2,r1,r2⟩:=s;dsimp only at hi hil hS f1 f2 f3 f4;subst hi;have hiM : 3 < M.length:=by omega
 have e0:=h2 3 (Nat.le_refl _);rw [<- e0] at hS f1 f2 f3;have hk:=hS.n;unfold SR2;dsimp only;clear h2 r1 r2 e0;repeat' (first | (apply And.intro<;>intro hc<;>(first | exact Bool.noConfusion hc | (exfalso;first | exact absurd rfl hc | omega) | (simp only [zg] at hc<;>first | exact absurd rfl hc | (exfalso;first | exact absurd rfl hc | omega) | skip) | skip)) | (refine And.intro ze ?_) | (apply And.intro) | (intro s hs;skip) | (refine Exists.intro _ (And.intro ⟨rfl,rfl,rfl⟩ ?_)))
 conv=>whnf
 refine zQ (zT qr) (λs : InI (M.getD 3 default).held (M.getD 3 default).id now draw b Z=>(⟨[(1,zO (.int .i64 now)),(2,zO (.int .u32 draw)),(9,zO (.os 1 0 M.length)),(10,zO (.os 10 0 s.Z.length)),(11,zO (.int .u32 ((b + s.k : Nat) : Int))),(64,zO (.int .i64 (M0.length : Int))),(65,zO (.int .i64 ((3 : Nat) : Int))),(16,zO (.int .i64 ((3 : Nat) : Int))),(73,zO (.int .i64 ((M.getD 3 default).held.length : Int))),(74,zO (.int .i64 (s.k : Int)))],[(1,some (qt 2 M.length M)),(2,some (zV (M.getD 0 default).held)),(3,some (zV (M.getD 1 default).held)),(4,some (zV (M.getD 2 default).held)),(5,some (zV s.H)),(6,some (zV (M.getD 4 default).held)),(7,some (zV (M.getD 5 default).held)),(8,some (zV (M.getD 6 default).held)),(9,some (zV (M.getD 7 default).held)),(10,some (ZL Zr 32 s.Z))],11⟩ : Hd)) (λs=>(M.getD 3 default).held.length - s.k) (λ_=>rfl) ?_ (InI.start _ _ _ _ _ _) [] ⟨rfl,⟨zA rfl,zA rfl,zE (zD rfl rfl),zE (zD rfl rfl),zA rfl,zA rfl,zA rfl,zA rfl,zA rfl,zA rfl,trivial⟩,⟨⟨rfl,zP (by omega) (qF rfl rfl rfl rfl rfl rfl rfl rfl)⟩,⟨rfl,zB⟩,⟨rfl,zB⟩,⟨rfl,zB⟩,⟨rfl,zB⟩,⟨rfl,zB⟩,⟨rfl,zB⟩,⟨rfl,zB⟩,⟨rfl,zB⟩,⟨rfl,zB⟩,trivial⟩⟩;intro s;by_cases hkn : s.k < (M.getD 3 default).held.length
 . have w4 : IntKind.i64.wrap ((s.k : Int) + 1) = ((s.k + 1 : Nat) : Int):=(IntWalk.i64_in _ (by omega)).trans (by omega);have w5 : IntKind.u32.wrap (((b + s.k : Nat) : Int) + 1) = ((b + (s.k + 1) : Nat) : Int):=(IntWalk.u32_in _ (by omega)).trans (by omega);have z0 : 0 + (s.k : Int).toNat = s.k:=Nat.zero_add s.k;have eh:=s.h2 s.k (Nat.le_refl _);have hl:=s.n;have hzz:=s.hz;have bk : Nat.beq s.k s.k = true:=Nat.beq_refl _;have hx:=QD hS (zj hkn);rw [<- eh] at hx;have hxd:=hx.d;have hxt:=hx.t;obtain ⟨T,eT⟩ : ∃ T,qK (s.H.getD s.k default).tm now (IntKind.u32.wrap (draw + ((b + s.k : Nat) : Int))) = T:=⟨_,rfl⟩;have hTe:=zAD hxt ht eT;repeat' (first | (simp only [z0,w4,w5,bk,Bool.cond_true]) | (apply And.intro<;>intro hc<;>(first | exact Bool.noConfusion hc | (exfalso;first | exact absurd rfl hc | omega) | (simp only [zg] at hc<;>first | exact absurd rfl hc | (exfalso;first | exact absurd rfl hc | omega) | skip) | skip)) | (refine And.intro ze ?_) | (apply And.intro) | (intro s hs;(have q : T = s:=eT.symm.trans hs.symm;clear hs;subst q)) | (refine Exists.intro _ (And.intro ⟨rfl,rfl,rfl⟩ ?_)))
   . exact hc
   . exact (QI _).1
   . exact (QI _).2
   . conv=>whnf
     exact ⟨s.next hkn s.H s.Z (by rw [<- eh,qT (λg=>absurd (hTe.2 g) hc)];exact qi (by rw [hl];exact hkn)) (by rw [<- eh,qT (λg=>absurd (hTe.2 g) hc)];exact List.append_nil _),[],by dsimp only [InI.next];omega,rfl,⟨zA rfl,zA rfl,zE (zD rfl rfl),zE (zD rfl rfl),zA rfl,zA rfl,zA rfl,zA rfl,zA rfl,zA w4,trivial⟩,⟨⟨rfl,zP (by omega) (qF rfl rfl rfl rfl rfl rfl rfl rfl)⟩,⟨rfl,zB⟩,⟨rfl,zB⟩,⟨rfl,zB⟩,⟨rfl,zB⟩,⟨rfl,zB⟩,⟨rfl,zB⟩,⟨rfl,zB⟩,⟨rfl,zB⟩,⟨rfl,zB⟩,trivial⟩⟩
   . conv=>whnf
     refine ⟨s.next hkn (s.H.set s.k { s.H.getD s.k default with tm:=T.1 }) (s.Z ++ [⟨(M.getD 3 default).id,(s.H.getD s.k default).num,(s.H.getD s.k default).data⟩]) (by rw [<- eh,ZB (hTe.1 ‹_›) eT]) (by rw [<- eh,ZB (hTe.1 ‹_›) eT,if_pos hc]),[(10,some 67)],by dsimp only [InI.next];omega,rfl,⟨zA rfl,zA rfl,zE (zD rfl rfl),zE (zD rfl (by show _ = (s.Z ++ [_]).length;rw [List.length_append];rfl)),zA rfl,zA rfl,zA rfl,zA rfl,zA rfl,zA w4,trivial⟩,⟨⟨rfl,zP (by omega) (qF rfl rfl rfl rfl rfl rfl rfl rfl)⟩,⟨rfl,zB⟩,⟨rfl,zB⟩,⟨rfl,zB⟩,⟨rfl,ZY ?_⟩,⟨rfl,zB⟩,⟨rfl,zB⟩,⟨rfl,zB⟩,⟨rfl,zB⟩,⟨rfl,?_⟩,trivial⟩⟩
     . exact ZJ (by rw [hl];exact hkn) (YR ⟨zC rfl,zC rfl,zC rfl,zC rfl,zC rfl,zC rfl,zC rfl,zS rfl⟩)
     . refine qP λj hj=>?_;rcases j with _ | _ | _ | j
       . exact zC rfl
       . exact zC rfl
       . refine zy rfl rfl rfl rfl (Nat.le_of_eq (Nat.zero_add _)) λq hq j hj=>?_;show ZX _ (qC eB (s.H.getD s.k default).data (0 + q) j) (qC eB (s.H.getD s.k default).data q j);exact zC (congrArg (λz=>(s.H.getD s.k default).data.getD z default) (Nat.zero_add q))
       . omega
   . conv=>whnf
     refine ⟨s.next hkn (s.H.set s.k { s.H.getD s.k default with tm:=T.1 }) s.Z (by rw [<- eh,ZB (hTe.1 ‹_›) eT]) (by rw [<- eh,ZB (hTe.1 ‹_›) eT,if_neg (by rw [hc];simp)];exact List.append_nil _),[],by dsimp only [InI.next];omega,rfl,⟨zA rfl,zA rfl,zE (zD rfl rfl),zE (zD rfl rfl),zA rfl,zA rfl,zA rfl,zA rfl,zA rfl,zA w4,trivial⟩,⟨⟨rfl,zP (by omega) (qF rfl rfl rfl rfl rfl rfl rfl rfl)⟩,⟨rfl,zB⟩,⟨rfl,zB⟩,⟨rfl,zB⟩,⟨rfl,ZY ?_⟩,⟨rfl,zB⟩,⟨rfl,zB⟩,⟨rfl,zB⟩,⟨rfl,zB⟩,⟨rfl,zB⟩,trivial⟩⟩;exact ZJ (by rw [hl];exact hkn) (YR ⟨zC rfl,zC rfl,zC rfl,zC rfl,zC rfl,zC rfl,zC rfl,zS rfl⟩)
 . obtain ⟨l1,l2⟩:=s.last hkn;have hkk:=s.hk;have w6 : IntKind.i64.wrap ((3 : Int) + 1) = ((3 + 1 : Nat) : Int):=rfl;repeat' (first | (apply And.intro<;>intro hc<;>(first | exact Bool.noConfusion hc | (exfalso;first | exact absurd rfl hc | omega) | (simp only [zg] at hc<;>first | exact absurd rfl hc | (exfalso;first | exact absurd rfl hc | omega) | skip) | skip)) | (refine And.intro ze ?_) | (apply And.intro) | (intro s hs;skip) | (refine Exists.intro _ (And.intro ⟨rfl,rfl,rfl⟩ ?_)))
   conv=>whnf
   refine ⟨s',[],by show M0.length - s'.i < _;rw [f4];omega,rfl,⟨zA rfl,zA rfl,zE (zD rfl (by rw [f1,List.length_set])),zE (zD rfl (by rw [f2,l2])),zA (by rw [f3];omega),zA rfl,zA (by rw [f4];rfl),trivial⟩,⟨⟨rfl,⟨rfl,by show _ = s'.M.length;rw [f1,List.length_set];rfl,rfl,rfl,λp hp j hj=>?_⟩⟩,⟨rfl,zF (by rw [f1];exact congrArg Sed.held (zJ (by decide)).symm)⟩,⟨rfl,zF (by rw [f1];exact congrArg Sed.held (zJ (by decide)).symm)⟩,⟨rfl,zF (by rw [f1];exact congrArg Sed.held (zJ (by decide)).symm)⟩,⟨rfl,zF (by rw [f1,qH hiM];exact l1)⟩,⟨rfl,zF (by rw [f1];exact congrArg Sed.held (zJ (by decide)).symm)⟩,⟨rfl,zF (by rw [f1];exact congrArg Sed.held (zJ (by decide)).symm)⟩,⟨rfl,zF (by rw [f1];exact congrArg Sed.held (zJ (by decide)).symm)⟩,⟨rfl,zF (by rw [f1];exact congrArg Sed.held (zJ (by decide)).symm)⟩,⟨rfl,QU (by rw [f2,l2])⟩,trivial⟩⟩;have hp : p < M.length:=hp;have hj : j < 3:=hj;show ZX _ (ZT 2 M p j) (ZT 2 s'.M p j);rw [f1];rcases (show p = 0 \/ p = 1 \/ p = 2 \/ p = 3 \/ p = 4 \/ p = 5 \/ p = 6 \/ p = 7 by omega) with rfl | rfl | rfl | rfl | rfl | rfl | rfl | rfl;all_goals first
    | exact ZG hj (by decide) rfl rfl
    | skip
   refine ZH hiM ?_;rcases j with _ | _ | _ | j
   . exact zC rfl
   . exact zC rfl
   . exact zD rfl qu.symm
   . omega
theorem rs2_4 (M0 : List Sed) (now draw : Int) (hm : ∀ s ∈ M0,SdOk s) (h8 : M0.length <= 8) (hd : ZM draw) (ht : 0 <= now /\ now <= 1099511627776) (s : StI M0 now draw) (hi : s.i = 4) (hil : s.i < M0.length) (K : Kt) :
 Zs T (Zt LRs) 1 Try.f46.ntmps 0 (Zz (ZK 7 (Try.f46.body.getD Code.ret))) (SR2 M0 now draw s).fr (SR2 M0 now draw s).H (SR2 M0 now draw s).nx (QY (λfr H _=>Qz (SR2 M0 now draw) (λs=>M0.length - s.i) 0 (M0.length - s.i) fr H) K):=by
 have hS : SdOk (M0.getD s.i default):=hm _ (zj hil);obtain ⟨s',es'⟩ : ∃ s',s.next hil hS.n = s':=⟨_,rfl⟩;have f1 : s'.M = s.M.set s.i { M0.getD s.i default with held:=(qe (M0.getD s.i default).id now draw (M0.getD s.i default).held s.b).1 }:=by rw [<- es'];rfl
 have f2 : s'.Z = s.Z ++ (qe (M0.getD s.i default).id now draw (M0.getD s.i default).held s.b).2:=by rw [<- es'];rfl
 have f3 : s'.b = s.b + (M0.getD s.i default).held.length:=by rw [<- es'];rfl
 have f4 : s'.i = s.i + 1:=by rw [<- es'];rfl
 clear es';obtain ⟨i,M,Z,b,hn,hi0,hb,hz,h2,r1,r2⟩:=s;dsimp only at hi hil hS f1 f2 f3 f4;subst hi;have hiM : 4 < M.length:=by omega
 have e0:=h2 4 (Nat.le_refl _);rw [<- e0] at hS f1 f2 f3;have hk:=hS.n;unfold SR2;dsimp only;clear h2 r1 r2 e0;repeat' (first | (apply And.intro<;>intro hc<;>(first | exact Bool.noConfusion hc | (exfalso;first | exact absurd rfl hc | omega) | (simp only [zg] at hc<;>first | exact absurd rfl hc | (exfalso;first | exact absurd rfl hc | omega) | skip) | skip)) | (refine And.intro ze ?_) | (apply And.intro) | (intro s hs;skip) | (refine Exists.intro _ (And.intro ⟨rfl,rfl,rfl⟩ ?_)))
 conv=>whnf
 refine zQ (zT qr) (λs : InI (M.getD 4 default).held (M.getD 4 default).id now draw b Z=>(⟨[(1,zO (.int .i64 now)),(2,zO (.int .u32 draw)),(9,zO (.os 1 0 M.length)),(10,zO (.os 10 0 s.Z.length)),(11,zO (.int .u32 ((b + s.k : Nat) : Int))),(64,zO (.int .i64 (M0.length : Int))),(65,zO (.int .i64 ((4 : Nat) : Int))),(16,zO (.int .i64 ((4 : Nat) : Int))),(73,zO (.int .i64 ((M.getD 4 default).held.length : Int))),(74,zO (.int .i64 (s.k : Int)))],[(1,some (qt 2 M.length M)),(2,some (zV (M.getD 0 default).held)),(3,some (zV (M.getD 1 default).held)),(4,some (zV (M.getD 2 default).held)),(5,some (zV (M.getD 3 default).held)),(6,some (zV s.H)),(7,some (zV (M.getD 5 default).held)),(8,some (zV (M.getD 6 default).held)),(9,some (zV (M.getD 7 default).held)),(10,some (ZL Zr 32 s.Z))],11⟩ : Hd)) (λs=>(M.getD 4 default).held.length - s.k) (λ_=>rfl) ?_ (InI.start _ _ _ _ _ _) [] ⟨rfl,⟨zA rfl,zA rfl,zE (zD rfl rfl),zE (zD rfl rfl),zA rfl,zA rfl,zA rfl,zA rfl,zA rfl,zA rfl,trivial⟩,⟨⟨rfl,zP (by omega) (qF rfl rfl rfl rfl rfl rfl rfl rfl)⟩,⟨rfl,zB⟩,⟨rfl,zB⟩,⟨rfl,zB⟩,⟨rfl,zB⟩,⟨rfl,zB⟩,⟨rfl,zB⟩,⟨rfl,zB⟩,⟨rfl,zB⟩,⟨rfl,zB⟩,trivial⟩⟩;intro s;by_cases hkn : s.k < (M.getD 4 default).held.length
 . have w4 : IntKind.i64.wrap ((s.k : Int) + 1) = ((s.k + 1 : Nat) : Int):=(IntWalk.i64_in _ (by omega)).trans (by omega);have w5 : IntKind.u32.wrap (((b + s.k : Nat) : Int) + 1) = ((b + (s.k + 1) : Nat) : Int):=(IntWalk.u32_in _ (by omega)).trans (by omega);have z0 : 0 + (s.k : Int).toNat = s.k:=Nat.zero_add s.k;have eh:=s.h2 s.k (Nat.le_refl _);have hl:=s.n;have hzz:=s.hz;have bk : Nat.beq s.k s.k = true:=Nat.beq_refl _;have hx:=QD hS (zj hkn);rw [<- eh] at hx;have hxd:=hx.d;have hxt:=hx.t;obtain ⟨T,eT⟩ : ∃ T,qK (s.H.getD s.k default).tm now (IntKind.u32.wrap (draw + ((b + s.k : Nat) : Int))) = T:=⟨_,rfl⟩;have hTe:=zAD hxt ht eT;repeat' (first | (simp only [z0,w4,w5,bk,Bool.cond_true]) | (apply And.intro<;>intro hc<;>(first | exact Bool.noConfusion hc | (exfalso;first | exact absurd rfl hc | omega) | (simp only [zg] at hc<;>first | exact absurd rfl hc | (exfalso;first | exact absurd rfl hc | omega) | skip) | skip)) | (refine And.intro ze ?_) | (apply And.intro) | (intro s hs;(have q : T = s:=eT.symm.trans hs.symm;clear hs;subst q)) | (refine Exists.intro _ (And.intro ⟨rfl,rfl,rfl⟩ ?_)))
   . exact hc
   . exact (QI _).1
   . exact (QI _).2
   . conv=>whnf
     exact ⟨s.next hkn s.H s.Z (by rw [<- eh,qT (λg=>absurd (hTe.2 g) hc)];exact qi (by rw [hl];exact hkn)) (by rw [<- eh,qT (λg=>absurd (hTe.2 g) hc)];exact List.append_nil _),[],by dsimp only [InI.next];omega,rfl,⟨zA rfl,zA rfl,zE (zD rfl rfl),zE (zD rfl rfl),zA rfl,zA rfl,zA rfl,zA rfl,zA rfl,zA w4,trivial⟩,⟨⟨rfl,zP (by omega) (qF rfl rfl rfl rfl rfl rfl rfl rfl)⟩,⟨rfl,zB⟩,⟨rfl,zB⟩,⟨rfl,zB⟩,⟨rfl,zB⟩,⟨rfl,zB⟩,⟨rfl,zB⟩,⟨rfl,zB⟩,⟨rfl,zB⟩,⟨rfl,zB⟩,trivial⟩⟩
   . conv=>whnf
     refine ⟨s.next hkn (s.H.set s.k { s.H.getD s.k default with tm:=T.1 }) (s.Z ++ [⟨(M.getD 4 default).id,(s.H.getD s.k default).num,(s.H.getD s.k default).data⟩]) (by rw [<- eh,ZB (hTe.1 ‹_›) eT]) (by rw [<- eh,ZB (hTe.1 ‹_›) eT,if_pos hc]),[(10,some 67)],by dsimp only [InI.next];omega,rfl,⟨zA rfl,zA rfl,zE (zD rfl rfl),zE (zD rfl (by show _ = (s.Z ++ [_]).length;rw [List.length_append];rfl)),zA rfl,zA rfl,zA rfl,zA rfl,zA rfl,zA w4,trivial⟩,⟨⟨rfl,zP (by omega) (qF rfl rfl rfl rfl rfl rfl rfl rfl)⟩,⟨rfl,zB⟩,⟨rfl,zB⟩,⟨rfl,zB⟩,⟨rfl,zB⟩,⟨rfl,ZY ?_⟩,⟨rfl,zB⟩,⟨rfl,zB⟩,⟨rfl,zB⟩,⟨rfl,?_⟩,trivial⟩⟩
     . exact ZJ (by rw [hl];exact hkn) (YR ⟨zC rfl,zC rfl,zC rfl,zC rfl,zC rfl,zC rfl,zC rfl,zS rfl⟩)
     . refine qP λj hj=>?_;rcases j with _ | _ | _ | j
       . exact zC rfl
       . exact zC rfl
       . refine zy rfl rfl rfl rfl (Nat.le_of_eq (Nat.zero_add _)) λq hq j hj=>?_;show ZX _ (qC eB (s.H.getD s.k default).data (0 + q) j) (qC eB (s.H.getD s.k default).data q j);exact zC (congrArg (λz=>(s.H.getD s.k default).data.getD z default) (Nat.zero_add q))
       . omega
   . conv=>whnf
     refine ⟨s.next hkn (s.H.set s.k { s.H.getD s.k default with tm:=T.1 }) s.Z (by rw [<- eh,ZB (hTe.1 ‹_›) eT]) (by rw [<- eh,ZB (hTe.1 ‹_›) eT,if_neg (by rw [hc];simp)];exact List.append_nil _),[],by dsimp only [InI.next];omega,rfl,⟨zA rfl,zA rfl,zE (zD rfl rfl),zE (zD rfl rfl),zA rfl,zA rfl,zA rfl,zA rfl,zA rfl,zA w4,trivial⟩,⟨⟨rfl,zP (by omega) (qF rfl rfl rfl rfl rfl rfl rfl rfl)⟩,⟨rfl,zB⟩,⟨rfl,zB⟩,⟨rfl,zB⟩,⟨rfl,zB⟩,⟨rfl,ZY ?_⟩,⟨rfl,zB⟩,⟨rfl,zB⟩,⟨rfl,zB⟩,⟨rfl,zB⟩,trivial⟩⟩;exact ZJ (by rw [hl];exact hkn) (YR ⟨zC rfl,zC rfl,zC rfl,zC rfl,zC rfl,zC rfl,zC rfl,zS rfl⟩)
 . obtain ⟨l1,l2⟩:=s.last hkn;have hkk:=s.hk;have w6 : IntKind.i64.wrap ((4 : Int) + 1) = ((4 + 1 : Nat) : Int):=rfl;repeat' (first | (apply And.intro<;>intro hc<;>(first | exact Bool.noConfusion hc | (exfalso;first | exact absurd rfl hc | omega) | (simp only [zg] at hc<;>first | exact absurd rfl hc | (exfalso;first | exact absurd rfl hc | omega) | skip) | skip)) | (refine And.intro ze ?_) | (apply And.intro) | (intro s hs;skip) | (refine Exists.intro _ (And.intro ⟨rfl,rfl,rfl⟩ ?_)))
   conv=>whnf
   refine ⟨s',[],by show M0.length - s'.i < _;rw [f4];omega,rfl,⟨zA rfl,zA rfl,zE (zD rfl (by rw [f1,List.length_set])),zE (zD rfl (by rw [f2,l2])),zA (by rw [f3];omega),zA rfl,zA (by rw [f4];rfl),trivial⟩,⟨⟨rfl,⟨rfl,by show _ = s'.M.length;rw [f1,List.length_set];rfl,rfl,rfl,λp hp j hj=>?_⟩⟩,⟨rfl,zF (by rw [f1];exact congrArg Sed.held (zJ (by decide)).symm)⟩,⟨rfl,zF (by rw [f1];exact congrArg Sed.held (zJ (by decide)).symm)⟩,⟨rfl,zF (by rw [f1];exact congrArg Sed.held (zJ (by decide)).symm)⟩,⟨rfl,zF (by rw [f1];exact congrArg Sed.held (zJ (by decide)).symm)⟩,⟨rfl,zF (by rw [f1,qH hiM];exact l1)⟩,⟨rfl,zF (by rw [f1];exact congrArg Sed.held (zJ (by decide)).symm)⟩,⟨rfl,zF (by rw [f1];exact congrArg Sed.held (zJ (by decide)).symm)⟩,⟨rfl,zF (by rw [f1];exact congrArg Sed.held (zJ (by decide)).symm)⟩,⟨rfl,QU (by rw [f2,l2])⟩,trivial⟩⟩;have hp : p < M.length:=hp;have hj : j < 3:=hj;show ZX _ (ZT 2 M p j) (ZT 2 s'.M p j);rw [f1];rcases (show p = 0 \/ p = 1 \/ p = 2 \/ p = 3 \/ p = 4 \/ p = 5 \/ p = 6 \/ p = 7 by omega) with rfl | rfl | rfl | rfl | rfl | rfl | rfl | rfl;all_goals first
    | exact ZG hj (by decide) rfl rfl
    | skip
   refine ZH hiM ?_;rcases j with _ | _ | _ | j
   . exact zC rfl
   . exact zC rfl
   . exact zD rfl qu.symm
   . omega
theorem rs2_5 (M0 : List Sed) (now draw : Int) (hm : ∀ s ∈ M0,SdOk s) (h8 : M0.length <= 8) (hd : ZM draw) (ht : 0 <= now /\ now <= 1099511627776) (s : StI M0 now draw) (hi : s.i = 5) (hil : s.i < M0.length) (K : Kt) :
 Zs T (Zt LRs) 1 Try.f46.ntmps 0 (Zz (ZK 7 (Try.f46.body.getD Code.ret))) (SR2 M0 now draw s).fr (SR2 M0 now draw s).H (SR2 M0 now draw s).nx (QY (λfr H _=>Qz (SR2 M0 now draw) (λs=>M0.length - s.i) 0 (M0.length - s.i) fr H) K):=by
 have hS : SdOk (M0.getD s.i default):=hm _ (zj hil);obtain ⟨s',es'⟩ : ∃ s',s.next hil hS.n = s':=⟨_,rfl⟩;have f1 : s'.M = s.M.set s.i { M0.getD s.i default with held:=(qe (M0.getD s.i default).id now draw (M0.getD s.i default).held s.b).1 }:=by rw [<- es'];rfl
 have f2 : s'.Z = s.Z ++ (qe (M0.getD s.i default).id now draw (M0.getD s.i default).held s.b).2:=by rw [<- es'];rfl
 have f3 : s'.b = s.b + (M0.getD s.i default).held.length:=by rw [<- es'];rfl
 have f4 : s'.i = s.i + 1:=by rw [<- es'];rfl
 clear es';obtain ⟨i,M,Z,b,hn,hi0,hb,hz,h2,r1,r2⟩:=s;dsimp only at hi hil hS f1 f2 f3 f4;subst hi;have hiM : 5 < M.length:=by omega
 have e0:=h2 5 (Nat.le_refl _);rw [<- e0] at hS f1 f2 f3;have hk:=hS.n;unfold SR2;dsimp only;clear h2 r1 r2 e0;repeat' (first | (apply And.intro<;>intro hc<;>(first | exact Bool.noConfusion hc | (exfalso;first | exact absurd rfl hc | omega) | (simp only [zg] at hc<;>first | exact absurd rfl hc | (exfalso;first | exact absurd rfl hc | omega) | skip) | skip)) | (refine And.intro ze ?_) | (apply And.intro) | (intro s hs;skip) | (refine Exists.intro _ (And.intro ⟨rfl,rfl,rfl⟩ ?_)))
 conv=>whnf
 refine zQ (zT qr) (λs : InI (M.getD 5 default).held (M.getD 5 default).id now draw b Z=>(⟨[(1,zO (.int .i64 now)),(2,zO (.int .u32 draw)),(9,zO (.os 1 0 M.length)),(10,zO (.os 10 0 s.Z.length)),(11,zO (.int .u32 ((b + s.k : Nat) : Int))),(64,zO (.int .i64 (M0.length : Int))),(65,zO (.int .i64 ((5 : Nat) : Int))),(16,zO (.int .i64 ((5 : Nat) : Int))),(73,zO (.int .i64 ((M.getD 5 default).held.length : Int))),(74,zO (.int .i64 (s.k : Int)))],[(1,some (qt 2 M.length M)),(2,some (zV (M.getD 0 default).held)),(3,some (zV (M.getD 1 default).held)),(4,some (zV (M.getD 2 default).held)),(5,some (zV (M.getD 3 default).held)),(6,some (zV (M.getD 4 default).held)),(7,some (zV s.H)),(8,some (zV (M.getD 6 default).held)),(9,some (zV (M.getD 7 default).held)),(10,some (ZL Zr 32 s.Z))],11⟩ : Hd)) (λs=>(M.getD 5 default).held.length - s.k) (λ_=>rfl) ?_ (InI.start _ _ _ _ _ _) [] ⟨rfl,⟨zA rfl,zA rfl,zE (zD rfl rfl),zE (zD rfl rfl),zA rfl,zA rfl,zA rfl,zA rfl,zA rfl,zA rfl,trivial⟩,⟨⟨rfl,zP (by omega) (qF rfl rfl rfl rfl rfl rfl rfl rfl)⟩,⟨rfl,zB⟩,⟨rfl,zB⟩,⟨rfl,zB⟩,⟨rfl,zB⟩,⟨rfl,zB⟩,⟨rfl,zB⟩,⟨rfl,zB⟩,⟨rfl,zB⟩,⟨rfl,zB⟩,trivial⟩⟩;intro s;by_cases hkn : s.k < (M.getD 5 default).held.length
 . have w4 : IntKind.i64.wrap ((s.k : Int) + 1) = ((s.k + 1 : Nat) : Int):=(IntWalk.i64_in _ (by omega)).trans (by omega);have w5 : IntKind.u32.wrap (((b + s.k : Nat) : Int) + 1) = ((b + (s.k + 1) : Nat) : Int):=(IntWalk.u32_in _ (by omega)).trans (by omega);have z0 : 0 + (s.k : Int).toNat = s.k:=Nat.zero_add s.k;have eh:=s.h2 s.k (Nat.le_refl _);have hl:=s.n;have hzz:=s.hz;have bk : Nat.beq s.k s.k = true:=Nat.beq_refl _;have hx:=QD hS (zj hkn);rw [<- eh] at hx;have hxd:=hx.d;have hxt:=hx.t;obtain ⟨T,eT⟩ : ∃ T,qK (s.H.getD s.k default).tm now (IntKind.u32.wrap (draw + ((b + s.k : Nat) : Int))) = T:=⟨_,rfl⟩;have hTe:=zAD hxt ht eT;repeat' (first | (simp only [z0,w4,w5,bk,Bool.cond_true]) | (apply And.intro<;>intro hc<;>(first | exact Bool.noConfusion hc | (exfalso;first | exact absurd rfl hc | omega) | (simp only [zg] at hc<;>first | exact absurd rfl hc | (exfalso;first | exact absurd rfl hc | omega) | skip) | skip)) | (refine And.intro ze ?_) | (apply And.intro) | (intro s hs;(have q : T = s:=eT.symm.trans hs.symm;clear hs;subst q)) | (refine Exists.intro _ (And.intro ⟨rfl,rfl,rfl⟩ ?_)))
   . exact hc
   . exact (QI _).1
   . exact (QI _).2
   . conv=>whnf
     exact ⟨s.next hkn s.H s.Z (by rw [<- eh,qT (λg=>absurd (hTe.2 g) hc)];exact qi (by rw [hl];exact hkn)) (by rw [<- eh,qT (λg=>absurd (hTe.2 g) hc)];exact List.append_nil _),[],by dsimp only [InI.next];omega,rfl,⟨zA rfl,zA rfl,zE (zD rfl rfl),zE (zD rfl rfl),zA rfl,zA rfl,zA rfl,zA rfl,zA rfl,zA w4,trivial⟩,⟨⟨rfl,zP (by omega) (qF rfl rfl rfl rfl rfl rfl rfl rfl)⟩,⟨rfl,zB⟩,⟨rfl,zB⟩,⟨rfl,zB⟩,⟨rfl,zB⟩,⟨rfl,zB⟩,⟨rfl,zB⟩,⟨rfl,zB⟩,⟨rfl,zB⟩,⟨rfl,zB⟩,trivial⟩⟩
   . conv=>whnf
     refine ⟨s.next hkn (s.H.set s.k { s.H.getD s.k default with tm:=T.1 }) (s.Z ++ [⟨(M.getD 5 default).id,(s.H.getD s.k default).num,(s.H.getD s.k default).data⟩]) (by rw [<- eh,ZB (hTe.1 ‹_›) eT]) (by rw [<- eh,ZB (hTe.1 ‹_›) eT,if_pos hc]),[(10,some 67)],by dsimp only [InI.next];omega,rfl,⟨zA rfl,zA rfl,zE (zD rfl rfl),zE (zD rfl (by show _ = (s.Z ++ [_]).length;rw [List.length_append];rfl)),zA rfl,zA rfl,zA rfl,zA rfl,zA rfl,zA w4,trivial⟩,⟨⟨rfl,zP (by omega) (qF rfl rfl rfl rfl rfl rfl rfl rfl)⟩,⟨rfl,zB⟩,⟨rfl,zB⟩,⟨rfl,zB⟩,⟨rfl,zB⟩,⟨rfl,zB⟩,⟨rfl,ZY ?_⟩,⟨rfl,zB⟩,⟨rfl,zB⟩,⟨rfl,?_⟩,trivial⟩⟩
     . exact ZJ (by rw [hl];exact hkn) (YR ⟨zC rfl,zC rfl,zC rfl,zC rfl,zC rfl,zC rfl,zC rfl,zS rfl⟩)
     . refine qP λj hj=>?_;rcases j with _ | _ | _ | j
       . exact zC rfl
       . exact zC rfl
       . refine zy rfl rfl rfl rfl (Nat.le_of_eq (Nat.zero_add _)) λq hq j hj=>?_;show ZX _ (qC eB (s.H.getD s.k default).data (0 + q) j) (qC eB (s.H.getD s.k default).data q j);exact zC (congrArg (λz=>(s.H.getD s.k default).data.getD z default) (Nat.zero_add q))
       . omega
   . conv=>whnf
     refine ⟨s.next hkn (s.H.set s.k { s.H.getD s.k default with tm:=T.1 }) s.Z (by rw [<- eh,ZB (hTe.1 ‹_›) eT]) (by rw [<- eh,ZB (hTe.1 ‹_›) eT,if_neg (by rw [hc];simp)];exact List.append_nil _),[],by dsimp only [InI.next];omega,rfl,⟨zA rfl,zA rfl,zE (zD rfl rfl),zE (zD rfl rfl),zA rfl,zA rfl,zA rfl,zA rfl,zA rfl,zA w4,trivial⟩,⟨⟨rfl,zP (by omega) (qF rfl rfl rfl rfl rfl rfl rfl rfl)⟩,⟨rfl,zB⟩,⟨rfl,zB⟩,⟨rfl,zB⟩,⟨rfl,zB⟩,⟨rfl,zB⟩,⟨rfl,ZY ?_⟩,⟨rfl,zB⟩,⟨rfl,zB⟩,⟨rfl,zB⟩,trivial⟩⟩;exact ZJ (by rw [hl];exact hkn) (YR ⟨zC rfl,zC rfl,zC rfl,zC rfl,zC rfl,zC rfl,zC rfl,zS rfl⟩)
 . obtain ⟨l1,l2⟩:=s.last hkn;have hkk:=s.hk;have w6 : IntKind.i64.wrap ((5 : Int) + 1) = ((5 + 1 : Nat) : Int):=rfl;repeat' (first | (apply And.intro<;>intro hc<;>(first | exact Bool.noConfusion hc | (exfalso;first | exact absurd rfl hc | omega) | (simp only [zg] at hc<;>first | exact absurd rfl hc | (exfalso;first | exact absurd rfl hc | omega) | skip) | skip)) | (refine And.intro ze ?_) | (apply And.intro) | (intro s hs;skip) | (refine Exists.intro _ (And.intro ⟨rfl,rfl,rfl⟩ ?_)))
   conv=>whnf
   refine ⟨s',[],by show M0.length - s'.i < _;rw [f4];omega,rfl,⟨zA rfl,zA rfl,zE (zD rfl (by rw [f1,List.length_set])),zE (zD rfl (by rw [f2,l2])),zA (by rw [f3];omega),zA rfl,zA (by rw [f4];rfl),trivial⟩,⟨⟨rfl,⟨rfl,by show _ = s'.M.length;rw [f1,List.length_set];rfl,rfl,rfl,λp hp j hj=>?_⟩⟩,⟨rfl,zF (by rw [f1];exact congrArg Sed.held (zJ (by decide)).symm)⟩,⟨rfl,zF (by rw [f1];exact congrArg Sed.held (zJ (by decide)).symm)⟩,⟨rfl,zF (by rw [f1];exact congrArg Sed.held (zJ (by decide)).symm)⟩,⟨rfl,zF (by rw [f1];exact congrArg Sed.held (zJ (by decide)).symm)⟩,⟨rfl,zF (by rw [f1];exact congrArg Sed.held (zJ (by decide)).symm)⟩,⟨rfl,zF (by rw [f1,qH hiM];exact l1)⟩,⟨rfl,zF (by rw [f1];exact congrArg Sed.held (zJ (by decide)).symm)⟩,⟨rfl,zF (by rw [f1];exact congrArg Sed.held (zJ (by decide)).symm)⟩,⟨rfl,QU (by rw [f2,l2])⟩,trivial⟩⟩;have hp : p < M.length:=hp;have hj : j < 3:=hj;show ZX _ (ZT 2 M p j) (ZT 2 s'.M p j);rw [f1];rcases (show p = 0 \/ p = 1 \/ p = 2 \/ p = 3 \/ p = 4 \/ p = 5 \/ p = 6 \/ p = 7 by omega) with rfl | rfl | rfl | rfl | rfl | rfl | rfl | rfl;all_goals first
    | exact ZG hj (by decide) rfl rfl
    | skip
   refine ZH hiM ?_;rcases j with _ | _ | _ | j
   . exact zC rfl
   . exact zC rfl
   . exact zD rfl qu.symm
   . omega
theorem rs2_6 (M0 : List Sed) (now draw : Int) (hm : ∀ s ∈ M0,SdOk s) (h8 : M0.length <= 8) (hd : ZM draw) (ht : 0 <= now /\ now <= 1099511627776) (s : StI M0 now draw) (hi : s.i = 6) (hil : s.i < M0.length) (K : Kt) :
 Zs T (Zt LRs) 1 Try.f46.ntmps 0 (Zz (ZK 7 (Try.f46.body.getD Code.ret))) (SR2 M0 now draw s).fr (SR2 M0 now draw s).H (SR2 M0 now draw s).nx (QY (λfr H _=>Qz (SR2 M0 now draw) (λs=>M0.length - s.i) 0 (M0.length - s.i) fr H) K):=by
 have hS : SdOk (M0.getD s.i default):=hm _ (zj hil);obtain ⟨s',es'⟩ : ∃ s',s.next hil hS.n = s':=⟨_,rfl⟩;have f1 : s'.M = s.M.set s.i { M0.getD s.i default with held:=(qe (M0.getD s.i default).id now draw (M0.getD s.i default).held s.b).1 }:=by rw [<- es'];rfl
 have f2 : s'.Z = s.Z ++ (qe (M0.getD s.i default).id now draw (M0.getD s.i default).held s.b).2:=by rw [<- es'];rfl
 have f3 : s'.b = s.b + (M0.getD s.i default).held.length:=by rw [<- es'];rfl
 have f4 : s'.i = s.i + 1:=by rw [<- es'];rfl
 clear es';obtain ⟨i,M,Z,b,hn,hi0,hb,hz,h2,r1,r2⟩:=s;dsimp only at hi hil hS f1 f2 f3 f4;subst hi;have hiM : 6 < M.length:=by omega
 have e0:=h2 6 (Nat.le_refl _);rw [<- e0] at hS f1 f2 f3;have hk:=hS.n;unfold SR2;dsimp only;clear h2 r1 r2 e0;repeat' (first | (apply And.intro<;>intro hc<;>(first | exact Bool.noConfusion hc | (exfalso;first | exact absurd rfl hc | omega) | (simp only [zg] at hc<;>first | exact absurd rfl hc | (exfalso;first | exact absurd rfl hc | omega) | skip) | skip)) | (refine And.intro ze ?_) | (apply And.intro) | (intro s hs;skip) | (refine Exists.intro _ (And.intro ⟨rfl,rfl,rfl⟩ ?_)))
 conv=>whnf
 refine zQ (zT qr) (λs : InI (M.getD 6 default).held (M.getD 6 default).id now draw b Z=>(⟨[(1,zO (.int .i64 now)),(2,zO (.int .u32 draw)),(9,zO (.os 1 0 M.length)),(10,zO (.os 10 0 s.Z.length)),(11,zO (.int .u32 ((b + s.k : Nat) : Int))),(64,zO (.int .i64 (M0.length : Int))),(65,zO (.int .i64 ((6 : Nat) : Int))),(16,zO (.int .i64 ((6 : Nat) : Int))),(73,zO (.int .i64 ((M.getD 6 default).held.length : Int))),(74,zO (.int .i64 (s.k : Int)))],[(1,some (qt 2 M.length M)),(2,some (zV (M.getD 0 default).held)),(3,some (zV (M.getD 1 default).held)),(4,some (zV (M.getD 2 default).held)),(5,some (zV (M.getD 3 default).held)),(6,some (zV (M.getD 4 default).held)),(7,some (zV (M.getD 5 default).held)),(8,some (zV s.H)),(9,some (zV (M.getD 7 default).held)),(10,some (ZL Zr 32 s.Z))],11⟩ : Hd)) (λs=>(M.getD 6 default).held.length - s.k) (λ_=>rfl) ?_ (InI.start _ _ _ _ _ _) [] ⟨rfl,⟨zA rfl,zA rfl,zE (zD rfl rfl),zE (zD rfl rfl),zA rfl,zA rfl,zA rfl,zA rfl,zA rfl,zA rfl,trivial⟩,⟨⟨rfl,zP (by omega) (qF rfl rfl rfl rfl rfl rfl rfl rfl)⟩,⟨rfl,zB⟩,⟨rfl,zB⟩,⟨rfl,zB⟩,⟨rfl,zB⟩,⟨rfl,zB⟩,⟨rfl,zB⟩,⟨rfl,zB⟩,⟨rfl,zB⟩,⟨rfl,zB⟩,trivial⟩⟩;intro s;by_cases hkn : s.k < (M.getD 6 default).held.length
 . have w4 : IntKind.i64.wrap ((s.k : Int) + 1) = ((s.k + 1 : Nat) : Int):=(IntWalk.i64_in _ (by omega)).trans (by omega);have w5 : IntKind.u32.wrap (((b + s.k : Nat) : Int) + 1) = ((b + (s.k + 1) : Nat) : Int):=(IntWalk.u32_in _ (by omega)).trans (by omega);have z0 : 0 + (s.k : Int).toNat = s.k:=Nat.zero_add s.k;have eh:=s.h2 s.k (Nat.le_refl _);have hl:=s.n;have hzz:=s.hz;have bk : Nat.beq s.k s.k = true:=Nat.beq_refl _;have hx:=QD hS (zj hkn);rw [<- eh] at hx;have hxd:=hx.d;have hxt:=hx.t;obtain ⟨T,eT⟩ : ∃ T,qK (s.H.getD s.k default).tm now (IntKind.u32.wrap (draw + ((b + s.k : Nat) : Int))) = T:=⟨_,rfl⟩;have hTe:=zAD hxt ht eT;repeat' (first | (simp only [z0,w4,w5,bk,Bool.cond_true]) | (apply And.intro<;>intro hc<;>(first | exact Bool.noConfusion hc | (exfalso;first | exact absurd rfl hc | omega) | (simp only [zg] at hc<;>first | exact absurd rfl hc | (exfalso;first | exact absurd rfl hc | omega) | skip) | skip)) | (refine And.intro ze ?_) | (apply And.intro) | (intro s hs;(have q : T = s:=eT.symm.trans hs.symm;clear hs;subst q)) | (refine Exists.intro _ (And.intro ⟨rfl,rfl,rfl⟩ ?_)))
   . exact hc
   . exact (QI _).1
   . exact (QI _).2
   . conv=>whnf
     exact ⟨s.next hkn s.H s.Z (by rw [<- eh,qT (λg=>absurd (hTe.2 g) hc)];exact qi (by rw [hl];exact hkn)) (by rw [<- eh,qT (λg=>absurd (hTe.2 g) hc)];exact List.append_nil _),[],by dsimp only [InI.next];omega,rfl,⟨zA rfl,zA rfl,zE (zD rfl rfl),zE (zD rfl rfl),zA rfl,zA rfl,zA rfl,zA rfl,zA rfl,zA w4,trivial⟩,⟨⟨rfl,zP (by omega) (qF rfl rfl rfl rfl rfl rfl rfl rfl)⟩,⟨rfl,zB⟩,⟨rfl,zB⟩,⟨rfl,zB⟩,⟨rfl,zB⟩,⟨rfl,zB⟩,⟨rfl,zB⟩,⟨rfl,zB⟩,⟨rfl,zB⟩,⟨rfl,zB⟩,trivial⟩⟩
   . conv=>whnf
     refine ⟨s.next hkn (s.H.set s.k { s.H.getD s.k default with tm:=T.1 }) (s.Z ++ [⟨(M.getD 6 default).id,(s.H.getD s.k default).num,(s.H.getD s.k default).data⟩]) (by rw [<- eh,ZB (hTe.1 ‹_›) eT]) (by rw [<- eh,ZB (hTe.1 ‹_›) eT,if_pos hc]),[(10,some 67)],by dsimp only [InI.next];omega,rfl,⟨zA rfl,zA rfl,zE (zD rfl rfl),zE (zD rfl (by show _ = (s.Z ++ [_]).length;rw [List.length_append];rfl)),zA rfl,zA rfl,zA rfl,zA rfl,zA rfl,zA w4,trivial⟩,⟨⟨rfl,zP (by omega) (qF rfl rfl rfl rfl rfl rfl rfl rfl)⟩,⟨rfl,zB⟩,⟨rfl,zB⟩,⟨rfl,zB⟩,⟨rfl,zB⟩,⟨rfl,zB⟩,⟨rfl,zB⟩,⟨rfl,ZY ?_⟩,⟨rfl,zB⟩,⟨rfl,?_⟩,trivial⟩⟩
     . exact ZJ (by rw [hl];exact hkn) (YR ⟨zC rfl,zC rfl,zC rfl,zC rfl,zC rfl,zC rfl,zC rfl,zS rfl⟩)
     . refine qP λj hj=>?_;rcases j with _ | _ | _ | j
       . exact zC rfl
       . exact zC rfl
       . refine zy rfl rfl rfl rfl (Nat.le_of_eq (Nat.zero_add _)) λq hq j hj=>?_;show ZX _ (qC eB (s.H.getD s.k default).data (0 + q) j) (qC eB (s.H.getD s.k default).data q j);exact zC (congrArg (λz=>(s.H.getD s.k default).data.getD z default) (Nat.zero_add q))
       . omega
   . conv=>whnf
     refine ⟨s.next hkn (s.H.set s.k { s.H.getD s.k default with tm:=T.1 }) s.Z (by rw [<- eh,ZB (hTe.1 ‹_›) eT]) (by rw [<- eh,ZB (hTe.1 ‹_›) eT,if_neg (by rw [hc];simp)];exact List.append_nil _),[],by dsimp only [InI.next];omega,rfl,⟨zA rfl,zA rfl,zE (zD rfl rfl),zE (zD rfl rfl),zA rfl,zA rfl,zA rfl,zA rfl,zA rfl,zA w4,trivial⟩,⟨⟨rfl,zP (by omega) (qF rfl rfl rfl rfl rfl rfl rfl rfl)⟩,⟨rfl,zB⟩,⟨rfl,zB⟩,⟨rfl,zB⟩,⟨rfl,zB⟩,⟨rfl,zB⟩,⟨rfl,zB⟩,⟨rfl,ZY ?_⟩,⟨rfl,zB⟩,⟨rfl,zB⟩,trivial⟩⟩;exact ZJ (by rw [hl];exact hkn) (YR ⟨zC rfl,zC rfl,zC rfl,zC rfl,zC rfl,zC rfl,zC rfl,zS rfl⟩)
 . obtain ⟨l1,l2⟩:=s.last hkn;have hkk:=s.hk;have w6 : IntKind.i64.wrap ((6 : Int) + 1) = ((6 + 1 : Nat) : Int):=rfl;repeat' (first | (apply And.intro<;>intro hc<;>(first | exact Bool.noConfusion hc | (exfalso;first | exact absurd rfl hc | omega) | (simp only [zg] at hc<;>first | exact absurd rfl hc | (exfalso;first | exact absurd rfl hc | omega) | skip) | skip)) | (refine And.intro ze ?_) | (apply And.intro) | (intro s hs;skip) | (refine Exists.intro _ (And.intro ⟨rfl,rfl,rfl⟩ ?_)))
   conv=>whnf
   refine ⟨s',[],by show M0.length - s'.i < _;rw [f4];omega,rfl,⟨zA rfl,zA rfl,zE (zD rfl (by rw [f1,List.length_set])),zE (zD rfl (by rw [f2,l2])),zA (by rw [f3];omega),zA rfl,zA (by rw [f4];rfl),trivial⟩,⟨⟨rfl,⟨rfl,by show _ = s'.M.length;rw [f1,List.length_set];rfl,rfl,rfl,λp hp j hj=>?_⟩⟩,⟨rfl,zF (by rw [f1];exact congrArg Sed.held (zJ (by decide)).symm)⟩,⟨rfl,zF (by rw [f1];exact congrArg Sed.held (zJ (by decide)).symm)⟩,⟨rfl,zF (by rw [f1];exact congrArg Sed.held (zJ (by decide)).symm)⟩,⟨rfl,zF (by rw [f1];exact congrArg Sed.held (zJ (by decide)).symm)⟩,⟨rfl,zF (by rw [f1];exact congrArg Sed.held (zJ (by decide)).symm)⟩,⟨rfl,zF (by rw [f1];exact congrArg Sed.held (zJ (by decide)).symm)⟩,⟨rfl,zF (by rw [f1,qH hiM];exact l1)⟩,⟨rfl,zF (by rw [f1];exact congrArg Sed.held (zJ (by decide)).symm)⟩,⟨rfl,QU (by rw [f2,l2])⟩,trivial⟩⟩;have hp : p < M.length:=hp;have hj : j < 3:=hj;show ZX _ (ZT 2 M p j) (ZT 2 s'.M p j);rw [f1];rcases (show p = 0 \/ p = 1 \/ p = 2 \/ p = 3 \/ p = 4 \/ p = 5 \/ p = 6 \/ p = 7 by omega) with rfl | rfl | rfl | rfl | rfl | rfl | rfl | rfl;all_goals first
    | exact ZG hj (by decide) rfl rfl
    | skip
   refine ZH hiM ?_;rcases j with _ | _ | _ | j
   . exact zC rfl
   . exact zC rfl
   . exact zD rfl qu.symm
   . omega
theorem rs2_7 (M0 : List Sed) (now draw : Int) (hm : ∀ s ∈ M0,SdOk s) (h8 : M0.length <= 8) (hd : ZM draw) (ht : 0 <= now /\ now <= 1099511627776) (s : StI M0 now draw) (hi : s.i = 7) (hil : s.i < M0.length) (K : Kt) :
 Zs T (Zt LRs) 1 Try.f46.ntmps 0 (Zz (ZK 7 (Try.f46.body.getD Code.ret))) (SR2 M0 now draw s).fr (SR2 M0 now draw s).H (SR2 M0 now draw s).nx (QY (λfr H _=>Qz (SR2 M0 now draw) (λs=>M0.length - s.i) 0 (M0.length - s.i) fr H) K):=by
 have hS : SdOk (M0.getD s.i default):=hm _ (zj hil);obtain ⟨s',es'⟩ : ∃ s',s.next hil hS.n = s':=⟨_,rfl⟩;have f1 : s'.M = s.M.set s.i { M0.getD s.i default with held:=(qe (M0.getD s.i default).id now draw (M0.getD s.i default).held s.b).1 }:=by rw [<- es'];rfl
 have f2 : s'.Z = s.Z ++ (qe (M0.getD s.i default).id now draw (M0.getD s.i default).held s.b).2:=by rw [<- es'];rfl
 have f3 : s'.b = s.b + (M0.getD s.i default).held.length:=by rw [<- es'];rfl
 have f4 : s'.i = s.i + 1:=by rw [<- es'];rfl
 clear es';obtain ⟨i,M,Z,b,hn,hi0,hb,hz,h2,r1,r2⟩:=s;dsimp only at hi hil hS f1 f2 f3 f4;subst hi;have hiM : 7 < M.length:=by omega
 have e0:=h2 7 (Nat.le_refl _);rw [<- e0] at hS f1 f2 f3;have hk:=hS.n;unfold SR2;dsimp only;clear h2 r1 r2 e0;repeat' (first | (apply And.intro<;>intro hc<;>(first | exact Bool.noConfusion hc | (exfalso;first | exact absurd rfl hc | omega) | (simp only [zg] at hc<;>first | exact absurd rfl hc | (exfalso;first | exact absurd rfl hc | omega) | skip) | skip)) | (refine And.intro ze ?_) | (apply And.intro) | (intro s hs;skip) | (refine Exists.intro _ (And.intro ⟨rfl,rfl,rfl⟩ ?_)))
 conv=>whnf
 refine zQ (zT qr) (λs : InI (M.getD 7 default).held (M.getD 7 default).id now draw b Z=>(⟨[(1,zO (.int .i64 now)),(2,zO (.int .u32 draw)),(9,zO (.os 1 0 M.length)),(10,zO (.os 10 0 s.Z.length)),(11,zO (.int .u32 ((b + s.k : Nat) : Int))),(64,zO (.int .i64 (M0.length : Int))),(65,zO (.int .i64 ((7 : Nat) : Int))),(16,zO (.int .i64 ((7 : Nat) : Int))),(73,zO (.int .i64 ((M.getD 7 default).held.length : Int))),(74,zO (.int .i64 (s.k : Int)))],[(1,some (qt 2 M.length M)),(2,some (zV (M.getD 0 default).held)),(3,some (zV (M.getD 1 default).held)),(4,some (zV (M.getD 2 default).held)),(5,some (zV (M.getD 3 default).held)),(6,some (zV (M.getD 4 default).held)),(7,some (zV (M.getD 5 default).held)),(8,some (zV (M.getD 6 default).held)),(9,some (zV s.H)),(10,some (ZL Zr 32 s.Z))],11⟩ : Hd)) (λs=>(M.getD 7 default).held.length - s.k) (λ_=>rfl) ?_ (InI.start _ _ _ _ _ _) [] ⟨rfl,⟨zA rfl,zA rfl,zE (zD rfl rfl),zE (zD rfl rfl),zA rfl,zA rfl,zA rfl,zA rfl,zA rfl,zA rfl,trivial⟩,⟨⟨rfl,zP (by omega) (qF rfl rfl rfl rfl rfl rfl rfl rfl)⟩,⟨rfl,zB⟩,⟨rfl,zB⟩,⟨rfl,zB⟩,⟨rfl,zB⟩,⟨rfl,zB⟩,⟨rfl,zB⟩,⟨rfl,zB⟩,⟨rfl,zB⟩,⟨rfl,zB⟩,trivial⟩⟩;intro s;by_cases hkn : s.k < (M.getD 7 default).held.length
 . have w4 : IntKind.i64.wrap ((s.k : Int) + 1) = ((s.k + 1 : Nat) : Int):=(IntWalk.i64_in _ (by omega)).trans (by omega);have w5 : IntKind.u32.wrap (((b + s.k : Nat) : Int) + 1) = ((b + (s.k + 1) : Nat) : Int):=(IntWalk.u32_in _ (by omega)).trans (by omega);have z0 : 0 + (s.k : Int).toNat = s.k:=Nat.zero_add s.k;have eh:=s.h2 s.k (Nat.le_refl _);have hl:=s.n;have hzz:=s.hz;have bk : Nat.beq s.k s.k = true:=Nat.beq_refl _;have hx:=QD hS (zj hkn);rw [<- eh] at hx;have hxd:=hx.d;have hxt:=hx.t;obtain ⟨T,eT⟩ : ∃ T,qK (s.H.getD s.k default).tm now (IntKind.u32.wrap (draw + ((b + s.k : Nat) : Int))) = T:=⟨_,rfl⟩;have hTe:=zAD hxt ht eT;repeat' (first | (simp only [z0,w4,w5,bk,Bool.cond_true]) | (apply And.intro<;>intro hc<;>(first | exact Bool.noConfusion hc | (exfalso;first | exact absurd rfl hc | omega) | (simp only [zg] at hc<;>first | exact absurd rfl hc | (exfalso;first | exact absurd rfl hc | omega) | skip) | skip)) | (refine And.intro ze ?_) | (apply And.intro) | (intro s hs;(have q : T = s:=eT.symm.trans hs.symm;clear hs;subst q)) | (refine Exists.intro _ (And.intro ⟨rfl,rfl,rfl⟩ ?_)))
   . exact hc
   . exact (QI _).1
   . exact (QI _).2
   . conv=>whnf
     exact ⟨s.next hkn s.H s.Z (by rw [<- eh,qT (λg=>absurd (hTe.2 g) hc)];exact qi (by rw [hl];exact hkn)) (by rw [<- eh,qT (λg=>absurd (hTe.2 g) hc)];exact List.append_nil _),[],by dsimp only [InI.next];omega,rfl,⟨zA rfl,zA rfl,zE (zD rfl rfl),zE (zD rfl rfl),zA rfl,zA rfl,zA rfl,zA rfl,zA rfl,zA w4,trivial⟩,⟨⟨rfl,zP (by omega) (qF rfl rfl rfl rfl rfl rfl rfl rfl)⟩,⟨rfl,zB⟩,⟨rfl,zB⟩,⟨rfl,zB⟩,⟨rfl,zB⟩,⟨rfl,zB⟩,⟨rfl,zB⟩,⟨rfl,zB⟩,⟨rfl,zB⟩,⟨rfl,zB⟩,trivial⟩⟩
   . conv=>whnf
     refine ⟨s.next hkn (s.H.set s.k { s.H.getD s.k default with tm:=T.1 }) (s.Z ++ [⟨(M.getD 7 default).id,(s.H.getD s.k default).num,(s.H.getD s.k default).data⟩]) (by rw [<- eh,ZB (hTe.1 ‹_›) eT]) (by rw [<- eh,ZB (hTe.1 ‹_›) eT,if_pos hc]),[(10,some 67)],by dsimp only [InI.next];omega,rfl,⟨zA rfl,zA rfl,zE (zD rfl rfl),zE (zD rfl (by show _ = (s.Z ++ [_]).length;rw [List.length_append];rfl)),zA rfl,zA rfl,zA rfl,zA rfl,zA rfl,zA w4,trivial⟩,⟨⟨rfl,zP (by omega) (qF rfl rfl rfl rfl rfl rfl rfl rfl)⟩,⟨rfl,zB⟩,⟨rfl,zB⟩,⟨rfl,zB⟩,⟨rfl,zB⟩,⟨rfl,zB⟩,⟨rfl,zB⟩,⟨rfl,zB⟩,⟨rfl,ZY ?_⟩,⟨rfl,?_⟩,trivial⟩⟩
     . exact ZJ (by rw [hl];exact hkn) (YR ⟨zC rfl,zC rfl,zC rfl,zC rfl,zC rfl,zC rfl,zC rfl,zS rfl⟩)
     . refine qP λj hj=>?_;rcases j with _ | _ | _ | j
       . exact zC rfl
       . exact zC rfl
       . refine zy rfl rfl rfl rfl (Nat.le_of_eq (Nat.zero_add _)) λq hq j hj=>?_;show ZX _ (qC eB (s.H.getD s.k default).data (0 + q) j) (qC eB (s.H.getD s.k default).data q j);exact zC (congrArg (λz=>(s.H.getD s.k default).data.getD z default) (Nat.zero_add q))
       . omega
   . conv=>whnf
     refine ⟨s.next hkn (s.H.set s.k { s.H.getD s.k default with tm:=T.1 }) s.Z (by rw [<- eh,ZB (hTe.1 ‹_›) eT]) (by rw [<- eh,ZB (hTe.1 ‹_›) eT,if_neg (by rw [hc];simp)];exact List.append_nil _),[],by dsimp only [InI.next];omega,rfl,⟨zA rfl,zA rfl,zE (zD rfl rfl),zE (zD rfl rfl),zA rfl,zA rfl,zA rfl,zA rfl,zA rfl,zA w4,trivial⟩,⟨⟨rfl,zP (by omega) (qF rfl rfl rfl rfl rfl rfl rfl rfl)⟩,⟨rfl,zB⟩,⟨rfl,zB⟩,⟨rfl,zB⟩,⟨rfl,zB⟩,⟨rfl,zB⟩,⟨rfl,zB⟩,⟨rfl,zB⟩,⟨rfl,ZY ?_⟩,⟨rfl,zB⟩,trivial⟩⟩;exact ZJ (by rw [hl];exact hkn) (YR ⟨zC rfl,zC rfl,zC rfl,zC rfl,zC rfl,zC rfl,zC rfl,zS rfl⟩)
 . obtain ⟨l1,l2⟩:=s.last hkn;have hkk:=s.hk;have w6 : IntKind.i64.wrap ((7 : Int) + 1) = ((7 + 1 : Nat) : Int):=rfl;repeat' (first | (apply And.intro<;>intro hc<;>(first | exact Bool.noConfusion hc | (exfalso;first | exact absurd rfl hc | omega) | (simp only [zg] at hc<;>first | exact absurd rfl hc | (exfalso;first | exact absurd rfl hc | omega) | skip) | skip)) | (refine And.intro ze ?_) | (apply And.intro) | (intro s hs;skip) | (refine Exists.intro _ (And.intro ⟨rfl,rfl,rfl⟩ ?_)))
   conv=>whnf
   refine ⟨s',[],by show M0.length - s'.i < _;rw [f4];omega,rfl,⟨zA rfl,zA rfl,zE (zD rfl (by rw [f1,List.length_set])),zE (zD rfl (by rw [f2,l2])),zA (by rw [f3];omega),zA rfl,zA (by rw [f4];rfl),trivial⟩,⟨⟨rfl,⟨rfl,by show _ = s'.M.length;rw [f1,List.length_set];rfl,rfl,rfl,λp hp j hj=>?_⟩⟩,⟨rfl,zF (by rw [f1];exact congrArg Sed.held (zJ (by decide)).symm)⟩,⟨rfl,zF (by rw [f1];exact congrArg Sed.held (zJ (by decide)).symm)⟩,⟨rfl,zF (by rw [f1];exact congrArg Sed.held (zJ (by decide)).symm)⟩,⟨rfl,zF (by rw [f1];exact congrArg Sed.held (zJ (by decide)).symm)⟩,⟨rfl,zF (by rw [f1];exact congrArg Sed.held (zJ (by decide)).symm)⟩,⟨rfl,zF (by rw [f1];exact congrArg Sed.held (zJ (by decide)).symm)⟩,⟨rfl,zF (by rw [f1];exact congrArg Sed.held (zJ (by decide)).symm)⟩,⟨rfl,zF (by rw [f1,qH hiM];exact l1)⟩,⟨rfl,QU (by rw [f2,l2])⟩,trivial⟩⟩;have hp : p < M.length:=hp;have hj : j < 3:=hj;show ZX _ (ZT 2 M p j) (ZT 2 s'.M p j);rw [f1];rcases (show p = 0 \/ p = 1 \/ p = 2 \/ p = 3 \/ p = 4 \/ p = 5 \/ p = 6 \/ p = 7 by omega) with rfl | rfl | rfl | rfl | rfl | rfl | rfl | rfl;all_goals first
    | exact ZG hj (by decide) rfl rfl
    | skip
   refine ZH hiM ?_;rcases j with _ | _ | _ | j
   . exact zC rfl
   . exact zC rfl
   . exact zD rfl qu.symm
   . omega
theorem rs2_all (M0 : List Sed) (now draw : Int) (hm : ∀ s ∈ M0,SdOk s) (h8 : M0.length <= 8) (hd : ZM draw) (ht : 0 <= now /\ now <= 1099511627776) (s : StI M0 now draw) (hil : s.i < M0.length) (K : Kt) :
 Zs T (Zt LRs) 1 Try.f46.ntmps 0 (Zz (ZK 7 (Try.f46.body.getD Code.ret))) (SR2 M0 now draw s).fr (SR2 M0 now draw s).H (SR2 M0 now draw s).nx (QY (λfr H _=>Qz (SR2 M0 now draw) (λs=>M0.length - s.i) 0 (M0.length - s.i) fr H) K):=by
 rcases (show s.i = 0 \/ s.i = 1 \/ s.i = 2 \/ s.i = 3 \/ s.i = 4 \/ s.i = 5 \/ s.i = 6 \/ s.i = 7 by omega) with h | h | h | h | h | h | h | h
 . exact rs2_0 M0 now draw hm h8 hd ht s h hil K
 . exact rs2_1 M0 now draw hm h8 hd ht s h hil K
 . exact rs2_2 M0 now draw hm h8 hd ht s h hil K
 . exact rs2_3 M0 now draw hm h8 hd ht s h hil K
 . exact rs2_4 M0 now draw hm h8 hd ht s h hil K
 . exact rs2_5 M0 now draw hm h8 hd ht s h hil K
 . exact rs2_6 M0 now draw hm h8 hd ht s h hil K
 . exact rs2_7 M0 now draw hm h8 hd ht s h hil K
theorem rstep2 (M0 : List Sed) (now draw : Int) (hm : ∀ s ∈ M0,SdOk s) (h8 : M0.length <= 8) (hd : ZM draw) (ht : 0 <= now /\ now <= 1099511627776) (R : List Sed × List Cas × Int) (hR : R = ((Yn now draw M0 0).1,(Yn now draw M0 0).2,0)) :
 Sem Try.prog Try.f46.ntmps 0 (ZK 7 (Try.f46.body.getD Code.ret)) (SR8 now draw M0).fr (SR8 now draw M0).H (SR8 now draw M0).nx (qN T Try.f46.results.toList λx H _=>FinNs (.tup [.c (.os 0 0 R.1.length),.c (.os 1 0 R.2.1.length),.c (.int .i64 R.2.2)]) [ZL ZF 78 R.1,ZL Zr 32 R.2.1] x H):=by
 refine QP (wd:=1) (by decide) zM (zb qr) zN ?_;unfold SR8;repeat' (first | (apply And.intro<;>intro hc<;>(first | exact Bool.noConfusion hc | (exfalso;first | exact absurd rfl hc | omega) | (simp only [zg] at hc<;>first | exact absurd rfl hc | (exfalso;first | exact absurd rfl hc | omega) | skip) | skip)) | (refine And.intro ze ?_) | (apply And.intro) | (intro s hs;skip) | (refine Exists.intro _ (And.intro ⟨rfl,rfl,rfl⟩ ?_)))
 conv=>whnf
 refine zQ (zT qr) (SR2 M0 now draw) (λs=>M0.length - s.i) (λ_=>rfl) ?_ (StI.start M0 now draw) [(10,none)] ⟨rfl,⟨zA rfl,zA rfl,zE (zD rfl rfl),zE (ZP rfl),zA rfl,zA rfl,zA rfl,trivial⟩,⟨⟨rfl,zP (by omega) (qF rfl rfl rfl rfl rfl rfl rfl rfl)⟩,⟨rfl,zB⟩,⟨rfl,zB⟩,⟨rfl,zB⟩,⟨rfl,zB⟩,⟨rfl,zB⟩,⟨rfl,zB⟩,⟨rfl,zB⟩,⟨rfl,zB⟩,⟨rfl,rfl,rfl,Nat.le_of_ble_eq_true rfl⟩,trivial⟩⟩;intro s;by_cases hil : s.i < M0.length
 . exact rs2_all M0 now draw hm h8 hd ht s hil _
 . obtain ⟨l1,l2⟩:=s.last hil;have hML:=s.n;unfold SR2;repeat' (first | (apply And.intro<;>intro hc<;>(first | exact Bool.noConfusion hc | (exfalso;first | exact absurd rfl hc | omega) | (simp only [zg] at hc<;>first | exact absurd rfl hc | (exfalso;first | exact absurd rfl hc | omega) | skip) | skip)) | (refine And.intro ze ?_) | (apply And.intro) | (intro s hs;skip) | (refine Exists.intro _ (And.intro ⟨rfl,rfl,rfl⟩ ?_)))
   conv=>whnf
   subst hR;refine ⟨[(0,some 1),(1,some 10)],rfl,ZW ⟨zD rfl (by rw [l1]),zD rfl (by rw [l2]),zC rfl,trivial⟩,⟨⟨rfl,⟨rfl,by show s.M.length = _;rw [l1];rfl,rfl,rfl,λp hp j hj=>?_⟩⟩,⟨rfl,QU l2⟩,trivial⟩⟩;have hp : p < s.M.length:=hp;have hj : j < 3:=hj;show ZX _ (ZT 2 s.M p j) (zo ZF (Yn now draw M0 0).1 p j);rw [<- l1];rcases (show p = 0 \/ p = 1 \/ p = 2 \/ p = 3 \/ p = 4 \/ p = 5 \/ p = 6 \/ p = 7 by omega) with rfl | rfl | rfl | rfl | rfl | rfl | rfl | rfl;all_goals exact Qp hj rfl rfl
theorem rstep1 (L : List Sed) (now draw : Int) (hL : LHp L) (hdr : ZM draw) : zAl Try.prog 46 [(Yl ZF qA).enc L,(cI .i64).enc now,(cI .u32).enc draw] (.tup [.c (.os 0 0 (qS L now draw).1.length),.c (.os 1 0 (qS L now draw).2.1.length),.c (.int .i64 (qS L now draw).2.2)]) [ZL ZF 78 (qS L now draw).1,ZL Zr 32 (qS L now draw).2.1]:=by
 obtain ⟨R,hR⟩ : ∃ R,qS L now draw = R:=⟨_,rfl⟩;rw [hR];obtain ⟨V,hV⟩ : ∃ V,ZC L = V:=⟨_,rfl⟩;obtain ⟨B,hB⟩ : ∃ B,zx now = B:=⟨_,rfl⟩;refine zC4 zM Try.func46 rfl _ (by show 3 <= _;decide) ?_;refine zK (wd:=1) (by decide) zM (zb qr) zN ?_;refine zK (wd:=1) (by decide) zM (zb qr) zN ?_;repeat' (first | (apply And.intro<;>intro hc<;>(first | exact Bool.noConfusion hc | (exfalso;first | exact absurd rfl hc) | (simp only [zg] at hc<;>first | exact absurd rfl hc | (exfalso;first | exact absurd rfl hc) | skip) | skip)) | (refine And.intro ze ?_) | (apply And.intro) | (intro s hs;(have q : V = s:=Ys hs (ZE ZS _) hV;clear hs;subst q)) | (refine Exists.intro _ (And.intro ⟨rfl,rfl,rfl⟩ ?_)))
 . exact λ_ _=>⟨rfl,qG _⟩
 . exact Eq.mpr (congrArg LHp (ZE ZS _)) hL
 . exact zCT (by rw [<- hR];unfold qS;rw [if_pos (hV.trans ‹_›)])
 have hVt : ZC L = true:=hV.trans ‹_›;refine zK (wd:=1) (by decide) zM (zb qr) zN ?_;repeat' (first | (apply And.intro<;>intro hc<;>(first | exact Bool.noConfusion hc | (exfalso;first | exact absurd rfl hc) | (simp only [zg] at hc<;>first | exact absurd rfl hc | (exfalso;first | exact absurd rfl hc) | skip) | skip)) | (refine And.intro ze ?_) | (apply And.intro) | (intro s hs;(have q : B = s:=hB.symm.trans hs.symm;clear hs;subst q)) | (refine Exists.intro _ (And.intro ⟨rfl,rfl,rfl⟩ ?_)))
 . exact zCT (by rw [<- hR];unfold qS;rw [if_neg (by rw [hVt];simp),if_pos (hB.trans ‹_›)])
 have hBt : zx now = true:=hB.trans ‹_›;refine zK (wd:=9) (by decide) zM (zb qr) zN ?_;repeat' (first | (apply And.intro<;>intro hc<;>(first | exact Bool.noConfusion hc | (exfalso;first | exact absurd rfl hc) | (simp only [zg] at hc<;>first | exact absurd rfl hc | (exfalso;first | exact absurd rfl hc) | skip) | skip)) | (refine And.intro ze ?_) | (apply And.intro) | (intro s hs;(have q : L = s:=(hs.trans (ZE ZS _)).symm;clear hs;subst q)) | (refine Exists.intro _ (And.intro ⟨rfl,rfl,rfl⟩ ?_)))
 . exact λ_ _=>⟨rfl,qG _⟩
 . exact Eq.mpr (congrArg Cl8 (ZE ZS _)) (vl_c8 hVt)
 refine zK (wd:=1) (by decide) zM (zb qr) zN ?_;repeat' (first | (apply And.intro<;>intro hc<;>(first | exact Bool.noConfusion hc | (exfalso;first | exact absurd rfl hc) | (simp only [zg] at hc<;>first | exact absurd rfl hc | (exfalso;first | exact absurd rfl hc) | skip) | skip)) | (refine And.intro ze ?_) | (apply And.intro) | (intro s hs;skip) | (refine Exists.intro _ (And.intro ⟨rfl,rfl,rfl⟩ ?_)))
 refine zK (wd:=1) (by decide) zM (zb qr) zN ?_;repeat' (first | (apply And.intro<;>intro hc<;>(first | exact Bool.noConfusion hc | (exfalso;first | exact absurd rfl hc) | (simp only [zg] at hc<;>first | exact absurd rfl hc | (exfalso;first | exact absurd rfl hc) | skip) | skip)) | (refine And.intro ze ?_) | (apply And.intro) | (intro s hs;skip) | (refine Exists.intro _ (And.intro ⟨rfl,rfl,rfl⟩ ?_)))
 change Sem _ _ _ _ _ _ _ _;refine Zf (wd:=1) (by decide) zM (zb qr) (zT qr) zN (λ_ : Unit=>SR8 now draw (L.map (Zo now))) (by intro _;rfl) ?_ ?_
 . repeat' (first | (apply And.intro<;>intro hc<;>(first | exact Bool.noConfusion hc | (exfalso;first | exact absurd rfl hc) | (simp only [zg] at hc<;>first | exact absurd rfl hc | (exfalso;first | exact absurd rfl hc) | skip) | skip)) | (refine And.intro ze ?_) | (apply And.intro) | (intro s hs;skip) | (refine Exists.intro _ (And.intro ⟨rfl,rfl,rfl⟩ ?_)))
   conv=>whnf
   refine zQ (zT qr) (SR1 L now draw) (λs=>L.length - s.i) (λ_=>rfl) ?_ (MapI.start _ _) [(1,some 18),(2,some 19),(3,some 20),(4,some 21),(5,some 22),(6,some 23),(7,some 24),(8,some 25),(9,some 26)] ⟨rfl,⟨zA rfl,zA rfl,zE (zD rfl rfl),zE zW,zA rfl,zA rfl,zA rfl,trivial⟩,⟨⟨rfl,⟨rfl,rfl,rfl,rfl,λp hp j hj=>qo hj (qF (P:=λp=>Wc.src _ (2 + p) = some (19 + p)) rfl rfl rfl rfl rfl rfl rfl rfl p (Nat.lt_of_lt_of_le hp (Zp hVt)))⟩⟩,⟨rfl,zB⟩,⟨rfl,zB⟩,⟨rfl,zB⟩,⟨rfl,zB⟩,⟨rfl,zB⟩,⟨rfl,zB⟩,⟨rfl,zB⟩,⟨rfl,zB⟩,trivial⟩⟩;intro s;by_cases hil : s.i < L.length
   . exact rs1_all L now draw hVt s hil _
   . have eM:=s.last hil;have hML : s.M.length = L.length:=s.n;unfold SR1;repeat' (first | (apply And.intro<;>intro hc<;>(first | exact Bool.noConfusion hc | (exfalso;first | exact absurd rfl hc | omega) | (simp only [zg] at hc<;>first | exact absurd rfl hc | (exfalso;first | exact absurd rfl hc | omega) | skip) | skip)) | (refine And.intro ze ?_) | (apply And.intro) | (intro s hs;skip) | (refine Exists.intro _ (And.intro ⟨rfl,rfl,rfl⟩ ?_)))
     conv=>whnf
     rw [<- eM];exact ⟨(),[],rfl,⟨zA rfl,zA rfl,zE (zD rfl rfl),zE zW,zA rfl,trivial⟩,⟨⟨rfl,zP (by have:=Zp hVt;omega) (qF rfl rfl rfl rfl rfl rfl rfl rfl)⟩,⟨rfl,zB⟩,⟨rfl,zB⟩,⟨rfl,zB⟩,⟨rfl,zB⟩,⟨rfl,zB⟩,⟨rfl,zB⟩,⟨rfl,zB⟩,⟨rfl,zB⟩,trivial⟩⟩
 . intro _;have hRe : R = ((Yn now draw (L.map (Zo now)) 0).1,(Yn now draw (L.map (Zo now)) 0).2,0):=by
    rw [<- hR];exact mstep_eq hVt hBt
   exact rstep2 _ now draw (λx hx=>by obtain ⟨y,hy,rfl⟩:=List.mem_map.1 hx;exact zEX (qk hVt y hy).2) (by rw [List.length_map];exact Zp hVt) hdr (Zl.1 hBt) R hRe
abbrev rstepE : Zm:=zCQ (AC.cons (Yl ZF qA) (AC.cons (cI .i64) (AC.cons (cI .u32) AC.nil))) (λa=>LHp a.1 /\ ZM a.2.2.1) (λa=>qS a.1 a.2.1 a.2.2.1) 2 (λnm R=>.tup [.c (.os nm 0 R.1.length),.c (.os (nm + 1) 0 R.2.1.length),.c (.int .i64 R.2.2)]) (λ_ R=>[ZL ZF 78 R.1,ZL Zr 32 R.2.1])
theorem rstepE_ok : EntOk Try.prog 46 rstepE:=zAx ⟨_,Try.func46,rfl,by kernel_rfl⟩ (λ_ _=>rfl) (λnm s=>zFm rfl λi x y hx hy=>by
 rcases i with _ | _ | _ | i
 . injection hx with hx;injection hy with hy;subst hx hy;exact zCr (by have h : Sft 2 nm (.os 0 0 s.1.length) (.os (nm + 0) 0 s.1.length):=zAm (by decide);exact h)
 . injection hx with hx;injection hy with hy;subst hx hy;exact zCr (by have h : Sft 2 nm (.os 1 0 s.2.1.length) (.os (nm + 1) 0 s.2.1.length):=zAm (by decide);exact h)
 . injection hx with hx;injection hy with hy;subst hx hy;exact zCr zBl
 . cases hx) (λnm a ha k e e' h h'=>by
 iterate 2 (rcases k with _ | k;· (injection h with h;injection h' with h';subst h h';first | exact ⟨rfl,rfl,rfl,rfl,λi hi j hj=>zA0 (ZF.sh _ j hj)⟩ | exact ⟨rfl,rfl,rfl,rfl,λi hi j hj=>zA0 (Zr.sh _ j hj)⟩))
 cases h) λa h=>rstep1 a.1 a.2.1 a.2.2.1 h.1 h.2
def LRu : CsL:=(40,some zDD) :: []
theorem LRu_ok : qU Try.prog LRu:=⟨zu ⟨_,Try.func40,rfl,by kernel_rfl⟩ λa h=>zBZ a.1 h,trivial⟩
theorem rsumm_ok (L : List Sed) (hL : LHp L) : zBu Try.prog 23 [(Yl ZF qA).enc L] (some (Yu L).length) none (zBD eSm 60 (Yu L)):=by
 obtain ⟨V,hV⟩ : ∃ V,ZC L = V:=⟨_,rfl⟩;obtain ⟨R,hR⟩ : ∃ R,Yu L = R:=⟨_,rfl⟩;have h8' : V = true -> L.length <= 8:=λh=>Zp (hV.trans h);rw [hR];refine zBb (wd:=1) (by decide) zM (zb LRu_ok) zN Try.func23 rfl _ (by show 1 <= _;decide) (λi _ j _=>row_nf eSm R i j) ?_;repeat' (first | (apply And.intro<;>intro hc<;>(first | exact Bool.noConfusion hc | (exfalso;first | exact absurd rfl hc | omega) | (simp only [zg] at hc<;>first | exact absurd rfl hc | (exfalso;first | exact absurd rfl hc | omega) | skip) | skip)) | (refine And.intro ze ?_) | (apply And.intro) | (intro s hs;(have q : V = s:=Ys hs (ZE ZS _) hV;clear hs;subst q)))
 . exact λ_ _=>⟨rfl,qG _⟩
 . exact Eq.mpr (congrArg LHp (ZE ZS _)) hL
 . have e : R = []:=by rw [<- hR];unfold Yu;rw [if_neg (by rw [hV,(by assumption : V = false)];simp)]
   subst e;conv=>whnf
   exact ⟨none,zE (ZP rfl),⟨rfl,rfl,Nat.le_of_ble_eq_true rfl⟩⟩
 have hVt : ZC L = true:=hV.trans ‹_›;have h8:=Zp hVt;have eR : L.map zC5 = R:=by rw [<- hR];unfold Yu;rw [if_pos hVt]
 conv=>whnf
 refine zQ (zT LRu_ok) (λs : SySt L R=>(⟨[(3,zO (.os 50 0 s.O.length)),(12,zO (qY ZF L)),(13,zO (.int .i64 (L.length : Int))),(14,zO (.int .i64 (s.i : Int)))],[(50,some (zBD eSm 60 s.O))],51⟩ : Hd)) (λs=>L.length - s.i) (λ_=>rfl) ?_ ⟨0,[],Nat.zero_le _,eR,rfl⟩ [(50,none)] ⟨rfl,⟨zE (ZP rfl),zE (zm (zc L)),zA rfl,zA rfl,trivial⟩,⟨rfl,rfl,rfl,Nat.le_of_ble_eq_true rfl⟩,trivial⟩;rintro ⟨i,O,hi,hO,hOl⟩;dsimp only at hi hO hOl ⊢;unfold qY;by_cases hil : i < L.length
 . have hx:=(qk hVt _ (zj hil)).2;obtain ⟨x,ex⟩ : ∃ x,L.getD i default = x:=⟨_,rfl⟩;have ec : zo ZF L i = ZF.cell x:=congrArg ZF.cell ex;rw [ex] at hx;have hO2 : (O ++ [zC5 x]) ++ (L.drop (i + 1)).map zC5 = R:=by rw [qL hil,ex] at hO;rw [<- hO];simp
   have z0 : (i : Int).toNat = i:=rfl;repeat' (first | (simp only [z0,ec]) | (apply And.intro<;>intro hc<;>(first | exact Bool.noConfusion hc | (exfalso;first | exact absurd rfl hc | omega) | (simp only [zg] at hc<;>first | exact absurd rfl hc | (exfalso;first | exact absurd rfl hc | omega) | skip) | skip)) | (refine And.intro ze ?_) | (apply And.intro) | (intro s hs;skip))
   conv=>whnf
   obtain ⟨W,eW⟩ : ∃ W,zCw x.mn x.held 0 = W:=⟨_,rfl⟩;refine zQ (zT LRu_ok) (λs : {p : Nat × Int // p.1 <= x.held.length /\ zCw x.mn (x.held.drop p.1) p.2 = W}=>(⟨[(3,zO (.os 50 0 O.length)),(12,zO (qY ZF L)),(13,zO (.int .i64 (L.length : Int))),(14,zO (.int .i64 (i : Int))),(5,zO (.ptr 51 0 0 false)),(6,zO (.ptr 52 0 0 false)),(24,zO (slN zn x.held)),(25,zO (.int .i64 (x.held.length : Int))),(26,zO (.int .i64 (s.1.1 : Int)))],[(50,some (zBD eSm 60 O)),(51,some ⟨78,1,3,true,λ_=>ZF.cell x⟩),(52,some ⟨60,1,3,true,λ_=>eSm.cell ⟨x.id,x.mn,s.1.2⟩⟩)],53⟩ : Hd)) (λs=>x.held.length - s.1.1) (λ_=>rfl) ?_ ⟨(0,0),Nat.zero_le _,eW⟩ [(51,some 54),(52,some 61)] ⟨rfl,⟨zE (zD rfl rfl),zE (zm (zc L)),zA rfl,zA rfl,zH rfl,zH rfl,zE (qO _).le,zA rfl,zA rfl,trivial⟩,⟨⟨rfl,zAn⟩,⟨rfl,zI λj hj=>(ZF.sh _ j hj).le⟩,⟨rfl,zI (qm ⟨zC rfl,zC rfl,zC rfl⟩)⟩,trivial⟩⟩;rintro ⟨⟨k,b⟩,hk,hb⟩;dsimp only at hk hb ⊢;unfold qY;by_cases hkn : k < x.held.length
   . have hm:=QD hx (zj hkn);have hm1:=(YD hx.h _ (zj hkn)).1;have hmn:=hx.mn;have hmw:=hm.w;have hxn:=hx.n;have hst : zCw x.mn (x.held.drop (k + 1)) (bits .or .u32 b (Yk .u32 1 ((x.held.getD k default).num - x.mn))) = W:=by rw [<- hb,qL hkn];rfl
     have w4 : IntKind.i64.wrap ((k : Int) + 1) = ((k + 1 : Nat) : Int):=(IntWalk.i64_in _ (by omega)).trans (by omega);have w5 : IntKind.i64.wrap ((x.held.getD k default).num - x.mn) = (x.held.getD k default).num - x.mn:=IntWalk.i64_in _ (by omega);have w7 : IntKind.u64.wrap ((x.held.getD k default).num - x.mn) = (x.held.getD k default).num - x.mn:=IntWalk.u64_in _ (by omega);have z1 : (k : Int).toNat = k:=rfl;repeat' (first | (simp only [z1,w4,w5,w7]) | (apply And.intro<;>intro hc<;>(first | exact Bool.noConfusion hc | (exfalso;first | exact absurd rfl hc | omega) | (simp only [zg] at hc<;>first | exact absurd rfl hc | (exfalso;first | exact absurd rfl hc | omega) | skip) | skip)) | (refine And.intro ze ?_) | (apply And.intro) | (intro s hs;skip))
     . show (0 : Int) <= (x.held.getD k default).num - x.mn;omega
     conv=>whnf
     exact ⟨⟨(k + 1,_),hkn,hst⟩,[],by dsimp only;omega,rfl,⟨zE (zD rfl rfl),zE (zm (zc L)),zA rfl,zA rfl,zH rfl,zH rfl,zE (qO _).le,zA rfl,zA w4,trivial⟩,⟨⟨rfl,zAn⟩,⟨rfl,zI λj hj=>(ZF.sh _ j hj).le⟩,⟨rfl,zI (qm ⟨zC rfl,zC rfl,zC rfl⟩)⟩,trivial⟩⟩
   . have e : b = W:=by rw [<- hb,List.drop_of_length_le (by omega)];rfl
     subst e;repeat' (first | (apply And.intro<;>intro hc<;>(first | exact Bool.noConfusion hc | (exfalso;first | exact absurd rfl hc | omega) | (simp only [zg] at hc<;>first | exact absurd rfl hc | (exfalso;first | exact absurd rfl hc | omega) | skip) | skip)) | (refine And.intro ze ?_) | (apply And.intro) | (intro s hs;skip))
     have w4 : IntKind.i64.wrap ((i : Int) + 1) = ((i + 1 : Nat) : Int):=(IntWalk.i64_in _ (by omega)).trans (by omega);conv=>whnf
     refine ⟨⟨i + 1,O ++ [zC5 x],hil,hO2,by rw [List.length_append,hOl];rfl⟩,[(50,some 57)],by dsimp only;omega,rfl,⟨zE (zD rfl (by rw [List.length_append];rfl)),zE (zm (zc L)),zA rfl,zA w4,trivial⟩,⟨⟨rfl,?_⟩,trivial⟩⟩;refine zFA (E:=eSm) (L:=O) (x:=zC5 x) rfl (λi hi j hj=>ZU (Nat.ble_eq_true_of_le hi) (Elem.flat _ _ _).le) ?_;repeat' (first | exact trivial | (refine Zd (Zn _) ?_;rw [Nat.sub_self];first | exact zC rfl | exact zC eW.symm) | apply And.intro)
 . have hi2 : i = L.length:=by omega
   subst hi2;have e : O = R:=by rw [<- hO,List.drop_of_length_le (Nat.le_refl _)];simp
   subst e;repeat' (first | (apply And.intro<;>intro hc<;>(first | exact Bool.noConfusion hc | (exfalso;first | exact absurd rfl hc | omega) | (simp only [zg] at hc<;>first | exact absurd rfl hc | (exfalso;first | exact absurd rfl hc | omega) | skip) | skip)) | (refine And.intro ze ?_) | (apply And.intro) | (intro s hs;skip))
   conv=>whnf
   exact ⟨some 50,zE (zD rfl rfl),zAn⟩
abbrev rsummE : Zm:=newE (AC.cons (Yl ZF qA) AC.nil) (λa=>LHp a.1) (λa=>Yu a.1) (λs=>some s.length) (λ_=>none) (λs=>zBD eSm 60 s)
theorem rsummE_ok : EntOk Try.prog 23 rsummE:=zB5 ⟨_,Try.func23,rfl,by kernel_rfl⟩ (λs l h x hx=>by cases h) λa h=>rsumm_ok a.1 h
end Go.Proofs.Ytfaibcgakcmhcaa.AX
namespace Go.Proofs.Ytfaibcgakcmhcaa.AX
open Go.RowKit
structure CmpP (L : List Sed) (S : List Smy) (d : Int) : Prop where
 h : LHn L
 n : S.length <= 9223372036854775807
 d : ZM d
end Go.Proofs.Ytfaibcgakcmhcaa.AX
namespace Go.Proofs.Ytfaibcgakcmhcaa.AX
open Go.RowKit
structure CmpR (L : List Sed) (S : List Smy) (d : Int) : Prop where
 h : LHp L
 n : S.length <= 9223372036854775807
 i : ∀ x ∈ S,0 <= x.id
 d : ZM d
theorem eqSm (x : Smy) : ZD (eSm.cell x) (eSm.cell x) 3 0 = true:=zEU _ 3 λi hi=>by
 iterate 3 (rcases i with _ | i;· exact rfl)
 exact absurd hi (by omega)
theorem eqY_ok (a : List Smy) (ha : a.length <= 9223372036854775807) : Zc Try.prog 48 [(cSl eSm zEa).enc a,(cSl eSm zEa).enc a] (cB.enc true):=by
 refine zr (wd:=1) (by decide) zM (zb qD) zN Try.func48 rfl _ (by show 2 <= _;decide) _ ?_;repeat' (first | (apply And.intro<;>intro hc<;>(first | exact Bool.noConfusion hc | (exfalso;first | exact absurd rfl hc | omega) | (simp only [zg] at hc<;>first | exact absurd rfl hc | (exfalso;first | exact absurd rfl hc | omega) | skip) | skip)) | (refine And.intro ze ?_) | (apply And.intro) | (intro s hs;subst hs))
 conv=>whnf
 refine zQ (zT qD) (λi : {i : Nat // i <= a.length}=>(⟨[(0,zO (.sl false a.length eSm.sz (qC eSm a))),(1,zO (.sl false a.length eSm.sz (qC eSm a))),(12,zO (.int .i64 (a.length : Int))),(13,zO (.int .i64 (i.1 : Int)))],[],30⟩ : Hd)) (λi=>a.length - i.1) (λ_=>rfl) ?_ ⟨0,Nat.zero_le _⟩ [] ⟨rfl,⟨zAk (zCX eSm a),zAk (zCX eSm a),zA rfl,zA rfl,trivial⟩,trivial⟩;rintro ⟨i,hi⟩;dsimp only at hi ⊢;by_cases hil : i < a.length
 . have w4 : IntKind.i64.wrap ((i : Int) + 1) = ((i + 1 : Nat) : Int):=(IntWalk.i64_in _ (by omega)).trans (by omega);have s1:=eqSm (a.getD i default);repeat' (first | (apply And.intro<;>intro hc<;>(first | exact Bool.noConfusion hc | (exfalso;first | exact absurd rfl hc | omega | exact absurd (s1.symm.trans hc) (by decide) | exact Bool.noConfusion (s1.symm.trans hc)) | (simp only [zg] at hc<;>first | exact absurd rfl hc | (exfalso;first | exact absurd rfl hc | omega | exact absurd (s1.symm.trans hc) (by decide) | exact Bool.noConfusion (s1.symm.trans hc)) | skip) | skip)) | (refine And.intro ze ?_) | (apply And.intro) | (intro s hs;subst hs))
   conv=>whnf
   exact ⟨⟨i + 1,hil⟩,[],by dsimp only;omega,rfl,⟨zAk (zCX eSm a),zAk (zCX eSm a),zA rfl,zA w4,trivial⟩,trivial⟩
 . repeat' (first | (apply And.intro<;>intro hc<;>(first | exact Bool.noConfusion hc | (exfalso;first | exact absurd rfl hc | omega) | (simp only [zg] at hc<;>first | exact absurd rfl hc | (exfalso;first | exact absurd rfl hc | omega) | skip) | skip)) | (refine And.intro ze ?_) | (apply And.intro) | (intro s hs;subst hs))
   conv=>whnf
   exact Done.mk (zG rfl)
abbrev eqYE : Zm:=qy (AC.cons (cSl eSm zEa) (AC.cons (cSl eSm zEa) AC.nil)) (λa=>a.1 = a.2.1 /\ a.1.length <= 9223372036854775807) (λ_=>true) cB.enc
theorem eqYE_ok : EntOk Try.prog 48 eqYE:=zu ⟨_,Try.func48,rfl,by kernel_rfl⟩ λa h=>by
 obtain ⟨p,q,u⟩:=a;obtain ⟨h,hn⟩:=h;dsimp only at h hn;subst h;exact eqY_ok p hn
theorem runH_clen {id now draw : Int} : ∀ {L : List Hel} {b : Nat},(qe id now draw L b).2.length <= L.length:=by
 intro L;induction L with
 | nil=>intro _;exact Nat.le_refl _
 | cons a t ih=>
   intro b;have:=ih (b:=b + 1);unfold qe;split
   . dsimp only;split
     . rw [List.length_cons,List.length_cons];omega
     . rw [List.length_cons];omega
   . dsimp only;rw [List.length_cons];omega
theorem runL_clen {now draw : Int} : ∀ {L : List Sed} {b : Nat},(∀ s ∈ L,s.held.length <= 32) -> (Yn now draw L b).2.length <= 32 * L.length:=by
 intro L;induction L with
 | nil=>intro _ _;exact Nat.le_refl _
 | cons a t ih=>
   intro b h;have h1:=runH_clen (id:=a.id) (now:=now) (draw:=draw) (L:=a.held) (b:=b);have h2:=ih (b:=b + a.held.length) λs hs=>h s (List.mem_cons_of_mem _ hs);have h3:=h a List.mem_cons_self;show ((qe a.id now draw a.held b).2 ++ (Yn now draw t (b + a.held.length)).2).length <= _;rw [List.length_append,List.length_cons];omega
theorem zET {L : List Sed} {now draw : Int} : LHn (qS L now draw).1 /\ (qS L now draw).2.1.length <= 9223372036854775807:=by
 by_cases h : (qS L now draw).2.2 = 0
 . refine ⟨vl_hn (zD0 h),?_⟩;unfold qS at h ⊢;split
   . exact Nat.zero_le _
   . split
     . exact Nat.zero_le _
     . rename_i h1 h2;have hv : ZC L = true:=by
        cases hh : ZC L with
        | true=>rfl
        | false=>exact absurd hh h1
       have h8:=Zp hv;have:=runL_clen (now:=now) (draw:=draw) (L:=L.map (Zo now)) (b:=0) λs hs=>by
        obtain ⟨x,hx,rfl⟩:=List.mem_map.1 hs;exact (zEX (qk hv x hx).2).n
       rw [List.length_map] at this;dsimp only;omega
 . unfold qS at h ⊢;split
   . exact ⟨⟨λx hx=>(List.not_mem_nil hx).elim,Nat.zero_le _⟩,Nat.zero_le _⟩
   . split
     . exact ⟨⟨λx hx=>(List.not_mem_nil hx).elim,Nat.zero_le _⟩,Nat.zero_le _⟩
     . rename_i h1 h2;rw [if_neg h1,if_neg h2] at h;exact absurd rfl h
theorem rd_st {s K : List Sed × List Cas × Int} {M L : List Sed} {now draw : Int} (hs : s = qS M now draw) (h : M = L) (hK : qS L now draw = K) : K = s:=by rw [hs,h,hK]
theorem rd_sm2 {s K : List Smy} {M L : List Sed} (hs : s = Yu M) (h : M = L) (hK : Yu L = K) : K = s:=by rw [hs,h,hK]
theorem summ_len {L : List Sed} (h : LHn L) : (Yu L).length <= 9223372036854775807:=by
 have:=h.n;unfold Yu;split
 . rw [List.length_map];exact this
 . exact Nat.zero_le _
def LVs : CsL:=(31,some zDF) :: (40,some zDD) :: (41,some samesE) :: []
theorem LVs_ok : qU Try.prog LVs:=⟨zu ⟨_,Try.func31,rfl,by kernel_rfl⟩ λa h=>zBa a.1 h,zu ⟨_,Try.func40,rfl,by kernel_rfl⟩ λa h=>zBZ a.1 h,samesE_ok,trivial⟩
def LSt : CsL:=(21,some mstepE) :: (46,some rstepE) :: (30,some summE) :: (23,some rsummE) :: (47,some samecE) :: (48,some eqYE) :: LVs
theorem LSt_ok : qU Try.prog LSt:=⟨mstepE_ok,rstepE_ok,summE_ok,rsummE_ok,samecE_ok,eqYE_ok,LVs_ok⟩
theorem steps_ok (L : List Sed) (now : Int) (draw : Int) (hL : LHp L) (hdr : ZM draw) : Zc Try.prog 22 [(Yl ZF qA).enc L,(cI .i64).enc now,(cI .u32).enc draw] (cB.enc true):=by
 obtain ⟨A,hA⟩ : ∃ A,qS L now draw = A:=⟨_,rfl⟩;obtain ⟨Y,hY⟩ : ∃ Y,Yu L = Y:=⟨_,rfl⟩;have hn : LHn A.1:=by rw [<- hA];exact zET.1
 have hz : A.2.1.length <= 9223372036854775807:=by rw [<- hA];exact zET.2
 have hy : Y.length <= 9223372036854775807:=by rw [<- hY];exact summ_len hL.h
 have hv : A.2.2 = 0 -> ZC A.1 = true:=λh=>by rw [<- hA] at h ⊢;exact zD0 h
 refine zr (wd:=2) (by decide) zM (zb LSt_ok) zN Try.func22 rfl _ (by show 3 <= _;decide) _ ?_;repeat' (first | (apply And.intro<;>intro hc<;>(first | exact Bool.noConfusion hc | (exfalso;first | exact absurd rfl hc | exact absurd (beq_self_eq_true _) (by rw [hc];decide)) | (simp only [zg] at hc<;>first | exact absurd rfl hc | (exfalso;first | exact absurd rfl hc | exact absurd (beq_self_eq_true _) (by rw [hc];decide)) | skip) | skip)) | (refine And.intro ze ?_) | (apply And.intro) | (intro s hs;(first | (have q : A = s:=rd_st hs (ZE ZS _) hA;clear hs;subst q) | (have q : Y = s:=rd_sm2 hs (ZE ZS _) hY;clear hs;subst q) | (have q:=Ys hs (zL ZS _) rfl;clear hs;subst q) | subst hs)))
 all_goals try first
  | exact λ_ _=>⟨rfl,qG _⟩
  | exact λ_ _=>⟨rfl,zl _⟩
  | exact λ_ _=>rfl
  | exact Eq.mpr (congrArg LHn (ZE ZS _)) hL.h
  | exact Eq.mpr (congrArg LHp (ZE ZS _)) hL
  | exact ⟨Eq.mpr (congrArg LHn (ZE ZS _)) hL.h,hdr⟩
  | exact ⟨Eq.mpr (congrArg LHp (ZE ZS _)) hL,hdr⟩
  | exact Eq.mpr (congrArg LHn (zL ZS _)) hn
  | exact hdr.1
  | exact hdr.2
  | exact rfl
 . show (Yt Zr A.2.1.length λk j=>zo Zr A.2.1 (0 + k) j).length <= _;rw [QG];exact hz
 . show (toL eSm Y.length λk j=>qC eSm Y (0 + k) j).length <= _;rw [zEd];exact hy
 . conv=>whnf
   exact Done.mk (zG rfl)
 . conv=>whnf
   exact Done.mk (zG (hv ‹_›))
abbrev stepsE : Zm:=qy (AC.cons (Yl ZF qA) (AC.cons (cI .i64) (AC.cons (cI .u32) AC.nil))) (λa=>LHp a.1 /\ ZM a.2.2.1) (λ_=>true) cB.enc
theorem stepsE_ok : EntOk Try.prog 22 stepsE:=zu ⟨_,Try.func22,rfl,by kernel_rfl⟩ λa h=>steps_ok a.1 a.2.1 a.2.2.1 h.1 h.2
def LSw : CsL:=(13,some smallE) :: (22,some stepsE) :: (20,some spoilSE) :: (12,some zFb) :: (15,some seedsE) :: LWd
theorem LSw_ok : qU Try.prog LSw:=⟨smallE_ok,stepsE_ok,zGB,zFc,YI ⟨_,Try.func15,rfl,by kernel_rfl⟩ λn l q a ht hp=>seeds_ok n l q a.1 ht hp,LWd_ok⟩
theorem stepsL_ok (raw : List Sed) (hraw : LHp raw) (len : Nat) (z : List Int) (hz : rngL z) (now : Int) (draw : Int) (hdr : ZM draw) : Zc Try.prog 6 [.e (.c (slN ZF raw)),.e (.c (.sl true len 1 (rI z))),(cI .i64).enc now,(cI .u32).enc draw] (.e (.c (.bool true))):=by
 refine zr (wd:=1) (by decide) zM (zb LSw_ok) zN Try.func6 rfl _ (by show 4 <= _;decide) _ ?_;repeat' (first | (apply And.intro<;>intro hc<;>(first | exact Bool.noConfusion hc | (exfalso;first | exact absurd rfl hc | omega) | (simp only [zg] at hc<;>first | exact absurd rfl hc | (exfalso;first | exact absurd rfl hc | omega) | skip) | skip)) | (refine And.intro ze ?_) | (apply And.intro) | (intro s hs;skip))
 . exact ⟨rfl,qG _⟩
 . exact Eq.mpr (congrArg LHn (ZE ZS _)) hraw.h
 . conv=>whnf
   exact Done.mk (zG hs)
 . exact ⟨z,rfl,hz⟩
 intro ht0;obtain ⟨m,em⟩ : ∃ m,m = s:=⟨s,rfl⟩;obtain ⟨q0,eq0⟩ : ∃ q0,q0 = hs:=⟨hs,rfl⟩;subst em eq0;repeat' (first | (apply And.intro<;>intro hc<;>(first | exact Bool.noConfusion hc | (exfalso;first | exact absurd rfl hc | omega | exact Bool.noConfusion hc) | (simp only [zg] at hc<;>first | exact absurd rfl hc | (exfalso;first | exact absurd rfl hc | omega | exact Bool.noConfusion hc) | skip) | skip)) | (refine And.intro ze ?_) | (apply And.intro) | (intro s hs;(first | subst hs | skip)))
 all_goals try first
  | exact ⟨rfl,qG _⟩
  | exact λ_ _=>⟨rfl,qG _⟩
  | exact λ_=>⟨rfl,qG _⟩
  | exact hdr.1
  | exact hdr.2
  | exact Eq.mpr (congrArg LHp (ZE ZS _)) hraw
  | exact Eq.mpr (congrArg LHp (ZE ZS _)) (vl_hp ‹_›)
  | exact Eq.mpr (congrArg LHp (ZE ZS _)) ‹_›
  | exact Eq.mpr (congrArg (λz : List Sed=>ZC z = true) (ZE ZS _)) ‹_›
 conv=>whnf
 exact Done.mk (zG rfl)
end Go.Proofs.Ytfaibcgakcmhcaa.AX
namespace Go.Proofs.Ytfaibcgakcmhcaa
open Go.ChangeShapes Go.WideShapes Go.RowKit AX
inductive Sh where
 | c (k : Option IntKind)
 | s (e : List Sh)
instance : Inhabited Sh:=⟨.c none⟩
def shFs (P : Program) (g : TypeId -> Option (List Sh)) : List Field -> Nat -> Option (List Sh)
 | [],_=>some []
 | fd :: rest,off=>
   match g fd.type with
   | some l=>bif Nat.beq fd.offset off && Nat.beq (P.cellsOf fd.type) l.length then (shFs P g rest (off + l.length)).map (l ++ ·) else none
   | none=>none
def shOf (P : Program) : Nat -> TypeId -> Option (List Sh)
 | 0,_=>none
 | f + 1,t=>
   match P.underlying t with
   | some .bool=>some [.c none]
   | some (.int k)=>some [.c (some k)]
   | some (.struct fs)=>
     match shFs P (shOf P f) fs.toList 0 with
     | some l=>bif Nat.beq (P.cellsOf t) l.length then some l else none
     | none=>none
   | some (.array n e)=>
     match shOf P f e with
     | some l=>bif Nat.beq (P.cellsOf e) l.length && Nat.beq (P.cellsOf t) (n * l.length) then some (List.replicate n l).flatten else none
     | none=>none
   | some (.slice e)=>
     match shOf P f e with
     | some l=>bif Nat.beq (P.cellsOf e) l.length && Nat.blt 0 l.length then some [.s l] else none
     | none=>none
   | _=>none
inductive KV (w : World) : Sh -> Value -> CV -> Prop
 | c (k : Option IntKind) (v : Value) : KOk k v -> KV w (.c k) v (cvOf v)
 | z (e : List Sh) (a : Option Addr) (cap : Nat) : KV w (.s e) (.slice a 0 cap) (.sl true 0 e.length λ_ _=>.top)
 | s (e : List Sh) (ad : Addr) (len cap : Nat) (U : Nat -> Nat -> Value) (f : Nat -> Nat -> CV) : 0 < e.length -> len <= cap -> len <= 9223372036854775807 -> ad.spot = none ->
     (∀ i j,i < len -> j < e.length -> w.cell? ⟨ad.block,ad.off + (i * e.length + j),none⟩ = some (U i j)) -> (∀ i j,i < len -> j < e.length -> KV w (e.getD j default) (U i j) (f i j)) -> KV w (.s e) (.slice (some ad) len cap) (.sl true len e.length f)
theorem KV.rel {w : World} {s : Sh} {v : Value} {x : CV} (h : KV w s v x) : x.rel (λ_=>none) (λ_=>False) (λ_=>False) w v:=by
 induction h with
 | c k v h=>exact h.cv.2 _ _ _ _
 | z e a cap=>exact ⟨a,cap,rfl,Nat.zero_le _,λh=>absurd h (Nat.lt_irrefl _)⟩
 | s e ad len cap U f h0 hl _ hs hc hk ih=>
   refine ⟨some ad,cap,rfl,hl,λhpos=>⟨ad,rfl,hs,λh=>h,λ_ h=>h,?_,λi hi j hj=>⟨_,hc i j hi hj,ih i j hi hj⟩⟩⟩;exact cells_lt (ad:=⟨ad.block,ad.off + (0 * e.length + 0),none⟩) (hc 0 0 hpos h0)
def KVs (w : World) (ss : List Sh) (vs : List Value) : Prop:=vs.length = ss.length /\ ∀ (j : Nat) v,vs[j]? = some v -> ∃ x,KV w (ss.getD j default) v x
theorem KVs.append {w : World} {a b : List Sh} {x y : List Value} (h : KVs w a x) (h' : KVs w b y) : KVs w (a ++ b) (x ++ y):=by
 refine ⟨by rw [List.length_append,List.length_append,h.1,h'.1],λj v hv=>?_⟩;rw [List.getD_eq_getElem?_getD];by_cases hj : j < x.length
 . rw [List.getElem?_append_left hj] at hv;rw [List.getElem?_append_left (by rw [<- h.1];exact hj),<- List.getD_eq_getElem?_getD];exact h.2 j v hv
 . rw [List.getElem?_append_right (by omega)] at hv;rw [List.getElem?_append_right (by rw [<- h.1];omega),<- List.getD_eq_getElem?_getD,<- h.1];exact h'.2 _ v hv
section
variable {H : Type} {enc : TypeId × Value -> H} {P : Program} {w : World} {base : Nat} {spare : Nat -> Bool} {held : Bool}
theorem shFs_kv {g : TypeId -> Option (List Sh)} {cs : List Value} : ∀ (fs : List Field) (off : Nat) (ks : List Sh),shFs P g fs off = some ks ->
 (∀ fd ∈ fs,∀ l,g fd.type = some l -> KVs w l ((cs.drop fd.offset).take (P.cellsOf fd.type))) -> cs.length = off + ks.length -> KVs w ks (cs.drop off):=by
 intro fs;induction fs with
 | nil=>
   intro off ks h _ hl;simp only [shFs,Option.some.injEq] at h;subst h;rw [List.drop_eq_nil_of_le (by simp at hl;omega)];exact ⟨rfl,λj v h=>by simp at h⟩
 | cons fd rest ih=>
   intro off ks h hm hl;simp only [shFs] at h;split at h
   . rename_i l hg;cases hb : (Nat.beq fd.offset off && Nat.beq (P.cellsOf fd.type) l.length) with
     | false=>rw [hb] at h;cases h
     | true=>
       rw [hb,cond_true] at h;simp only [Bool.and_eq_true] at hb;have h1:=Nat.eq_of_beq_eq_true hb.1;have h2:=Nat.eq_of_beq_eq_true hb.2;cases hr : shFs P g rest (off + l.length) with
       | none=>rw [hr] at h;cases h
       | some l'=>
         rw [hr] at h;simp only [Option.map_some,Option.some.injEq] at h;subst h;have m1:=hm fd (by simp) l hg;rw [h1,h2] at m1;have m2:=ih _ _ hr (λfd' hfd l hl=>hm fd' (by simp [hfd]) l hl) (by simp at hl;omega);rw [show cs.drop off = (cs.drop off).take l.length ++ cs.drop (off + l.length) by
          rw [<- List.drop_drop,List.take_append_drop]]
         exact m1.append m2
   . cases h
theorem sh_kv : ∀ (f : Nat) (t : TypeId) (ks : List Sh) (fuel : Nat) (cs : List Value) (x : DataW H × List MemPlace),shOf P f t = some ks -> DataW.trod enc P w base spare held fuel t cs = some x -> KVs w ks cs:=by
 intro f;induction f with
 | zero=>intro t ks fuel cs x h;cases h
 | succ f ih=>
   intro t ks fuel cs x h hd;have zO : ∀ {s : Sh} {v : Value} {y : CV},KV w s v y -> KVs w [s] [v]:=fun {s v y} hk=>⟨rfl,λj u hu=>by
    cases j with
    | zero=>simp only [List.getElem?_cons_zero,Option.some.injEq] at hu;subst hu;exact ⟨y,hk⟩
    | succ j=>simp at hu⟩
   simp only [shOf] at h;split at h
   . rename_i ht;simp only [Option.some.injEq] at h;subst h;cases fuel with
     | zero=>simp [DataW.trod] at hd
     | succ m=>
       unfold DataW.trod at hd;rw [ht] at hd;split at hd<;>simp_all
       exact zO (.c none _ ⟨_,rfl⟩)
   . rename_i k ht;simp only [Option.some.injEq] at h;subst h;obtain ⟨n,rfl,hx,hw⟩:=DataW.trod_int ht hd;exact zO (.c (some k) _ ⟨n,rfl,hw⟩)
   . rename_i fs ht;split at h
     . rename_i l hfl;cases hb : Nat.beq (P.cellsOf t) l.length with
       | false=>rw [hb] at h;cases h
       | true=>
         rw [hb] at h;simp only [cond_true,Option.some.injEq] at h;subst h;obtain ⟨ys,m,_,_,hlen,hyl,hf⟩:=DataW.trod_struct ht hd;have:=shFs_kv (cs:=cs) (w:=w) fs.toList 0 l hfl (λfd hfd l' hg=>?_) (by rw [hlen,Nat.eq_of_beq_eq_true hb];omega)
         . simpa using this
         . obtain ⟨i,hi,hfi⟩:=List.getElem_of_mem hfd;have hi' : i < fs.size:=by simpa using hi
           have e1 : fs[i]? = some fd:=by
            rw [Array.getElem?_eq_getElem hi'];simpa using hfi
           have hfd':=hf i fd e1;have hy : ys[i]? = some ys[i]:=List.getElem?_eq_getElem (by omega);rw [hy] at hfd';exact ih _ _ _ _ _ hg hfd'
     . cases h
   . rename_i n e ht;split at h
     . rename_i l hfl;cases hb : (Nat.beq (P.cellsOf e) l.length && Nat.beq (P.cellsOf t) (n * l.length)) with
       | false=>rw [hb] at h;cases h
       | true=>
         rw [hb] at h;simp only [cond_true,Option.some.injEq] at h;subst h;simp only [Bool.and_eq_true] at hb;have h1:=Nat.eq_of_beq_eq_true hb.1;have h2:=Nat.eq_of_beq_eq_true hb.2;obtain ⟨xs,m,_,_,hlen,hxl,hel⟩:=DataW.trod_array ht hd;have key : ∀ j,j <= n -> KVs w (List.replicate j l).flatten (cs.drop ((n - j) * l.length)):=by
          intro j;induction j with
          | zero=>
            intro _;rw [List.drop_eq_nil_of_le (by rw [hlen,h2];simp)];exact ⟨rfl,λj v h=>by simp at h⟩
          | succ j ihj=>
            intro hj;have hi:=hel (n - (j + 1)) (by omega);rw [h1] at hi;obtain ⟨y,hy⟩ : ∃ y,xs[n - (j + 1)]? = some y:=⟨_,List.getElem?_eq_getElem (by omega)⟩;rw [hy] at hi;have m1:=ih _ _ _ _ _ hfl hi;have m2:=ihj (by omega);rw [List.replicate_succ,List.flatten_cons];rw [show cs.drop ((n - (j + 1)) * l.length) = (cs.drop ((n - (j + 1)) * l.length)).take l.length ++ cs.drop ((n - j) * l.length) by
             rw [show (n - j) * l.length = (n - (j + 1)) * l.length + l.length by rw [show n - j = (n - (j + 1)) + 1 by omega,Nat.add_mul,Nat.one_mul],<- List.drop_drop,List.take_append_drop]]
            exact m1.append m2
         simpa using key n (Nat.le_refl _)
     . cases h
   . rename_i e ht;split at h
     . rename_i l hfl;cases hb : (Nat.beq (P.cellsOf e) l.length && Nat.blt 0 l.length) with
       | false=>rw [hb] at h;cases h
       | true=>
         rw [hb] at h;simp only [cond_true,Option.some.injEq] at h;subst h;simp only [Bool.and_eq_true] at hb;have hc:=Nat.eq_of_beq_eq_true hb.1;have h0 : 0 < l.length:=Nat.le_of_ble_eq_true hb.2;rcases Go.Deep.open_slice ht hd with ⟨rfl,hx⟩ | ⟨a',len,cap,m,n,D,Pl,rfl,hbs,hl,hm,hmm,hx,hel⟩
         . exact zO (.z l none 0)
         . have hlm : len <= m:=by rw [hmm];split<;>omega
           by_cases hpos : 0 < len
           . have hsp : a'.spot = none:=by
              obtain ⟨cs0,g1,g2⟩:=hel 0 (by omega);have hk:=ih e l n _ _ hfl g2;obtain ⟨_,g3,g4⟩:=World.cells?_some g1;have:=g4 0 (by rw [hc];exact h0);rw [Nat.zero_mul,zCu,zCu] at this;cases hc0 : cs0[0]? with
              | none=>rw [List.getElem?_eq_none_iff] at hc0;have:=hk.1;omega
              | some u=>rw [hc0] at this;exact zEV this
             have each : ∀ i j,i < len -> j < l.length -> ∃ p : Value × CV,w.cell? ⟨a'.block,a'.off + (i * l.length + j),none⟩ = some p.1 /\ KV w (l.getD j default) p.1 p.2:=λi j hi hj=>by
              obtain ⟨cs',g1,g2⟩:=hel i (by omega);have hk:=ih e l n _ _ hfl g2;obtain ⟨_,g3,g4⟩:=World.cells?_some g1;obtain ⟨u,hu⟩ : ∃ u,cs'[j]? = some u:=⟨_,List.getElem?_eq_getElem (by rw [hk.1];exact hj)⟩;have:=g4 j (by omega);rw [Go.Deep.add_add,addS hsp,hu,hc] at this;obtain ⟨x,hx⟩:=hk.2 j u hu;exact ⟨(u,x),this,hx⟩
             have hch : ∃ F : Nat -> Nat -> Value × CV,∀ i j,i < len -> j < l.length -> w.cell? ⟨a'.block,a'.off + (i * l.length + j),none⟩ = some (F i j).1 /\ KV w (l.getD j default) (F i j).1 (F i j).2:=
              ⟨λi j=>if h : i < len /\ j < l.length then Classical.choose (each i j h.1 h.2) else (default,.top),λi j hi hj=>by
                show w.cell? _ = some (dite _ _ _ : Value × CV).1 /\ KV w _ (dite _ _ _ : Value × CV).1 (dite _ _ _ : Value × CV).2;rw [dif_pos ⟨hi,hj⟩];exact Classical.choose_spec (each i j hi hj)⟩
             obtain ⟨F,hF⟩:=hch;exact zO (.s l a' len cap (λi j=>(F i j).1) (λi j=>(F i j).2) h0 hl (Nat.le_trans hl hm) hsp (λi j hi hj=>(hF i j hi hj).1) (λi j hi hj=>(hF i j hi hj).2))
           . have : len = 0:=by omega
             subst this;exact zO (.z l (some a') cap)
     . cases h
   . cases h
theorem open_shs {r : Reach} {b0 f : Nat} {t : TypeId} {v : Value} {d : DataW H} {ps : List MemPlace} {ks : List Sh} {e : TypeId} (hs : P.underlying t = some (.slice e)) (hf : shOf P f t = some ks) (hval : Value.okWide P w r b0 t v) (hd : DataW.Trod enc P w base spare held t v d ps) :
 ∃ a len cap,v = .slice a len cap /\ KVs w ks [.slice a len cap]:=by
 obtain ⟨a,len,cap,rfl⟩:=okWide_slice hs hval;obtain ⟨fuel,hd⟩:=hd;exact ⟨a,len,cap,rfl,sh_kv f t ks fuel _ _ hf hd⟩
end
theorem KV.num {w : World} {k : Option IntKind} {v : Value} {x : CV} (h : KV w (.c k) v x) : KOkC k x:=by
 cases h with
 | c _ _ h=>exact h.cv.1
theorem KV.row {w : World} {e : List Sh} {v : Value} {x : CV} (h : KV w (.s e) v x) : ∃ n f,x = .sl true n e.length f /\ n <= 9223372036854775807 /\ ∀ i j,i < n -> j < e.length -> ∃ u,KV w (e.getD j default) u (f i j):=by
 cases h with
 | z _ a cap=>exact ⟨0,_,rfl,Nat.zero_le _,λi j h=>absurd h (Nat.not_lt_zero _)⟩
 | s _ ad len cap U f h0 hl hm hs hc hk=>exact ⟨len,f,rfl,hm,λi j hi hj=>⟨_,hk i j hi hj⟩⟩
theorem KVs.g {w : World} {ss : List Sh} {vs : List Value} (h : KVs w ss vs) : ∃ g : Nat -> CV,(∀ j,j < ss.length -> ∃ u,vs[j]? = some u /\ KV w (ss.getD j default) u (g j)):=by
 have each : ∀ j,j < ss.length -> ∃ x,∃ u,vs[j]? = some u /\ KV w (ss.getD j default) u x:=λj hj=>by
  obtain ⟨u,hu⟩ : ∃ u,vs[j]? = some u:=⟨_,List.getElem?_eq_getElem (by rw [h.1];exact hj)⟩;obtain ⟨x,hx⟩:=h.2 j u hu;exact ⟨x,u,hu,hx⟩
 exact ⟨λj=>if hj : j < ss.length then Classical.choose (each j hj) else .top,λj hj=>by
  show ∃ u,_ /\ KV w _ u (dite _ _ _);rw [dif_pos hj];exact Classical.choose_spec (each j hj)⟩
end Go.Proofs.Ytfaibcgakcmhcaa
namespace Go.Proofs.Ytfaibcgakcmhcaa
open Go.RowKit AX
abbrev shHd : List Sh:=[.c (some .i64),.s [.c (some .u8)],.c (some .i64),.c (some .i64),.c (some .i64),.c (some .i64),.c (some .i64),.c (some .i64),.c (some .i64),.c none,.c (some .i64)]
abbrev shSd : List Sh:=[.c (some .u64),.c (some .i64),.s shHd]
abbrev shL (l : List Sh) : List Sh:=[.s l]
theorem zDC {w : World} {k : IntKind} {v : Value} {x : CV} (h : KV w (.c (some k)) v x) : isK k x = true:=by
 obtain ⟨n,hn,_⟩:=h.num;rw [hn];simp [isK,YP]
theorem kv_b {w : World} {v : Value} {x : CV} (h : KV w (.c none) v x) : isB x = true:=by
 obtain ⟨n,hn⟩:=h.num;rw [hn];rfl
theorem kv_u64 {w : World} {v : Value} {x : CV} (h : KV w (.c (some .u64)) v x) : 0 <= YY x:=by
 obtain ⟨n,hn,hw⟩:=h.num;rw [hn];simp [Lit.wf,IntKind.min,IntKind.max,IntKind.bits,IntKind.signed] at hw;show 0 <= n;omega
theorem kv_data {w : World} {v : Value} {x : CV} (h : KV w (.s [.c (some .u8)]) v x) : okD x:=by
 obtain ⟨n,f,rfl,_,hk⟩:=h.row;refine ⟨rfl,λi hi=>?_⟩;obtain ⟨u,hu⟩:=hk i 0 hi (by decide);exact zDC hu
theorem kv_held {w : World} {g : Nat -> CV} (h : ∀ j,j < 11 -> ∃ u,KV w (shHd.getD j default) u (g j)) : zn.ok g:=by
 obtain ⟨_,h0⟩:=h 0 (by decide);obtain ⟨_,h1⟩:=h 1 (by decide);obtain ⟨_,h2⟩:=h 2 (by decide);obtain ⟨_,h3⟩:=h 3 (by decide);obtain ⟨_,h4⟩:=h 4 (by decide);obtain ⟨_,h5⟩:=h 5 (by decide);obtain ⟨_,h6⟩:=h 6 (by decide);obtain ⟨_,h7⟩:=h 7 (by decide);obtain ⟨_,h8⟩:=h 8 (by decide);obtain ⟨_,h9⟩:=h 9 (by decide);obtain ⟨_,h10⟩:=h 10 (by decide);refine ⟨?_,kv_data h1⟩;show (isK .i64 (g 0) && (isK .i64 (g 2) && isK .i64 (g 3) && isK .i64 (g 4) && isK .i64 (g 5) && isK .i64 (g 6) && isK .i64 (g 7) && isK .i64 (g 8) && isB (g 9)) && isK .i64 (g 10)) = true;rw [zDC h0,zDC h2,zDC h3,zDC h4,zDC h5,zDC h6,zDC h7,zDC h8,kv_b h9,zDC h10];rfl
theorem kv_helds {w : World} {v : Value} {x : CV} (h : KV w (.s shHd) v x) : okHs x /\ (zDP x).length <= 9223372036854775807:=by
 obtain ⟨n,f,rfl,hn,hk⟩:=h.row;refine ⟨⟨rfl,λi hi=>kv_held λj hj=>hk i j hi hj⟩,?_⟩;show (Yt zn n f).length <= _;rw [QG];exact hn
theorem kv_seed {w : World} {g : Nat -> CV} (h : ∀ j,j < 3 -> ∃ u,KV w (shSd.getD j default) u (g j)) : ZF.ok g /\ 0 <= (ZF.rd g).id /\ (ZF.rd g).held.length <= 9223372036854775807:=by
 obtain ⟨_,h0⟩:=h 0 (by decide);obtain ⟨_,h1⟩:=h 1 (by decide);obtain ⟨_,h2⟩:=h 2 (by decide);obtain ⟨k1,k2⟩:=kv_helds h2;refine ⟨⟨?_,k1⟩,kv_u64 h0,k2⟩;rw [zDC h0,zDC h1];rfl
theorem seeds_arg {w : World} {v : Value} (h : KVs w (shL shSd) [v]) : ∃ L : List Sed,LHp L /\ (FV.e (.c (slN ZF L))).rel (λ_=>none) (λ_=>False) (λ_=>False) w v:=by
 obtain ⟨x,hx⟩:=h.2 0 v rfl;have hx : KV w (.s shSd) v x:=hx;have hr:=hx.rel;obtain ⟨n,f,rfl,hn,hk⟩:=hx.row;have hs:=λi (hi : i < n)=>kv_seed λj hj=>hk i j hi hj;refine ⟨Yt ZF n f,⟨⟨λx hm=>?_,by rw [QG];exact hn⟩,λx hm=>?_⟩,sl_toN (E:=ZF) (λi hi=>(hs i hi).1) hr⟩
 . simp only [Yt,List.mem_map,List.mem_range] at hm;obtain ⟨i,hi,rfl⟩:=hm;exact (hs i hi).2.2
 . simp only [Yt,List.mem_map,List.mem_range] at hm;obtain ⟨i,hi,rfl⟩:=hm;exact (hs i hi).2.1
theorem walkMulticastSteps (a0 : Option Addr) (len0 cap0 : Nat) (a1 : Option Addr) (len1 cap1 : Nat) (z1 : List Int) (a2 : Int) (a3 : Int) (w : World) (w0 : KVs w (shL shSd) [.slice a0 len0 cap0]) (w1 : IsRow .i64 w a1 len1 cap1 z1) (rr1 : cap1 * 8 <= 140737488351232) (w2 : (Lit.int .i64 a2).wf = true) (w3 : (Lit.int .u32 a3).wf = true) :
 Calls Try.prog 6 #[.slice a0 len0 cap0,.slice a1 len1 cap1,.int .i64 a2,.int .u32 a3] w λe w'=>e = .returned (.bool true) /\ Below w.heap.size w w':=by
 obtain ⟨L,hL,h0⟩:=seeds_arg w0;have hd : ZM a3:=by
  simp [Lit.wf,IntKind.min,IntKind.max,IntKind.bits,IntKind.signed] at w3;unfold ZM;omega
 exact walk_of (stepsL_ok L hL len1 z1 (rng_of w1) a2 a3 hd) (zCt h0 (zCt (row_rel w1) (zCt rfl (relL1 rfl))))
end Go.Proofs.Ytfaibcgakcmhcaa
