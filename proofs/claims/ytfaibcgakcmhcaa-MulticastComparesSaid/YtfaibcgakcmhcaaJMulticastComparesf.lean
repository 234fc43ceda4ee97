/- Texts of one's own in one file: Mrk, Mrl, Mrm, Mth, Mti, Mtj, MulticastComparesA, Fn, Mtg, MulticastComparesW. -/
import Derived.Test.YtfaibcgakcmhcaaJMulticastComparese
import Derived.Test.YtfaibcgakcmhcaaJMulticastComparesd
import Derived.Laws.Cover3
import Derived.WalkKit
import Derived.Test.YtfaibcgakcmhcaaJMulticastComparesb
set_option linter.unusedVariables false
set_option linter.unusedSimpArgs false
set_option maxHeartbeats 16000000
set_option maxRecDepth 20000
namespace Go.Proofs.Ytfaibcgakcmhcaa.AX
open Go.RowKit
def LRq : CsL:=(40,some zDF) :: (63,some zC5) :: (43,some zFC) :: (75,some rhasE) :: (77,some rlacksE) :: LTk
theorem qk : qV Try.prog LRq:=⟨zx ⟨_,Try.func40,rfl,by kernel_rfl⟩ λa h=>zBf a.1 h,zx ⟨_,Try.func63,rfl,by kernel_rfl⟩ λa _=>TkR.tkTime_ok a.1,zCr,zx ⟨_,Try.func75,rfl,by kernel_rfl⟩ λa h=>rhas_ok a.1 a.2.1 h,zx ⟨_,Try.func77,rfl,by kernel_rfl⟩ λa h=>rlacks_ok a.1 a.2.1 h.1 h.2,zCn⟩
def SCr (L : List Sed) (S : List Smy) (now draw : Int) (s : MapI (QU S now draw) L) : Hd:=⟨[(0,zL (ZT ZB L)),(1,zL (.int .i64 now)),(2,zL (Qy zu S)),(3,zL (.int .u32 draw)),(13,zL (.os 1 0 s.M.length)),(74,zL (.int .i64 (L.length : Int))),(75,zL (.int .i64 (s.i : Int)))],(1,some (qp 2 s.M.length s.M)) :: hepP 2 s.M,10⟩
theorem zAB {m : Smy} {now draw : Int} {h : Hel} {T : Trk × Int} (hm : m = ⟨0,0,0⟩) (h0 : 0 <= h.num) (eT : Zq h.tm now draw = T) : zAC m now draw h = { h with tm:=T.1 }:=by
 subst hm;exact Qa h0 (hasB_zero _) eT
theorem rcp_0 (L : List Sed) (S : List Smy) (now draw : Int) (hv : ZA L = true) (hS : ZR S = true) (hd : ZS draw) (ht : 0 <= now /\ now <= 1099511627776) (s : MapI (QU S now draw) L) (hi : s.i = 0) (hil : s.i < L.length) (K : Kt) :
 qR T (qH LRq) 1 Try.f49.ntmps 0 (Qg (Zc 5 (Try.f49.body.getD Code.ret))) (SCr L S now draw s).fr (SCr L S now draw s).H (SCr L S now draw s).nx (Yt (λfr H _=>zA8 (SCr L S now draw) (λs=>L.length - s.i) 0 (L.length - s.i) fr H) K):=by
 have h8:=Zv hv;obtain ⟨hS8,hSm⟩:=vys hS;have hX : SdOk (L.getD s.i default):=(qq hv _ (zw hil)).2;obtain ⟨s',es'⟩ : ∃ s',s.next hil _ rfl = s':=⟨_,rfl⟩;have f1 : s'.M = s.M.set s.i (QU S now draw (L.getD s.i default)):=by rw [<- es'];rfl
 have f4 : s'.i = s.i + 1:=by rw [<- es'];rfl
 clear es';obtain ⟨i,M,hn,hi0,h1,h2⟩:=s;dsimp only at hi hil hX f1 f4;subst hi;have hiM : 0 < M.length:=by omega
 have e0:=h2 0 (Nat.le_refl _);rw [<- e0] at hX f1;have hk:=hX.n;have hmn:=hX.mn;unfold SCr;dsimp only;clear h1 h2 e0;repeat' (first | (apply And.intro<;>intro hc<;>(first | exact Bool.noConfusion hc | (exfalso;first | exact absurd rfl hc | omega) | (simp only [zl] at hc<;>first | exact absurd rfl hc | (exfalso;first | exact absurd rfl hc | omega) | skip) | skip)) | (refine And.intro zj ?_) | (apply And.intro) | (intro s hs;skip) | (refine Exists.intro _ (And.intro ⟨rfl,rfl,rfl⟩ ?_)))
 conv=>whnf
 obtain ⟨W,eW⟩ : ∃ W,ZK (M.getD 0 default).id S ⟨0,0,0⟩ = W:=⟨_,rfl⟩;refine zU (zV qk) (λs : {p : Nat × Smy × Bool // p.1 <= S.length /\ ZK (M.getD 0 default).id (S.drop p.1) p.2.1 = W /\ (p.2.2 = false -> p.2.1 = ⟨0,0,0⟩)}=>(⟨[(0,zL (ZT ZB L)),(1,zL (.int .i64 now)),(2,zL (Qy zu S)),(3,zL (.int .u32 draw)),(13,zL (.os 1 0 M.length)),(74,zL (.int .i64 (L.length : Int))),(75,zL (.int .i64 ((0 : Nat) : Int))),(14,zL (.int .i64 ((0 : Nat) : Int))),(15,zL (.ptr 10 0 0 false)),(16,zL (.bool s.1.2.2)),(78,zL (Qy zu S)),(79,zL (.int .i64 (S.length : Int))),(80,zL (.int .i64 (s.1.1 : Int)))],[(1,some (qp 2 M.length M)),(2,some (zS (M.getD 0 default).held)),(3,some (zS (M.getD 1 default).held)),(4,some (zS (M.getD 2 default).held)),(5,some (zS (M.getD 3 default).held)),(6,some (zS (M.getD 4 default).held)),(7,some (zS (M.getD 5 default).held)),(8,some (zS (M.getD 6 default).held)),(9,some (zS (M.getD 7 default).held)),(10,some ⟨60,1,3,true,λ_=>zu.cell s.1.2.1⟩)],11⟩ : Hd)) (λs=>S.length - s.1.1) (λ_=>rfl) ?_ ⟨(0,⟨0,0,0⟩,false),Nat.zero_le _,eW,λ_=>rfl⟩ [(10,some 13)] ⟨rfl,⟨zD (zJ (zI L)),zB rfl,zM (zO zu S),zB rfl,zD (zH rfl rfl),zB rfl,zB rfl,zB rfl,zF rfl,zG rfl,zM (zO zu S),zB rfl,zB rfl,trivial⟩,⟨⟨rfl,zQ (by omega) (qJ rfl rfl rfl rfl rfl rfl rfl rfl)⟩,⟨rfl,zA⟩,⟨rfl,zA⟩,⟨rfl,zA⟩,⟨rfl,zA⟩,⟨rfl,zA⟩,⟨rfl,zA⟩,⟨rfl,zA⟩,⟨rfl,zA⟩,⟨rfl,zE (Zr ⟨zC rfl,zC rfl,zC rfl⟩)⟩,trivial⟩⟩;rintro ⟨⟨p,a,kn⟩,hp,hW,hkw⟩;dsimp only at hp hW hkw ⊢;unfold Qy;by_cases hpl : p < S.length
 . have w4 : IntKind.i64.wrap ((p : Int) + 1) = ((p + 1 : Nat) : Int):=(IntWalk.i64_in _ (by omega)).trans (by omega);have hst : ZK (M.getD 0 default).id (S.drop (p + 1)) (if (S.getD p default).id = (M.getD 0 default).id then S.getD p default else a) = W:=by rw [<- hW,qL hpl];rfl
   have n1 : (S.getD p default).id = (M.getD 0 default).id -> ZK (M.getD 0 default).id (S.drop (p + 1)) (S.getD p default) = W:=λh=>by rw [if_pos h] at hst;exact hst
   have n2 : ¬ (S.getD p default).id = (M.getD 0 default).id -> ZK (M.getD 0 default).id (S.drop (p + 1)) a = W:=λh=>by rw [if_neg h] at hst;exact hst
   clear hst;repeat' (first | (simp only [w4]) | (apply And.intro<;>intro hc<;>(first | exact Bool.noConfusion hc | (exfalso;first | exact absurd rfl hc | omega) | (simp only [zl] at hc<;>first | exact absurd rfl hc | (exfalso;first | exact absurd rfl hc | omega) | skip) | skip)) | (refine And.intro zj ?_) | (apply And.intro) | (intro s hs;skip) | (refine Exists.intro _ (And.intro ⟨rfl,rfl,rfl⟩ ?_)))
   . conv=>whnf
     exact ⟨⟨(p + 1,_,true),hpl,n1 hc,λh=>by cases h⟩,[],by dsimp only;omega,rfl,⟨zD (zJ (zI L)),zB rfl,zM (zO zu S),zB rfl,zD (zH rfl rfl),zB rfl,zB rfl,zB rfl,zF rfl,zG rfl,zM (zO zu S),zB rfl,zB w4,trivial⟩,⟨⟨rfl,zQ (by omega) (qJ rfl rfl rfl rfl rfl rfl rfl rfl)⟩,⟨rfl,zA⟩,⟨rfl,zA⟩,⟨rfl,zA⟩,⟨rfl,zA⟩,⟨rfl,zA⟩,⟨rfl,zA⟩,⟨rfl,zA⟩,⟨rfl,zA⟩,⟨rfl,zE (Zr ⟨zC rfl,zC rfl,zC rfl⟩)⟩,trivial⟩⟩
   . conv=>whnf
     exact ⟨⟨(p + 1,a,kn),hpl,n2 hc,hkw⟩,[],by dsimp only;omega,rfl,⟨zD (zJ (zI L)),zB rfl,zM (zO zu S),zB rfl,zD (zH rfl rfl),zB rfl,zB rfl,zB rfl,zF rfl,zG rfl,zM (zO zu S),zB rfl,zB w4,trivial⟩,⟨⟨rfl,zQ (by omega) (qJ rfl rfl rfl rfl rfl rfl rfl rfl)⟩,⟨rfl,zA⟩,⟨rfl,zA⟩,⟨rfl,zA⟩,⟨rfl,zA⟩,⟨rfl,zA⟩,⟨rfl,zA⟩,⟨rfl,zA⟩,⟨rfl,zA⟩,⟨rfl,zE λj hj=>(Elem.flat _ _ _).le⟩,trivial⟩⟩
 . obtain rfl : a = W:=by
    rw [List.drop_of_length_le (by omega)] at hW;exact hW
   clear hW;have hWm : 0 <= a.mn /\ a.mn <= 1073741824:=by rw [<- eW];exact Qi (λx hx=>(hSm x hx).2) ⟨Int.le_refl _,by decide⟩
   repeat' (first | (apply And.intro<;>intro hc<;>(first | exact Bool.noConfusion hc | (exfalso;first | exact absurd rfl hc | omega) | (simp only [zl] at hc<;>first | exact absurd rfl hc | (exfalso;first | exact absurd rfl hc | omega) | skip) | skip)) | (refine And.intro zj ?_) | (apply And.intro) | (intro s hs;skip) | (refine Exists.intro _ (And.intro ⟨rfl,rfl,rfl⟩ ?_)))
   conv=>whnf
   refine zU (zV qk) (λs : MapI (zAC a now draw) (M.getD 0 default).held=>(⟨[(0,zL (ZT ZB L)),(1,zL (.int .i64 now)),(2,zL (Qy zu S)),(3,zL (.int .u32 draw)),(13,zL (.os 1 0 M.length)),(74,zL (.int .i64 (L.length : Int))),(75,zL (.int .i64 ((0 : Nat) : Int))),(14,zL (.int .i64 ((0 : Nat) : Int))),(15,zL (.ptr 10 0 0 false)),(16,zL (.bool kn)),(99,zL (.int .i64 ((M.getD 0 default).held.length : Int))),(100,zL (.int .i64 (s.i : Int)))],[(1,some (qp 2 M.length M)),(2,some (zS s.M)),(3,some (zS (M.getD 1 default).held)),(4,some (zS (M.getD 2 default).held)),(5,some (zS (M.getD 3 default).held)),(6,some (zS (M.getD 4 default).held)),(7,some (zS (M.getD 5 default).held)),(8,some (zS (M.getD 6 default).held)),(9,some (zS (M.getD 7 default).held)),(10,some ⟨60,1,3,true,λ_=>zu.cell a⟩)],11⟩ : Hd)) (λs=>(M.getD 0 default).held.length - s.i) (λ_=>rfl) ?_ (MapI.start _ _) [] ⟨rfl,⟨zD (zJ (zI L)),zB rfl,zM (zO zu S),zB rfl,zD (zH rfl rfl),zB rfl,zB rfl,zB rfl,zF rfl,zG rfl,zB rfl,zB rfl,trivial⟩,⟨⟨rfl,zQ (by omega) (qJ rfl rfl rfl rfl rfl rfl rfl rfl)⟩,⟨rfl,zA⟩,⟨rfl,zA⟩,⟨rfl,zA⟩,⟨rfl,zA⟩,⟨rfl,zA⟩,⟨rfl,zA⟩,⟨rfl,zA⟩,⟨rfl,zA⟩,⟨rfl,zE λj hj=>(Elem.flat _ _ _).le⟩,trivial⟩⟩;intro s0;by_cases hkn : s0.i < (M.getD 0 default).held.length
   . have w4 : IntKind.i64.wrap ((s0.i : Int) + 1) = ((s0.i + 1 : Nat) : Int):=(IntWalk.i64_in _ (by omega)).trans (by omega);have z0 : 0 + (s0.i : Int).toNat = s0.i:=Nat.zero_add s0.i;have eh:=s0.h2 s0.i (Nat.le_refl _);have hl:=s0.n;have bk : Nat.beq s0.i s0.i = true:=Nat.beq_refl _;have hx:=QQ hX (zw hkn);have hx1:=(QI hX.h _ (zw hkn)).1;rw [<- eh] at hx hx1;have hxb:=hx.b;obtain ⟨B,eB2⟩ : ∃ B,YC a (s0.M.getD s0.i default).num = B:=⟨_,rfl⟩;obtain ⟨T,eT⟩ : ∃ T,Zq (s0.M.getD s0.i default).tm now draw = T:=⟨_,rfl⟩;repeat' (first | (simp only [z0,w4,bk,Bool.cond_true]) | (apply And.intro<;>intro hc<;>(first | exact Bool.noConfusion hc | (exfalso;first | exact absurd rfl hc | omega) | (simp only [zl] at hc<;>first | exact absurd rfl hc | (exfalso;first | exact absurd rfl hc | omega) | skip) | skip)) | (refine And.intro zj ?_) | (apply And.intro) | (intro s hs;(first | (have q : B = s:=eB2.symm.trans hs.symm;clear hs;subst q) | (have q : T = s:=eT.symm.trans hs.symm;clear hs;subst q))) | (refine Exists.intro _ (And.intro ⟨rfl,rfl,rfl⟩ ?_)))
     . exact hc
     . conv=>whnf
       refine ⟨s0.next hkn (s0.M.set s0.i { s0.M.getD s0.i default with tm:=T.1 }) (by rw [<- eh,zAB (hkw ‹_›) (by omega) eT]),[],by dsimp only [MapI.next];omega,rfl,⟨zD (zJ (zI L)),zB rfl,zM (zO zu S),zB rfl,zD (zH rfl rfl),zB rfl,zB rfl,zB rfl,zF rfl,zG rfl,zB rfl,zB w4,trivial⟩,⟨⟨rfl,zQ (by omega) (qJ rfl rfl rfl rfl rfl rfl rfl rfl)⟩,⟨rfl,qI ?_⟩,⟨rfl,zA⟩,⟨rfl,zA⟩,⟨rfl,zA⟩,⟨rfl,zA⟩,⟨rfl,zA⟩,⟨rfl,zA⟩,⟨rfl,zA⟩,⟨rfl,zE λj hj=>(Elem.flat _ _ _).le⟩,trivial⟩⟩;exact qd (by rw [hl];exact hkn) (qn ⟨zC rfl,(zm.sh _ 1 (by decide)).le,zC rfl,zC rfl,zC rfl,zC rfl,zC rfl,zC rfl,zC rfl,zW rfl,zC rfl⟩)
     . conv=>whnf
       refine ⟨s0.next hkn (s0.M.set s0.i { s0.M.getD s0.i default with tm:=T.1 }) (by rw [<- eh,Qa ‹_› (eB2.trans ‹_›) eT]),[],by dsimp only [MapI.next];omega,rfl,⟨zD (zJ (zI L)),zB rfl,zM (zO zu S),zB rfl,zD (zH rfl rfl),zB rfl,zB rfl,zB rfl,zF rfl,zG rfl,zB rfl,zB w4,trivial⟩,⟨⟨rfl,zQ (by omega) (qJ rfl rfl rfl rfl rfl rfl rfl rfl)⟩,⟨rfl,qI ?_⟩,⟨rfl,zA⟩,⟨rfl,zA⟩,⟨rfl,zA⟩,⟨rfl,zA⟩,⟨rfl,zA⟩,⟨rfl,zA⟩,⟨rfl,zA⟩,⟨rfl,zE λj hj=>(Elem.flat _ _ _).le⟩,trivial⟩⟩;exact qd (by rw [hl];exact hkn) (qn ⟨zC rfl,(zm.sh _ 1 (by decide)).le,zC rfl,zC rfl,zC rfl,zC rfl,zC rfl,zC rfl,zC rfl,zW rfl,zC rfl⟩)
     . conv=>whnf
       exact ⟨s0.next hkn s0.M (by rw [<- eh,Qm (eB2.trans ‹_›)];exact ZH (by rw [hl];exact hkn)),[],by dsimp only [MapI.next];omega,rfl,⟨zD (zJ (zI L)),zB rfl,zM (zO zu S),zB rfl,zD (zH rfl rfl),zB rfl,zB rfl,zB rfl,zF rfl,zG rfl,zB rfl,zB w4,trivial⟩,⟨⟨rfl,zQ (by omega) (qJ rfl rfl rfl rfl rfl rfl rfl rfl)⟩,⟨rfl,zA⟩,⟨rfl,zA⟩,⟨rfl,zA⟩,⟨rfl,zA⟩,⟨rfl,zA⟩,⟨rfl,zA⟩,⟨rfl,zA⟩,⟨rfl,zA⟩,⟨rfl,zE λj hj=>(Elem.flat _ _ _).le⟩,trivial⟩⟩
     . conv=>whnf
       exact ⟨s0.next hkn s0.M (by rw [<- eh,Ql ‹_›];exact ZH (by rw [hl];exact hkn)),[],by dsimp only [MapI.next];omega,rfl,⟨zD (zJ (zI L)),zB rfl,zM (zO zu S),zB rfl,zD (zH rfl rfl),zB rfl,zB rfl,zB rfl,zF rfl,zG rfl,zB rfl,zB w4,trivial⟩,⟨⟨rfl,zQ (by omega) (qJ rfl rfl rfl rfl rfl rfl rfl rfl)⟩,⟨rfl,zA⟩,⟨rfl,zA⟩,⟨rfl,zA⟩,⟨rfl,zA⟩,⟨rfl,zA⟩,⟨rfl,zA⟩,⟨rfl,zA⟩,⟨rfl,zA⟩,⟨rfl,zE λj hj=>(Elem.flat _ _ _).le⟩,trivial⟩⟩
   . have l1:=s0.last hkn;have hkk:=s0.hi;have hl:=s0.n;have w6 : IntKind.i64.wrap ((0 : Int) + 1) = ((0 + 1 : Nat) : Int):=rfl;repeat' (first | (apply And.intro<;>intro hc<;>(first | exact Bool.noConfusion hc | (exfalso;first | exact absurd rfl hc | omega) | (simp only [zl] at hc<;>first | exact absurd rfl hc | (exfalso;first | exact absurd rfl hc | omega) | skip) | skip)) | (refine And.intro zj ?_) | (apply And.intro) | (intro s hs;skip) | (refine Exists.intro _ (And.intro ⟨rfl,rfl,rfl⟩ ?_)))
     conv=>whnf
     refine ⟨s',[],by show L.length - s'.i < _;rw [f4];omega,rfl,⟨zD (zJ (zI L)),zB rfl,zM (zO zu S),zB rfl,zD (zH rfl (by rw [f1,List.length_set])),zB rfl,zB (by rw [f4];rfl),trivial⟩,⟨⟨rfl,⟨rfl,by show _ = s'.M.length;rw [f1,List.length_set];rfl,rfl,rfl,λp hp j hj=>?_⟩⟩,⟨rfl,zR (by rw [f1,Qw hiM];exact l1.trans (by rw [<- eW];rfl))⟩,⟨rfl,zR (by rw [f1];exact congrArg Sed.held (zg (by decide)).symm)⟩,⟨rfl,zR (by rw [f1];exact congrArg Sed.held (zg (by decide)).symm)⟩,⟨rfl,zR (by rw [f1];exact congrArg Sed.held (zg (by decide)).symm)⟩,⟨rfl,zR (by rw [f1];exact congrArg Sed.held (zg (by decide)).symm)⟩,⟨rfl,zR (by rw [f1];exact congrArg Sed.held (zg (by decide)).symm)⟩,⟨rfl,zR (by rw [f1];exact congrArg Sed.held (zg (by decide)).symm)⟩,⟨rfl,zR (by rw [f1];exact congrArg Sed.held (zg (by decide)).symm)⟩,trivial⟩⟩;have hp : p < M.length:=hp;have hj : j < 3:=hj;show Zu _ (Zg 2 M p j) (Zg 2 s'.M p j);rw [f1];rcases (show p = 0 \/ p = 1 \/ p = 2 \/ p = 3 \/ p = 4 \/ p = 5 \/ p = 6 \/ p = 7 by omega) with rfl | rfl | rfl | rfl | rfl | rfl | rfl | rfl;all_goals first
      | exact qF hj (by decide) rfl rfl
      | skip
     refine qG hiM ?_;rcases j with _ | _ | _ | j
     . exact zC rfl
     . exact zC rfl
     . exact zH rfl (by show _ = (List.map _ _).length;rw [List.length_map])
     . omega
theorem rcp_1 (L : List Sed) (S : List Smy) (now draw : Int) (hv : ZA L = true) (hS : ZR S = true) (hd : ZS draw) (ht : 0 <= now /\ now <= 1099511627776) (s : MapI (QU S now draw) L) (hi : s.i = 1) (hil : s.i < L.length) (K : Kt) :
 qR T (qH LRq) 1 Try.f49.ntmps 0 (Qg (Zc 5 (Try.f49.body.getD Code.ret))) (SCr L S now draw s).fr (SCr L S now draw s).H (SCr L S now draw s).nx (Yt (λfr H _=>zA8 (SCr L S now draw) (λs=>L.length - s.i) 0 (L.length - s.i) fr H) K):=by
 have h8:=Zv hv;obtain ⟨hS8,hSm⟩:=vys hS;have hX : SdOk (L.getD s.i default):=(qq hv _ (zw hil)).2;obtain ⟨s',es'⟩ : ∃ s',s.next hil _ rfl = s':=⟨_,rfl⟩;have f1 : s'.M = s.M.set s.i (QU S now draw (L.getD s.i default)):=by rw [<- es'];rfl
 have f4 : s'.i = s.i + 1:=by rw [<- es'];rfl
 clear es';obtain ⟨i,M,hn,hi0,h1,h2⟩:=s;dsimp only at hi hil hX f1 f4;subst hi;have hiM : 1 < M.length:=by omega
 have e0:=h2 1 (Nat.le_refl _);rw [<- e0] at hX f1;have hk:=hX.n;have hmn:=hX.mn;unfold SCr;dsimp only;clear h1 h2 e0;repeat' (first | (apply And.intro<;>intro hc<;>(first | exact Bool.noConfusion hc | (exfalso;first | exact absurd rfl hc | omega) | (simp only [zl] at hc<;>first | exact absurd rfl hc | (exfalso;first | exact absurd rfl hc | omega) | skip) | skip)) | (refine And.intro zj ?_) | (apply And.intro) | (intro s hs;skip) | (refine Exists.intro _ (And.intro ⟨rfl,rfl,rfl⟩ ?_)))
 conv=>whnf
 obtain ⟨W,eW⟩ : ∃ W,ZK (M.getD 1 default).id S ⟨0,0,0⟩ = W:=⟨_,rfl⟩;refine zU (zV qk) (λs : {p : Nat × Smy × Bool // p.1 <= S.length /\ ZK (M.getD 1 default).id (S.drop p.1) p.2.1 = W /\ (p.2.2 = false -> p.2.1 = ⟨0,0,0⟩)}=>(⟨[(0,zL (ZT ZB L)),(1,zL (.int .i64 now)),(2,zL (Qy zu S)),(3,zL (.int .u32 draw)),(13,zL (.os 1 0 M.length)),(74,zL (.int .i64 (L.length : Int))),(75,zL (.int .i64 ((1 : Nat) : Int))),(14,zL (.int .i64 ((1 : Nat) : Int))),(15,zL (.ptr 10 0 0 false)),(16,zL (.bool s.1.2.2)),(78,zL (Qy zu S)),(79,zL (.int .i64 (S.length : Int))),(80,zL (.int .i64 (s.1.1 : Int)))],[(1,some (qp 2 M.length M)),(2,some (zS (M.getD 0 default).held)),(3,some (zS (M.getD 1 default).held)),(4,some (zS (M.getD 2 default).held)),(5,some (zS (M.getD 3 default).held)),(6,some (zS (M.getD 4 default).held)),(7,some (zS (M.getD 5 default).held)),(8,some (zS (M.getD 6 default).held)),(9,some (zS (M.getD 7 default).held)),(10,some ⟨60,1,3,true,λ_=>zu.cell s.1.2.1⟩)],11⟩ : Hd)) (λs=>S.length - s.1.1) (λ_=>rfl) ?_ ⟨(0,⟨0,0,0⟩,false),Nat.zero_le _,eW,λ_=>rfl⟩ [(10,some 13)] ⟨rfl,⟨zD (zJ (zI L)),zB rfl,zM (zO zu S),zB rfl,zD (zH rfl rfl),zB rfl,zB rfl,zB rfl,zF rfl,zG rfl,zM (zO zu S),zB rfl,zB rfl,trivial⟩,⟨⟨rfl,zQ (by omega) (qJ rfl rfl rfl rfl rfl rfl rfl rfl)⟩,⟨rfl,zA⟩,⟨rfl,zA⟩,⟨rfl,zA⟩,⟨rfl,zA⟩,⟨rfl,zA⟩,⟨rfl,zA⟩,⟨rfl,zA⟩,⟨rfl,zA⟩,⟨rfl,zE (Zr ⟨zC rfl,zC rfl,zC rfl⟩)⟩,trivial⟩⟩;rintro ⟨⟨p,a,kn⟩,hp,hW,hkw⟩;dsimp only at hp hW hkw ⊢;unfold Qy;by_cases hpl : p < S.length
 . have w4 : IntKind.i64.wrap ((p : Int) + 1) = ((p + 1 : Nat) : Int):=(IntWalk.i64_in _ (by omega)).trans (by omega);have hst : ZK (M.getD 1 default).id (S.drop (p + 1)) (if (S.getD p default).id = (M.getD 1 default).id then S.getD p default else a) = W:=by rw [<- hW,qL hpl];rfl
   have n1 : (S.getD p default).id = (M.getD 1 default).id -> ZK (M.getD 1 default).id (S.drop (p + 1)) (S.getD p default) = W:=λh=>by rw [if_pos h] at hst;exact hst
   have n2 : ¬ (S.getD p default).id = (M.getD 1 default).id -> ZK (M.getD 1 default).id (S.drop (p + 1)) a = W:=λh=>by rw [if_neg h] at hst;exact hst
   clear hst;repeat' (first | (simp only [w4]) | (apply And.intro<;>intro hc<;>(first | exact Bool.noConfusion hc | (exfalso;first | exact absurd rfl hc | omega) | (simp only [zl] at hc<;>first | exact absurd rfl hc | (exfalso;first | exact absurd rfl hc | omega) | skip) | skip)) | (refine And.intro zj ?_) | (apply And.intro) | (intro s hs;skip) | (refine Exists.intro _ (And.intro ⟨rfl,rfl,rfl⟩ ?_)))
   . conv=>whnf
     exact ⟨⟨(p + 1,_,true),hpl,n1 hc,λh=>by cases h⟩,[],by dsimp only;omega,rfl,⟨zD (zJ (zI L)),zB rfl,zM (zO zu S),zB rfl,zD (zH rfl rfl),zB rfl,zB rfl,zB rfl,zF rfl,zG rfl,zM (zO zu S),zB rfl,zB w4,trivial⟩,⟨⟨rfl,zQ (by omega) (qJ rfl rfl rfl rfl rfl rfl rfl rfl)⟩,⟨rfl,zA⟩,⟨rfl,zA⟩,⟨rfl,zA⟩,⟨rfl,zA⟩,⟨rfl,zA⟩,⟨rfl,zA⟩,⟨rfl,zA⟩,⟨rfl,zA⟩,⟨rfl,zE (Zr ⟨zC rfl,zC rfl,zC rfl⟩)⟩,trivial⟩⟩
   . conv=>whnf
     exact ⟨⟨(p + 1,a,kn),hpl,n2 hc,hkw⟩,[],by dsimp only;omega,rfl,⟨zD (zJ (zI L)),zB rfl,zM (zO zu S),zB rfl,zD (zH rfl rfl),zB rfl,zB rfl,zB rfl,zF rfl,zG rfl,zM (zO zu S),zB rfl,zB w4,trivial⟩,⟨⟨rfl,zQ (by omega) (qJ rfl rfl rfl rfl rfl rfl rfl rfl)⟩,⟨rfl,zA⟩,⟨rfl,zA⟩,⟨rfl,zA⟩,⟨rfl,zA⟩,⟨rfl,zA⟩,⟨rfl,zA⟩,⟨rfl,zA⟩,⟨rfl,zA⟩,⟨rfl,zE λj hj=>(Elem.flat _ _ _).le⟩,trivial⟩⟩
 . obtain rfl : a = W:=by
    rw [List.drop_of_length_le (by omega)] at hW;exact hW
   clear hW;have hWm : 0 <= a.mn /\ a.mn <= 1073741824:=by rw [<- eW];exact Qi (λx hx=>(hSm x hx).2) ⟨Int.le_refl _,by decide⟩
   repeat' (first | (apply And.intro<;>intro hc<;>(first | exact Bool.noConfusion hc | (exfalso;first | exact absurd rfl hc | omega) | (simp only [zl] at hc<;>first | exact absurd rfl hc | (exfalso;first | exact absurd rfl hc | omega) | skip) | skip)) | (refine And.intro zj ?_) | (apply And.intro) | (intro s hs;skip) | (refine Exists.intro _ (And.intro ⟨rfl,rfl,rfl⟩ ?_)))
   conv=>whnf
   refine zU (zV qk) (λs : MapI (zAC a now draw) (M.getD 1 default).held=>(⟨[(0,zL (ZT ZB L)),(1,zL (.int .i64 now)),(2,zL (Qy zu S)),(3,zL (.int .u32 draw)),(13,zL (.os 1 0 M.length)),(74,zL (.int .i64 (L.length : Int))),(75,zL (.int .i64 ((1 : Nat) : Int))),(14,zL (.int .i64 ((1 : Nat) : Int))),(15,zL (.ptr 10 0 0 false)),(16,zL (.bool kn)),(99,zL (.int .i64 ((M.getD 1 default).held.length : Int))),(100,zL (.int .i64 (s.i : Int)))],[(1,some (qp 2 M.length M)),(2,some (zS (M.getD 0 default).held)),(3,some (zS s.M)),(4,some (zS (M.getD 2 default).held)),(5,some (zS (M.getD 3 default).held)),(6,some (zS (M.getD 4 default).held)),(7,some (zS (M.getD 5 default).held)),(8,some (zS (M.getD 6 default).held)),(9,some (zS (M.getD 7 default).held)),(10,some ⟨60,1,3,true,λ_=>zu.cell a⟩)],11⟩ : Hd)) (λs=>(M.getD 1 default).held.length - s.i) (λ_=>rfl) ?_ (MapI.start _ _) [] ⟨rfl,⟨zD (zJ (zI L)),zB rfl,zM (zO zu S),zB rfl,zD (zH rfl rfl),zB rfl,zB rfl,zB rfl,zF rfl,zG rfl,zB rfl,zB rfl,trivial⟩,⟨⟨rfl,zQ (by omega) (qJ rfl rfl rfl rfl rfl rfl rfl rfl)⟩,⟨rfl,zA⟩,⟨rfl,zA⟩,⟨rfl,zA⟩,⟨rfl,zA⟩,⟨rfl,zA⟩,⟨rfl,zA⟩,⟨rfl,zA⟩,⟨rfl,zA⟩,⟨rfl,zE λj hj=>(Elem.flat _ _ _).le⟩,trivial⟩⟩;intro s0;by_cases hkn : s0.i < (M.getD 1 default).held.length
   . have w4 : IntKind.i64.wrap ((s0.i : Int) + 1) = ((s0.i + 1 : Nat) : Int):=(IntWalk.i64_in _ (by omega)).trans (by omega);have z0 : 0 + (s0.i : Int).toNat = s0.i:=Nat.zero_add s0.i;have eh:=s0.h2 s0.i (Nat.le_refl _);have hl:=s0.n;have bk : Nat.beq s0.i s0.i = true:=Nat.beq_refl _;have hx:=QQ hX (zw hkn);have hx1:=(QI hX.h _ (zw hkn)).1;rw [<- eh] at hx hx1;have hxb:=hx.b;obtain ⟨B,eB2⟩ : ∃ B,YC a (s0.M.getD s0.i default).num = B:=⟨_,rfl⟩;obtain ⟨T,eT⟩ : ∃ T,Zq (s0.M.getD s0.i default).tm now draw = T:=⟨_,rfl⟩;repeat' (first | (simp only [z0,w4,bk,Bool.cond_true]) | (apply And.intro<;>intro hc<;>(first | exact Bool.noConfusion hc | (exfalso;first | exact absurd rfl hc | omega) | (simp only [zl] at hc<;>first | exact absurd rfl hc | (exfalso;first | exact absurd rfl hc | omega) | skip) | skip)) | (refine And.intro zj ?_) | (apply And.intro) | (intro s hs;(first | (have q : B = s:=eB2.symm.trans hs.symm;clear hs;subst q) | (have q : T = s:=eT.symm.trans hs.symm;clear hs;subst q))) | (refine Exists.intro _ (And.intro ⟨rfl,rfl,rfl⟩ ?_)))
     . exact hc
     . conv=>whnf
       refine ⟨s0.next hkn (s0.M.set s0.i { s0.M.getD s0.i default with tm:=T.1 }) (by rw [<- eh,zAB (hkw ‹_›) (by omega) eT]),[],by dsimp only [MapI.next];omega,rfl,⟨zD (zJ (zI L)),zB rfl,zM (zO zu S),zB rfl,zD (zH rfl rfl),zB rfl,zB rfl,zB rfl,zF rfl,zG rfl,zB rfl,zB w4,trivial⟩,⟨⟨rfl,zQ (by omega) (qJ rfl rfl rfl rfl rfl rfl rfl rfl)⟩,⟨rfl,zA⟩,⟨rfl,qI ?_⟩,⟨rfl,zA⟩,⟨rfl,zA⟩,⟨rfl,zA⟩,⟨rfl,zA⟩,⟨rfl,zA⟩,⟨rfl,zA⟩,⟨rfl,zE λj hj=>(Elem.flat _ _ _).le⟩,trivial⟩⟩;exact qd (by rw [hl];exact hkn) (qn ⟨zC rfl,(zm.sh _ 1 (by decide)).le,zC rfl,zC rfl,zC rfl,zC rfl,zC rfl,zC rfl,zC rfl,zW rfl,zC rfl⟩)
     . conv=>whnf
       refine ⟨s0.next hkn (s0.M.set s0.i { s0.M.getD s0.i default with tm:=T.1 }) (by rw [<- eh,Qa ‹_› (eB2.trans ‹_›) eT]),[],by dsimp only [MapI.next];omega,rfl,⟨zD (zJ (zI L)),zB rfl,zM (zO zu S),zB rfl,zD (zH rfl rfl),zB rfl,zB rfl,zB rfl,zF rfl,zG rfl,zB rfl,zB w4,trivial⟩,⟨⟨rfl,zQ (by omega) (qJ rfl rfl rfl rfl rfl rfl rfl rfl)⟩,⟨rfl,zA⟩,⟨rfl,qI ?_⟩,⟨rfl,zA⟩,⟨rfl,zA⟩,⟨rfl,zA⟩,⟨rfl,zA⟩,⟨rfl,zA⟩,⟨rfl,zA⟩,⟨rfl,zE λj hj=>(Elem.flat _ _ _).le⟩,trivial⟩⟩;exact qd (by rw [hl];exact hkn) (qn ⟨zC rfl,(zm.sh _ 1 (by decide)).le,zC rfl,zC rfl,zC rfl,zC rfl,zC rfl,zC rfl,zC rfl,zW rfl,zC rfl⟩)
     . conv=>whnf
       exact ⟨s0.next hkn s0.M (by rw [<- eh,Qm (eB2.trans ‹_›)];exact ZH (by rw [hl];exact hkn)),[],by dsimp only [MapI.next];omega,rfl,⟨zD (zJ (zI L)),zB rfl,zM (zO zu S),zB rfl,zD (zH rfl rfl),zB rfl,zB rfl,zB rfl,zF rfl,zG rfl,zB rfl,zB w4,trivial⟩,⟨⟨rfl,zQ (by omega) (qJ rfl rfl rfl rfl rfl rfl rfl rfl)⟩,⟨rfl,zA⟩,⟨rfl,zA⟩,⟨rfl,zA⟩,⟨rfl,zA⟩,⟨rfl,zA⟩,⟨rfl,zA⟩,⟨rfl,zA⟩,⟨rfl,zA⟩,⟨rfl,zE λj hj=>(Elem.flat _ _ _).le⟩,trivial⟩⟩
     . conv=>whnf
       exact ⟨s0.next hkn s0.M (by rw [<- eh,Ql ‹_›];exact ZH (by rw [hl];exact hkn)),[],by dsimp only [MapI.next];omega,rfl,⟨zD (zJ (zI L)),zB rfl,zM (zO zu S),zB rfl,zD (zH rfl rfl),zB rfl,zB rfl,zB rfl,zF rfl,zG rfl,zB rfl,zB w4,trivial⟩,⟨⟨rfl,zQ (by omega) (qJ rfl rfl rfl rfl rfl rfl rfl rfl)⟩,⟨rfl,zA⟩,⟨rfl,zA⟩,⟨rfl,zA⟩,⟨rfl,zA⟩,⟨rfl,zA⟩,⟨rfl,zA⟩,⟨rfl,zA⟩,⟨rfl,zA⟩,⟨rfl,zE λj hj=>(Elem.flat _ _ _).le⟩,trivial⟩⟩
   . have l1:=s0.last hkn;have hkk:=s0.hi;have hl:=s0.n;have w6 : IntKind.i64.wrap ((1 : Int) + 1) = ((1 + 1 : Nat) : Int):=rfl;repeat' (first | (apply And.intro<;>intro hc<;>(first | exact Bool.noConfusion hc | (exfalso;first | exact absurd rfl hc | omega) | (simp only [zl] at hc<;>first | exact absurd rfl hc | (exfalso;first | exact absurd rfl hc | omega) | skip) | skip)) | (refine And.intro zj ?_) | (apply And.intro) | (intro s hs;skip) | (refine Exists.intro _ (And.intro ⟨rfl,rfl,rfl⟩ ?_)))
     conv=>whnf
     refine ⟨s',[],by show L.length - s'.i < _;rw [f4];omega,rfl,⟨zD (zJ (zI L)),zB rfl,zM (zO zu S),zB rfl,zD (zH rfl (by rw [f1,List.length_set])),zB rfl,zB (by rw [f4];rfl),trivial⟩,⟨⟨rfl,⟨rfl,by show _ = s'.M.length;rw [f1,List.length_set];rfl,rfl,rfl,λp hp j hj=>?_⟩⟩,⟨rfl,zR (by rw [f1];exact congrArg Sed.held (zg (by decide)).symm)⟩,⟨rfl,zR (by rw [f1,Qw hiM];exact l1.trans (by rw [<- eW];rfl))⟩,⟨rfl,zR (by rw [f1];exact congrArg Sed.held (zg (by decide)).symm)⟩,⟨rfl,zR (by rw [f1];exact congrArg Sed.held (zg (by decide)).symm)⟩,⟨rfl,zR (by rw [f1];exact congrArg Sed.held (zg (by decide)).symm)⟩,⟨rfl,zR (by rw [f1];exact congrArg Sed.held (zg (by decide)).symm)⟩,⟨rfl,zR (by rw [f1];exact congrArg Sed.held (zg (by decide)).symm)⟩,⟨rfl,zR (by rw [f1];exact congrArg Sed.held (zg (by decide)).symm)⟩,trivial⟩⟩;have hp : p < M.length:=hp;have hj : j < 3:=hj;show Zu _ (Zg 2 M p j) (Zg 2 s'.M p j);rw [f1];rcases (show p = 0 \/ p = 1 \/ p = 2 \/ p = 3 \/ p = 4 \/ p = 5 \/ p = 6 \/ p = 7 by omega) with rfl | rfl | rfl | rfl | rfl | rfl | rfl | rfl;all_goals first
      | exact qF hj (by decide) rfl rfl
      | skip
     refine qG hiM ?_;rcases j with _ | _ | _ | j
     . exact zC rfl
     . exact zC rfl
     . exact zH rfl (by show _ = (List.map _ _).length;rw [List.length_map])
     . omega
theorem rcp_2 (L : List Sed) (S : List Smy) (now draw : Int) (hv : ZA L = true) (hS : ZR S = true) (hd : ZS draw) (ht : 0 <= now /\ now <= 1099511627776) (s : MapI (QU S now draw) L) (hi : s.i = 2) (hil : s.i < L.length) (K : Kt) :
 qR T (qH LRq) 1 Try.f49.ntmps 0 (Qg (Zc 5 (Try.f49.body.getD Code.ret))) (SCr L S now draw s).fr (SCr L S now draw s).H (SCr L S now draw s).nx (Yt (λfr H _=>zA8 (SCr L S now draw) (λs=>L.length - s.i) 0 (L.length - s.i) fr H) K):=by
 have h8:=Zv hv;obtain ⟨hS8,hSm⟩:=vys hS;have hX : SdOk (L.getD s.i default):=(qq hv _ (zw hil)).2;obtain ⟨s',es'⟩ : ∃ s',s.next hil _ rfl = s':=⟨_,rfl⟩;have f1 : s'.M = s.M.set s.i (QU S now draw (L.getD s.i default)):=by rw [<- es'];rfl
 have f4 : s'.i = s.i + 1:=by rw [<- es'];rfl
 clear es';obtain ⟨i,M,hn,hi0,h1,h2⟩:=s;dsimp only at hi hil hX f1 f4;subst hi;have hiM : 2 < M.length:=by omega
 have e0:=h2 2 (Nat.le_refl _);rw [<- e0] at hX f1;have hk:=hX.n;have hmn:=hX.mn;unfold SCr;dsimp only;clear h1 h2 e0;repeat' (first | (apply And.intro<;>intro hc<;>(first | exact Bool.noConfusion hc | (exfalso;first | exact absurd rfl hc | omega) | (simp only [zl] at hc<;>first | exact absurd rfl hc | (exfalso;first | exact absurd rfl hc | omega) | skip) | skip)) | (refine And.intro zj ?_) | (apply And.intro) | (intro s hs;skip) | (refine Exists.intro _ (And.intro ⟨rfl,rfl,rfl⟩ ?_)))
 conv=>whnf
 obtain ⟨W,eW⟩ : ∃ W,ZK (M.getD 2 default).id S ⟨0,0,0⟩ = W:=⟨_,rfl⟩;refine zU (zV qk) (λs : {p : Nat × Smy × Bool // p.1 <= S.length /\ ZK (M.getD 2 default).id (S.drop p.1) p.2.1 = W /\ (p.2.2 = false -> p.2.1 = ⟨0,0,0⟩)}=>(⟨[(0,zL (ZT ZB L)),(1,zL (.int .i64 now)),(2,zL (Qy zu S)),(3,zL (.int .u32 draw)),(13,zL (.os 1 0 M.length)),(74,zL (.int .i64 (L.length : Int))),(75,zL (.int .i64 ((2 : Nat) : Int))),(14,zL (.int .i64 ((2 : Nat) : Int))),(15,zL (.ptr 10 0 0 false)),(16,zL (.bool s.1.2.2)),(78,zL (Qy zu S)),(79,zL (.int .i64 (S.length : Int))),(80,zL (.int .i64 (s.1.1 : Int)))],[(1,some (qp 2 M.length M)),(2,some (zS (M.getD 0 default).held)),(3,some (zS (M.getD 1 default).held)),(4,some (zS (M.getD 2 default).held)),(5,some (zS (M.getD 3 default).held)),(6,some (zS (M.getD 4 default).held)),(7,some (zS (M.getD 5 default).held)),(8,some (zS (M.getD 6 default).held)),(9,some (zS (M.getD 7 default).held)),(10,some ⟨60,1,3,true,λ_=>zu.cell s.1.2.1⟩)],11⟩ : Hd)) (λs=>S.length - s.1.1) (λ_=>rfl) ?_ ⟨(0,⟨0,0,0⟩,false),Nat.zero_le _,eW,λ_=>rfl⟩ [(10,some 13)] ⟨rfl,⟨zD (zJ (zI L)),zB rfl,zM (zO zu S),zB rfl,zD (zH rfl rfl),zB rfl,zB rfl,zB rfl,zF rfl,zG rfl,zM (zO zu S),zB rfl,zB rfl,trivial⟩,⟨⟨rfl,zQ (by omega) (qJ rfl rfl rfl rfl rfl rfl rfl rfl)⟩,⟨rfl,zA⟩,⟨rfl,zA⟩,⟨rfl,zA⟩,⟨rfl,zA⟩,⟨rfl,zA⟩,⟨rfl,zA⟩,⟨rfl,zA⟩,⟨rfl,zA⟩,⟨rfl,zE (Zr ⟨zC rfl,zC rfl,zC rfl⟩)⟩,trivial⟩⟩;rintro ⟨⟨p,a,kn⟩,hp,hW,hkw⟩;dsimp only at hp hW hkw ⊢;unfold Qy;by_cases hpl : p < S.length
 . have w4 : IntKind.i64.wrap ((p : Int) + 1) = ((p + 1 : Nat) : Int):=(IntWalk.i64_in _ (by omega)).trans (by omega);have hst : ZK (M.getD 2 default).id (S.drop (p + 1)) (if (S.getD p default).id = (M.getD 2 default).id then S.getD p default else a) = W:=by rw [<- hW,qL hpl];rfl
   have n1 : (S.getD p default).id = (M.getD 2 default).id -> ZK (M.getD 2 default).id (S.drop (p + 1)) (S.getD p default) = W:=λh=>by rw [if_pos h] at hst;exact hst
   have n2 : ¬ (S.getD p default).id = (M.getD 2 default).id -> ZK (M.getD 2 default).id (S.drop (p + 1)) a = W:=λh=>by rw [if_neg h] at hst;exact hst
   clear hst;repeat' (first | (simp only [w4]) | (apply And.intro<;>intro hc<;>(first | exact Bool.noConfusion hc | (exfalso;first | exact absurd rfl hc | omega) | (simp only [zl] at hc<;>first | exact absurd rfl hc | (exfalso;first | exact absurd rfl hc | omega) | skip) | skip)) | (refine And.intro zj ?_) | (apply And.intro) | (intro s hs;skip) | (refine Exists.intro _ (And.intro ⟨rfl,rfl,rfl⟩ ?_)))
   . conv=>whnf
     exact ⟨⟨(p + 1,_,true),hpl,n1 hc,λh=>by cases h⟩,[],by dsimp only;omega,rfl,⟨zD (zJ (zI L)),zB rfl,zM (zO zu S),zB rfl,zD (zH rfl rfl),zB rfl,zB rfl,zB rfl,zF rfl,zG rfl,zM (zO zu S),zB rfl,zB w4,trivial⟩,⟨⟨rfl,zQ (by omega) (qJ rfl rfl rfl rfl rfl rfl rfl rfl)⟩,⟨rfl,zA⟩,⟨rfl,zA⟩,⟨rfl,zA⟩,⟨rfl,zA⟩,⟨rfl,zA⟩,⟨rfl,zA⟩,⟨rfl,zA⟩,⟨rfl,zA⟩,⟨rfl,zE (Zr ⟨zC rfl,zC rfl,zC rfl⟩)⟩,trivial⟩⟩
   . conv=>whnf
     exact ⟨⟨(p + 1,a,kn),hpl,n2 hc,hkw⟩,[],by dsimp only;omega,rfl,⟨zD (zJ (zI L)),zB rfl,zM (zO zu S),zB rfl,zD (zH rfl rfl),zB rfl,zB rfl,zB rfl,zF rfl,zG rfl,zM (zO zu S),zB rfl,zB w4,trivial⟩,⟨⟨rfl,zQ (by omega) (qJ rfl rfl rfl rfl rfl rfl rfl rfl)⟩,⟨rfl,zA⟩,⟨rfl,zA⟩,⟨rfl,zA⟩,⟨rfl,zA⟩,⟨rfl,zA⟩,⟨rfl,zA⟩,⟨rfl,zA⟩,⟨rfl,zA⟩,⟨rfl,zE λj hj=>(Elem.flat _ _ _).le⟩,trivial⟩⟩
 . obtain rfl : a = W:=by
    rw [List.drop_of_length_le (by omega)] at hW;exact hW
   clear hW;have hWm : 0 <= a.mn /\ a.mn <= 1073741824:=by rw [<- eW];exact Qi (λx hx=>(hSm x hx).2) ⟨Int.le_refl _,by decide⟩
   repeat' (first | (apply And.intro<;>intro hc<;>(first | exact Bool.noConfusion hc | (exfalso;first | exact absurd rfl hc | omega) | (simp only [zl] at hc<;>first | exact absurd rfl hc | (exfalso;first | exact absurd rfl hc | omega) | skip) | skip)) | (refine And.intro zj ?_) | (apply And.intro) | (intro s hs;skip) | (refine Exists.intro _ (And.intro ⟨rfl,rfl,rfl⟩ ?_)))
   conv=>whnf
   refine zU (zV qk) (λs : MapI (zAC a now draw) (M.getD 2 default).held=>(⟨[(0,zL (ZT ZB L)),(1,zL (.int .i64 now)),(2,zL (Qy zu S)),(3,zL (.int .u32 draw)),(13,zL (.os 1 0 M.length)),(74,zL (.int .i64 (L.length : Int))),(75,zL (.int .i64 ((2 : Nat) : Int))),(14,zL (.int .i64 ((2 : Nat) : Int))),(15,zL (.ptr 10 0 0 false)),(16,zL (.bool kn)),(99,zL (.int .i64 ((M.getD 2 default).held.length : Int))),(100,zL (.int .i64 (s.i : Int)))],[(1,some (qp 2 M.length M)),(2,some (zS (M.getD 0 default).held)),(3,some (zS (M.getD 1 default).held)),(4,some (zS s.M)),(5,some (zS (M.getD 3 default).held)),(6,some (zS (M.getD 4 default).held)),(7,some (zS (M.getD 5 default).held)),(8,some (zS (M.getD 6 default).held)),(9,some (zS (M.getD 7 default).held)),(10,some ⟨60,1,3,true,λ_=>zu.cell a⟩)],11⟩ : Hd)) (λs=>(M.getD 2 default).held.length - s.i) (λ_=>rfl) ?_ (MapI.start _ _) [] ⟨rfl,⟨zD (zJ (zI L)),zB rfl,zM (zO zu S),zB rfl,zD (zH rfl rfl),zB rfl,zB rfl,zB rfl,zF rfl,zG rfl,zB rfl,zB rfl,trivial⟩,⟨⟨rfl,zQ (by omega) (qJ rfl rfl rfl rfl rfl rfl rfl rfl)⟩,⟨rfl,zA⟩,⟨rfl,zA⟩,⟨rfl,zA⟩,⟨rfl,zA⟩,⟨rfl,zA⟩,⟨rfl,zA⟩,⟨rfl,zA⟩,⟨rfl,zA⟩,⟨rfl,zE λj hj=>(Elem.flat _ _ _).le⟩,trivial⟩⟩;intro s0;by_cases hkn : s0.i < (M.getD 2 default).held.length
   . have w4 : IntKind.i64.wrap ((s0.i : Int) + 1) = ((s0.i + 1 : Nat) : Int):=(IntWalk.i64_in _ (by omega)).trans (by omega);have z0 : 0 + (s0.i : Int).toNat = s0.i:=Nat.zero_add s0.i;have eh:=s0.h2 s0.i (Nat.le_refl _);have hl:=s0.n;have bk : Nat.beq s0.i s0.i = true:=Nat.beq_refl _;have hx:=QQ hX (zw hkn);have hx1:=(QI hX.h _ (zw hkn)).1;rw [<- eh] at hx hx1;have hxb:=hx.b;obtain ⟨B,eB2⟩ : ∃ B,YC a (s0.M.getD s0.i default).num = B:=⟨_,rfl⟩;obtain ⟨T,eT⟩ : ∃ T,Zq (s0.M.getD s0.i default).tm now draw = T:=⟨_,rfl⟩;repeat' (first | (simp only [z0,w4,bk,Bool.cond_true]) | (apply And.intro<;>intro hc<;>(first | exact Bool.noConfusion hc | (exfalso;first | exact absurd rfl hc | omega) | (simp only [zl] at hc<;>first | exact absurd rfl hc | (exfalso;first | exact absurd rfl hc | omega) | skip) | skip)) | (refine And.intro zj ?_) | (apply And.intro) | (intro s hs;(first | (have q : B = s:=eB2.symm.trans hs.symm;clear hs;subst q) | (have q : T = s:=eT.symm.trans hs.symm;clear hs;subst q))) | (refine Exists.intro _ (And.intro ⟨rfl,rfl,rfl⟩ ?_)))
     . exact hc
     . conv=>whnf
       refine ⟨s0.next hkn (s0.M.set s0.i { s0.M.getD s0.i default with tm:=T.1 }) (by rw [<- eh,zAB (hkw ‹_›) (by omega) eT]),[],by dsimp only [MapI.next];omega,rfl,⟨zD (zJ (zI L)),zB rfl,zM (zO zu S),zB rfl,zD (zH rfl rfl),zB rfl,zB rfl,zB rfl,zF rfl,zG rfl,zB rfl,zB w4,trivial⟩,⟨⟨rfl,zQ (by omega) (qJ rfl rfl rfl rfl rfl rfl rfl rfl)⟩,⟨rfl,zA⟩,⟨rfl,zA⟩,⟨rfl,qI ?_⟩,⟨rfl,zA⟩,⟨rfl,zA⟩,⟨rfl,zA⟩,⟨rfl,zA⟩,⟨rfl,zA⟩,⟨rfl,zE λj hj=>(Elem.flat _ _ _).le⟩,trivial⟩⟩;exact qd (by rw [hl];exact hkn) (qn ⟨zC rfl,(zm.sh _ 1 (by decide)).le,zC rfl,zC rfl,zC rfl,zC rfl,zC rfl,zC rfl,zC rfl,zW rfl,zC rfl⟩)
     . conv=>whnf
       refine ⟨s0.next hkn (s0.M.set s0.i { s0.M.getD s0.i default with tm:=T.1 }) (by rw [<- eh,Qa ‹_› (eB2.trans ‹_›) eT]),[],by dsimp only [MapI.next];omega,rfl,⟨zD (zJ (zI L)),zB rfl,zM (zO zu S),zB rfl,zD (zH rfl rfl),zB rfl,zB rfl,zB rfl,zF rfl,zG rfl,zB rfl,zB w4,trivial⟩,⟨⟨rfl,zQ (by omega) (qJ rfl rfl rfl rfl rfl rfl rfl rfl)⟩,⟨rfl,zA⟩,⟨rfl,zA⟩,⟨rfl,qI ?_⟩,⟨rfl,zA⟩,⟨rfl,zA⟩,⟨rfl,zA⟩,⟨rfl,zA⟩,⟨rfl,zA⟩,⟨rfl,zE λj hj=>(Elem.flat _ _ _).le⟩,trivial⟩⟩;exact qd (by rw [hl];exact hkn) (qn ⟨zC rfl,(zm.sh _ 1 (by decide)).le,zC rfl,zC rfl,zC rfl,zC rfl,zC rfl,zC rfl,zC rfl,zW rfl,zC rfl⟩)
     . conv=>whnf
       exact ⟨s0.next hkn s0.M (by rw [<- eh,Qm (eB2.trans ‹_›)];exact ZH (by rw [hl];exact hkn)),[],by dsimp only [MapI.next];omega,rfl,⟨zD (zJ (zI L)),zB rfl,zM (zO zu S),zB rfl,zD (zH rfl rfl),zB rfl,zB rfl,zB rfl,zF rfl,zG rfl,zB rfl,zB w4,trivial⟩,⟨⟨rfl,zQ (by omega) (qJ rfl rfl rfl rfl rfl rfl rfl rfl)⟩,⟨rfl,zA⟩,⟨rfl,zA⟩,⟨rfl,zA⟩,⟨rfl,zA⟩,⟨rfl,zA⟩,⟨rfl,zA⟩,⟨rfl,zA⟩,⟨rfl,zA⟩,⟨rfl,zE λj hj=>(Elem.flat _ _ _).le⟩,trivial⟩⟩
     . conv=>whnf
       exact ⟨s0.next hkn s0.M (by rw [<- eh,Ql ‹_›];exact ZH (by rw [hl];exact hkn)),[],by dsimp only [MapI.next];omega,rfl,⟨zD (zJ (zI L)),zB rfl,zM (zO zu S),zB rfl,zD (zH rfl rfl),zB rfl,zB rfl,zB rfl,zF rfl,zG rfl,zB rfl,zB w4,trivial⟩,⟨⟨rfl,zQ (by omega) (qJ rfl rfl rfl rfl rfl rfl rfl rfl)⟩,⟨rfl,zA⟩,⟨rfl,zA⟩,⟨rfl,zA⟩,⟨rfl,zA⟩,⟨rfl,zA⟩,⟨rfl,zA⟩,⟨rfl,zA⟩,⟨rfl,zA⟩,⟨rfl,zE λj hj=>(Elem.flat _ _ _).le⟩,trivial⟩⟩
   . have l1:=s0.last hkn;have hkk:=s0.hi;have hl:=s0.n;have w6 : IntKind.i64.wrap ((2 : Int) + 1) = ((2 + 1 : Nat) : Int):=rfl;repeat' (first | (apply And.intro<;>intro hc<;>(first | exact Bool.noConfusion hc | (exfalso;first | exact absurd rfl hc | omega) | (simp only [zl] at hc<;>first | exact absurd rfl hc | (exfalso;first | exact absurd rfl hc | omega) | skip) | skip)) | (refine And.intro zj ?_) | (apply And.intro) | (intro s hs;skip) | (refine Exists.intro _ (And.intro ⟨rfl,rfl,rfl⟩ ?_)))
     conv=>whnf
     refine ⟨s',[],by show L.length - s'.i < _;rw [f4];omega,rfl,⟨zD (zJ (zI L)),zB rfl,zM (zO zu S),zB rfl,zD (zH rfl (by rw [f1,List.length_set])),zB rfl,zB (by rw [f4];rfl),trivial⟩,⟨⟨rfl,⟨rfl,by show _ = s'.M.length;rw [f1,List.length_set];rfl,rfl,rfl,λp hp j hj=>?_⟩⟩,⟨rfl,zR (by rw [f1];exact congrArg Sed.held (zg (by decide)).symm)⟩,⟨rfl,zR (by rw [f1];exact congrArg Sed.held (zg (by decide)).symm)⟩,⟨rfl,zR (by rw [f1,Qw hiM];exact l1.trans (by rw [<- eW];rfl))⟩,⟨rfl,zR (by rw [f1];exact congrArg Sed.held (zg (by decide)).symm)⟩,⟨rfl,zR (by rw [f1];exact congrArg Sed.held (zg (by decide)).symm)⟩,⟨rfl,zR (by rw [f1];exact congrArg Sed.held (zg (by decide)).symm)⟩,⟨rfl,zR (by rw [f1];exact congrArg Sed.held (zg (by decide)).symm)⟩,⟨rfl,zR (by rw [f1];exact congrArg Sed.held (zg (by decide)).symm)⟩,trivial⟩⟩;have hp : p < M.length:=hp;have hj : j < 3:=hj;show Zu _ (Zg 2 M p j) (Zg 2 s'.M p j);rw [f1];rcases (show p = 0 \/ p = 1 \/ p = 2 \/ p = 3 \/ p = 4 \/ p = 5 \/ p = 6 \/ p = 7 by omega) with rfl | rfl | rfl | rfl | rfl | rfl | rfl | rfl;all_goals first
      | exact qF hj (by decide) rfl rfl
      | skip
     refine qG hiM ?_;rcases j with _ | _ | _ | j
     . exact zC rfl
     . exact zC rfl
     . exact zH rfl (by show _ = (List.map _ _).length;rw [List.length_map])
     . omega
theorem rcp_3 (L : List Sed) (S : List Smy) (now draw : Int) (hv : ZA L = true) (hS : ZR S = true) (hd : ZS draw) (ht : 0 <= now /\ now <= 1099511627776) (s : MapI (QU S now draw) L) (hi : s.i = 3) (hil : s.i < L.length) (K : Kt) :
 qR T (qH LRq) 1 Try.f49.ntmps 0 (Qg (Zc 5 (Try.f49.body.getD Code.ret))) (SCr L S now draw s).fr (SCr L S now draw s).H (SCr L S now draw s).nx (Yt (λfr H _=>zA8 (SCr L S now draw) (λs=>L.length - s.i) 0 (L.length - s.i) fr H) K):=by
 have h8:=Zv hv;obtain ⟨hS8,hSm⟩:=vys hS;have hX : SdOk (L.getD s.i default):=(qq hv _ (zw hil)).2;obtain ⟨s',es'⟩ : ∃ s',s.next hil _ rfl = s':=⟨_,rfl⟩;have f1 : s'.M = s.M.set s.i (QU S now draw (L.getD s.i default)):=by rw [<- es'];rfl
 have f4 : s'.i = s.i + 1:=by rw [<- es'];rfl
 clear es';obtain ⟨i,M,hn,hi0,h1,h2⟩:=s;dsimp only at hi hil hX f1 f4;subst hi;have hiM : 3 < M.length:=by omega
 have e0:=h2 3 (Nat.le_refl _);rw [<- e0] at hX f1;have hk:=hX.n;have hmn:=hX.mn;unfold SCr;dsimp only;clear h1 h2 e0;repeat' (first | (apply And.intro<;>intro hc<;>(first | exact Bool.noConfusion hc | (exfalso;first | exact absurd rfl hc | omega) | (simp only [zl] at hc<;>first | exact absurd rfl hc | (exfalso;first | exact absurd rfl hc | omega) | skip) | skip)) | (refine And.intro zj ?_) | (apply And.intro) | (intro s hs;skip) | (refine Exists.intro _ (And.intro ⟨rfl,rfl,rfl⟩ ?_)))
 conv=>whnf
 obtain ⟨W,eW⟩ : ∃ W,ZK (M.getD 3 default).id S ⟨0,0,0⟩ = W:=⟨_,rfl⟩;refine zU (zV qk) (λs : {p : Nat × Smy × Bool // p.1 <= S.length /\ ZK (M.getD 3 default).id (S.drop p.1) p.2.1 = W /\ (p.2.2 = false -> p.2.1 = ⟨0,0,0⟩)}=>(⟨[(0,zL (ZT ZB L)),(1,zL (.int .i64 now)),(2,zL (Qy zu S)),(3,zL (.int .u32 draw)),(13,zL (.os 1 0 M.length)),(74,zL (.int .i64 (L.length : Int))),(75,zL (.int .i64 ((3 : Nat) : Int))),(14,zL (.int .i64 ((3 : Nat) : Int))),(15,zL (.ptr 10 0 0 false)),(16,zL (.bool s.1.2.2)),(78,zL (Qy zu S)),(79,zL (.int .i64 (S.length : Int))),(80,zL (.int .i64 (s.1.1 : Int)))],[(1,some (qp 2 M.length M)),(2,some (zS (M.getD 0 default).held)),(3,some (zS (M.getD 1 default).held)),(4,some (zS (M.getD 2 default).held)),(5,some (zS (M.getD 3 default).held)),(6,some (zS (M.getD 4 default).held)),(7,some (zS (M.getD 5 default).held)),(8,some (zS (M.getD 6 default).held)),(9,some (zS (M.getD 7 default).held)),(10,some ⟨60,1,3,true,λ_=>zu.cell s.1.2.1⟩)],11⟩ : Hd)) (λs=>S.length - s.1.1) (λ_=>rfl) ?_ ⟨(0,⟨0,0,0⟩,false),Nat.zero_le _,eW,λ_=>rfl⟩ [(10,some 13)] ⟨rfl,⟨zD (zJ (zI L)),zB rfl,zM (zO zu S),zB rfl,zD (zH rfl rfl),zB rfl,zB rfl,zB rfl,zF rfl,zG rfl,zM (zO zu S),zB rfl,zB rfl,trivial⟩,⟨⟨rfl,zQ (by omega) (qJ rfl rfl rfl rfl rfl rfl rfl rfl)⟩,⟨rfl,zA⟩,⟨rfl,zA⟩,⟨rfl,zA⟩,⟨rfl,zA⟩,⟨rfl,zA⟩,⟨rfl,zA⟩,⟨rfl,zA⟩,⟨rfl,zA⟩,⟨rfl,zE (Zr ⟨zC rfl,zC rfl,zC rfl⟩)⟩,trivial⟩⟩;rintro ⟨⟨p,a,kn⟩,hp,hW,hkw⟩;dsimp only at hp hW hkw ⊢;unfold Qy;by_cases hpl : p < S.length
 . have w4 : IntKind.i64.wrap ((p : Int) + 1) = ((p + 1 : Nat) : Int):=(IntWalk.i64_in _ (by omega)).trans (by omega);have hst : ZK (M.getD 3 default).id (S.drop (p + 1)) (if (S.getD p default).id = (M.getD 3 default).id then S.getD p default else a) = W:=by rw [<- hW,qL hpl];rfl
   have n1 : (S.getD p default).id = (M.getD 3 default).id -> ZK (M.getD 3 default).id (S.drop (p + 1)) (S.getD p default) = W:=λh=>by rw [if_pos h] at hst;exact hst
   have n2 : ¬ (S.getD p default).id = (M.getD 3 default).id -> ZK (M.getD 3 default).id (S.drop (p + 1)) a = W:=λh=>by rw [if_neg h] at hst;exact hst
   clear hst;repeat' (first | (simp only [w4]) | (apply And.intro<;>intro hc<;>(first | exact Bool.noConfusion hc | (exfalso;first | exact absurd rfl hc | omega) | (simp only [zl] at hc<;>first | exact absurd rfl hc | (exfalso;first | exact absurd rfl hc | omega) | skip) | skip)) | (refine And.intro zj ?_) | (apply And.intro) | (intro s hs;skip) | (refine Exists.intro _ (And.intro ⟨rfl,rfl,rfl⟩ ?_)))
   . conv=>whnf
     exact ⟨⟨(p + 1,_,true),hpl,n1 hc,λh=>by cases h⟩,[],by dsimp only;omega,rfl,⟨zD (zJ (zI L)),zB rfl,zM (zO zu S),zB rfl,zD (zH rfl rfl),zB rfl,zB rfl,zB rfl,zF rfl,zG rfl,zM (zO zu S),zB rfl,zB w4,trivial⟩,⟨⟨rfl,zQ (by omega) (qJ rfl rfl rfl rfl rfl rfl rfl rfl)⟩,⟨rfl,zA⟩,⟨rfl,zA⟩,⟨rfl,zA⟩,⟨rfl,zA⟩,⟨rfl,zA⟩,⟨rfl,zA⟩,⟨rfl,zA⟩,⟨rfl,zA⟩,⟨rfl,zE (Zr ⟨zC rfl,zC rfl,zC rfl⟩)⟩,trivial⟩⟩
   . conv=>whnf
     exact ⟨⟨(p + 1,a,kn),hpl,n2 hc,hkw⟩,[],by dsimp only;omega,rfl,⟨zD (zJ (zI L)),zB rfl,zM (zO zu S),zB rfl,zD (zH rfl rfl),zB rfl,zB rfl,zB rfl,zF rfl,zG rfl,zM (zO zu S),zB rfl,zB w4,trivial⟩,⟨⟨rfl,zQ (by omega) (qJ rfl rfl rfl rfl rfl rfl rfl rfl)⟩,⟨rfl,zA⟩,⟨rfl,zA⟩,⟨rfl,zA⟩,⟨rfl,zA⟩,⟨rfl,zA⟩,⟨rfl,zA⟩,⟨rfl,zA⟩,⟨rfl,zA⟩,⟨rfl,zE λj hj=>(Elem.flat _ _ _).le⟩,trivial⟩⟩
 . obtain rfl : a = W:=by
    rw [List.drop_of_length_le (by omega)] at hW;exact hW
   clear hW;have hWm : 0 <= a.mn /\ a.mn <= 1073741824:=by rw [<- eW];exact Qi (λx hx=>(hSm x hx).2) ⟨Int.le_refl _,by decide⟩
   repeat' (first | (apply And.intro<;>intro hc<;>(first | exact Bool.noConfusion hc | (exfalso;first | exact absurd rfl hc | omega) | (simp only [zl] at hc<;>first | exact absurd rfl hc | (exfalso;first | exact absurd rfl hc | omega) | skip) | skip)) | (refine And.intro zj ?_) | (apply And.intro) | (intro s hs;skip) | (refine Exists.intro _ (And.intro ⟨rfl,rfl,rfl⟩ ?_)))
   conv=>whnf
   refine zU (zV qk) (λs : MapI (zAC a now draw) (M.getD 3 default).held=>(⟨[(0,zL (ZT ZB L)),(1,zL (.int .i64 now)),(2,zL (Qy zu S)),(3,zL (.int .u32 draw)),(13,zL (.os 1 0 M.length)),(74,zL (.int .i64 (L.length : Int))),(75,zL (.int .i64 ((3 : Nat) : Int))),(14,zL (.int .i64 ((3 : Nat) : Int))),(15,zL (.ptr 10 0 0 false)),(16,zL (.bool kn)),(99,zL (.int .i64 ((M.getD 3 default).held.length : Int))),(100,zL (.int .i64 (s.i : Int)))],[(1,some (qp 2 M.length M)),(2,some (zS (M.getD 0 default).held)),(3,some (zS (M.getD 1 default).held)),(4,some (zS (M.getD 2 default).held)),(5,some (zS s.M)),(6,some (zS (M.getD 4 default).held)),(7,some (zS (M.getD 5 default).held)),(8,some (zS (M.getD 6 default).held)),(9,some (zS (M.getD 7 default).held)),(10,some ⟨60,1,3,true,λ_=>zu.cell a⟩)],11⟩ : Hd)) (λs=>(M.getD 3 default).held.length - s.i) (λ_=>rfl) ?_ (MapI.start _ _) [] ⟨rfl,⟨zD (zJ (zI L)),zB rfl,zM (zO zu S),zB rfl,zD (zH rfl rfl),zB rfl,zB rfl,zB rfl,zF rfl,zG rfl,zB rfl,zB rfl,trivial⟩,⟨⟨rfl,zQ (by omega) (qJ rfl rfl rfl rfl rfl rfl rfl rfl)⟩,⟨rfl,zA⟩,⟨rfl,zA⟩,⟨rfl,zA⟩,⟨rfl,zA⟩,⟨rfl,zA⟩,⟨rfl,zA⟩,⟨rfl,zA⟩,⟨rfl,zA⟩,⟨rfl,zE λj hj=>(Elem.flat _ _ _).le⟩,trivial⟩⟩;intro s0;by_cases hkn : s0.i < (M.getD 3 default).held.length
   . have w4 : IntKind.i64.wrap ((s0.i : Int) + 1) = ((s0.i + 1 : Nat) : Int):=(IntWalk.i64_in _ (by omega)).trans (by omega);have z0 : 0 + (s0.i : Int).toNat = s0.i:=Nat.zero_add s0.i;have eh:=s0.h2 s0.i (Nat.le_refl _);have hl:=s0.n;have bk : Nat.beq s0.i s0.i = true:=Nat.beq_refl _;have hx:=QQ hX (zw hkn);have hx1:=(QI hX.h _ (zw hkn)).1;rw [<- eh] at hx hx1;have hxb:=hx.b;obtain ⟨B,eB2⟩ : ∃ B,YC a (s0.M.getD s0.i default).num = B:=⟨_,rfl⟩;obtain ⟨T,eT⟩ : ∃ T,Zq (s0.M.getD s0.i default).tm now draw = T:=⟨_,rfl⟩;repeat' (first | (simp only [z0,w4,bk,Bool.cond_true]) | (apply And.intro<;>intro hc<;>(first | exact Bool.noConfusion hc | (exfalso;first | exact absurd rfl hc | omega) | (simp only [zl] at hc<;>first | exact absurd rfl hc | (exfalso;first | exact absurd rfl hc | omega) | skip) | skip)) | (refine And.intro zj ?_) | (apply And.intro) | (intro s hs;(first | (have q : B = s:=eB2.symm.trans hs.symm;clear hs;subst q) | (have q : T = s:=eT.symm.trans hs.symm;clear hs;subst q))) | (refine Exists.intro _ (And.intro ⟨rfl,rfl,rfl⟩ ?_)))
     . exact hc
     . conv=>whnf
       refine ⟨s0.next hkn (s0.M.set s0.i { s0.M.getD s0.i default with tm:=T.1 }) (by rw [<- eh,zAB (hkw ‹_›) (by omega) eT]),[],by dsimp only [MapI.next];omega,rfl,⟨zD (zJ (zI L)),zB rfl,zM (zO zu S),zB rfl,zD (zH rfl rfl),zB rfl,zB rfl,zB rfl,zF rfl,zG rfl,zB rfl,zB w4,trivial⟩,⟨⟨rfl,zQ (by omega) (qJ rfl rfl rfl rfl rfl rfl rfl rfl)⟩,⟨rfl,zA⟩,⟨rfl,zA⟩,⟨rfl,zA⟩,⟨rfl,qI ?_⟩,⟨rfl,zA⟩,⟨rfl,zA⟩,⟨rfl,zA⟩,⟨rfl,zA⟩,⟨rfl,zE λj hj=>(Elem.flat _ _ _).le⟩,trivial⟩⟩;exact qd (by rw [hl];exact hkn) (qn ⟨zC rfl,(zm.sh _ 1 (by decide)).le,zC rfl,zC rfl,zC rfl,zC rfl,zC rfl,zC rfl,zC rfl,zW rfl,zC rfl⟩)
     . conv=>whnf
       refine ⟨s0.next hkn (s0.M.set s0.i { s0.M.getD s0.i default with tm:=T.1 }) (by rw [<- eh,Qa ‹_› (eB2.trans ‹_›) eT]),[],by dsimp only [MapI.next];omega,rfl,⟨zD (zJ (zI L)),zB rfl,zM (zO zu S),zB rfl,zD (zH rfl rfl),zB rfl,zB rfl,zB rfl,zF rfl,zG rfl,zB rfl,zB w4,trivial⟩,⟨⟨rfl,zQ (by omega) (qJ rfl rfl rfl rfl rfl rfl rfl rfl)⟩,⟨rfl,zA⟩,⟨rfl,zA⟩,⟨rfl,zA⟩,⟨rfl,qI ?_⟩,⟨rfl,zA⟩,⟨rfl,zA⟩,⟨rfl,zA⟩,⟨rfl,zA⟩,⟨rfl,zE λj hj=>(Elem.flat _ _ _).le⟩,trivial⟩⟩;exact qd (by rw [hl];exact hkn) (qn ⟨zC rfl,(zm.sh _ 1 (by decide)).le,zC rfl,zC rfl,zC rfl,zC rfl,zC rfl,zC rfl,zC rfl,zW rfl,zC rfl⟩)
     . conv=>whnf
       exact ⟨s0.next hkn s0.M (by rw [<- eh,Qm (eB2.trans ‹_›)];exact ZH (by rw [hl];exact hkn)),[],by dsimp only [MapI.next];omega,rfl,⟨zD (zJ (zI L)),zB rfl,zM (zO zu S),zB rfl,zD (zH rfl rfl),zB rfl,zB rfl,zB rfl,zF rfl,zG rfl,zB rfl,zB w4,trivial⟩,⟨⟨rfl,zQ (by omega) (qJ rfl rfl rfl rfl rfl rfl rfl rfl)⟩,⟨rfl,zA⟩,⟨rfl,zA⟩,⟨rfl,zA⟩,⟨rfl,zA⟩,⟨rfl,zA⟩,⟨rfl,zA⟩,⟨rfl,zA⟩,⟨rfl,zA⟩,⟨rfl,zE λj hj=>(Elem.flat _ _ _).le⟩,trivial⟩⟩
     . conv=>whnf
       exact ⟨s0.next hkn s0.M (by rw [<- eh,Ql ‹_›];exact ZH (by rw [hl];exact hkn)),[],by dsimp only [MapI.next];omega,rfl,⟨zD (zJ (zI L)),zB rfl,zM (zO zu S),zB rfl,zD (zH rfl rfl),zB rfl,zB rfl,zB rfl,zF rfl,zG rfl,zB rfl,zB w4,trivial⟩,⟨⟨rfl,zQ (by omega) (qJ rfl rfl rfl rfl rfl rfl rfl rfl)⟩,⟨rfl,zA⟩,⟨rfl,zA⟩,⟨rfl,zA⟩,⟨rfl,zA⟩,⟨rfl,zA⟩,⟨rfl,zA⟩,⟨rfl,zA⟩,⟨rfl,zA⟩,⟨rfl,zE λj hj=>(Elem.flat _ _ _).le⟩,trivial⟩⟩
   . have l1:=s0.last hkn;have hkk:=s0.hi;have hl:=s0.n;have w6 : IntKind.i64.wrap ((3 : Int) + 1) = ((3 + 1 : Nat) : Int):=rfl;repeat' (first | (apply And.intro<;>intro hc<;>(first | exact Bool.noConfusion hc | (exfalso;first | exact absurd rfl hc | omega) | (simp only [zl] at hc<;>first | exact absurd rfl hc | (exfalso;first | exact absurd rfl hc | omega) | skip) | skip)) | (refine And.intro zj ?_) | (apply And.intro) | (intro s hs;skip) | (refine Exists.intro _ (And.intro ⟨rfl,rfl,rfl⟩ ?_)))
     conv=>whnf
     refine ⟨s',[],by show L.length - s'.i < _;rw [f4];omega,rfl,⟨zD (zJ (zI L)),zB rfl,zM (zO zu S),zB rfl,zD (zH rfl (by rw [f1,List.length_set])),zB rfl,zB (by rw [f4];rfl),trivial⟩,⟨⟨rfl,⟨rfl,by show _ = s'.M.length;rw [f1,List.length_set];rfl,rfl,rfl,λp hp j hj=>?_⟩⟩,⟨rfl,zR (by rw [f1];exact congrArg Sed.held (zg (by decide)).symm)⟩,⟨rfl,zR (by rw [f1];exact congrArg Sed.held (zg (by decide)).symm)⟩,⟨rfl,zR (by rw [f1];exact congrArg Sed.held (zg (by decide)).symm)⟩,⟨rfl,zR (by rw [f1,Qw hiM];exact l1.trans (by rw [<- eW];rfl))⟩,⟨rfl,zR (by rw [f1];exact congrArg Sed.held (zg (by decide)).symm)⟩,⟨rfl,zR (by rw [f1];exact congrArg Sed.held (zg (by decide)).symm)⟩,⟨rfl,zR (by rw [f1];exact congrArg Sed.held (zg (by decide)).symm)⟩,⟨rfl,zR (by rw [f1];exact congrArg Sed.held (zg (by decide)).symm)⟩,trivial⟩⟩;have hp : p < M.length:=hp;have hj : j < 3:=hj;show Zu _ (Zg 2 M p j) (Zg 2 s'.M p j);rw [f1];rcases (show p = 0 \/ p = 1 \/ p = 2 \/ p = 3 \/ p = 4 \/ p = 5 \/ p = 6 \/ p = 7 by omega) with rfl | rfl | rfl | rfl | rfl | rfl | rfl | rfl;all_goals first
      | exact qF hj (by decide) rfl rfl
      | skip
     refine qG hiM ?_;rcases j with _ | _ | _ | j
     . exact zC rfl
     . exact zC rfl
     . exact zH rfl (by show _ = (List.map _ _).length;rw [List.length_map])
     . omega
theorem rcp_4 (L : List Sed) (S : List Smy) (now draw : Int) (hv : ZA L = true) (hS : ZR S = true) (hd : ZS draw) (ht : 0 <= now /\ now <= 1099511627776) (s : MapI (QU S now draw) L) (hi : s.i = 4) (hil : s.i < L.length) (K : Kt) :
 qR T (qH LRq) 1 Try.f49.ntmps 0 (Qg (Zc 5 (Try.f49.body.getD Code.ret))) (SCr L S now draw s).fr (SCr L S now draw s).H (SCr L S now draw s).nx (Yt (λfr H _=>zA8 (SCr L S now draw) (λs=>L.length - s.i) 0 (L.length - s.i) fr H) K):=by
 have h8:=Zv hv;obtain ⟨hS8,hSm⟩:=vys hS;have hX : SdOk (L.getD s.i default):=(qq hv _ (zw hil)).2;obtain ⟨s',es'⟩ : ∃ s',s.next hil _ rfl = s':=⟨_,rfl⟩;have f1 : s'.M = s.M.set s.i (QU S now draw (L.getD s.i default)):=by rw [<- es'];rfl
 have f4 : s'.i = s.i + 1:=by rw [<- es'];rfl
 clear es';obtain ⟨i,M,hn,hi0,h1,h2⟩:=s;dsimp only at hi hil hX f1 f4;subst hi;have hiM : 4 < M.length:=by omega
 have e0:=h2 4 (Nat.le_refl _);rw [<- e0] at hX f1;have hk:=hX.n;have hmn:=hX.mn;unfold SCr;dsimp only;clear h1 h2 e0;repeat' (first | (apply And.intro<;>intro hc<;>(first | exact Bool.noConfusion hc | (exfalso;first | exact absurd rfl hc | omega) | (simp only [zl] at hc<;>first | exact absurd rfl hc | (exfalso;first | exact absurd rfl hc | omega) | skip) | skip)) | (refine And.intro zj ?_) | (apply And.intro) | (intro s hs;skip) | (refine Exists.intro _ (And.intro ⟨rfl,rfl,rfl⟩ ?_)))
 conv=>whnf
 obtain ⟨W,eW⟩ : ∃ W,ZK (M.getD 4 default).id S ⟨0,0,0⟩ = W:=⟨_,rfl⟩;refine zU (zV qk) (λs : {p : Nat × Smy × Bool // p.1 <= S.length /\ ZK (M.getD 4 default).id (S.drop p.1) p.2.1 = W /\ (p.2.2 = false -> p.2.1 = ⟨0,0,0⟩)}=>(⟨[(0,zL (ZT ZB L)),(1,zL (.int .i64 now)),(2,zL (Qy zu S)),(3,zL (.int .u32 draw)),(13,zL (.os 1 0 M.length)),(74,zL (.int .i64 (L.length : Int))),(75,zL (.int .i64 ((4 : Nat) : Int))),(14,zL (.int .i64 ((4 : Nat) : Int))),(15,zL (.ptr 10 0 0 false)),(16,zL (.bool s.1.2.2)),(78,zL (Qy zu S)),(79,zL (.int .i64 (S.length : Int))),(80,zL (.int .i64 (s.1.1 : Int)))],[(1,some (qp 2 M.length M)),(2,some (zS (M.getD 0 default).held)),(3,some (zS (M.getD 1 default).held)),(4,some (zS (M.getD 2 default).held)),(5,some (zS (M.getD 3 default).held)),(6,some (zS (M.getD 4 default).held)),(7,some (zS (M.getD 5 default).held)),(8,some (zS (M.getD 6 default).held)),(9,some (zS (M.getD 7 default).held)),(10,some ⟨60,1,3,true,λ_=>zu.cell s.1.2.1⟩)],11⟩ : Hd)) (λs=>S.length - s.1.1) (λ_=>rfl) ?_ ⟨(0,⟨0,0,0⟩,false),Nat.zero_le _,eW,λ_=>rfl⟩ [(10,some 13)] ⟨rfl,⟨zD (zJ (zI L)),zB rfl,zM (zO zu S),zB rfl,zD (zH rfl rfl),zB rfl,zB rfl,zB rfl,zF rfl,zG rfl,zM (zO zu S),zB rfl,zB rfl,trivial⟩,⟨⟨rfl,zQ (by omega) (qJ rfl rfl rfl rfl rfl rfl rfl rfl)⟩,⟨rfl,zA⟩,⟨rfl,zA⟩,⟨rfl,zA⟩,⟨rfl,zA⟩,⟨rfl,zA⟩,⟨rfl,zA⟩,⟨rfl,zA⟩,⟨rfl,zA⟩,⟨rfl,zE (Zr ⟨zC rfl,zC rfl,zC rfl⟩)⟩,trivial⟩⟩;rintro ⟨⟨p,a,kn⟩,hp,hW,hkw⟩;dsimp only at hp hW hkw ⊢;unfold Qy;by_cases hpl : p < S.length
 . have w4 : IntKind.i64.wrap ((p : Int) + 1) = ((p + 1 : Nat) : Int):=(IntWalk.i64_in _ (by omega)).trans (by omega);have hst : ZK (M.getD 4 default).id (S.drop (p + 1)) (if (S.getD p default).id = (M.getD 4 default).id then S.getD p default else a) = W:=by rw [<- hW,qL hpl];rfl
   have n1 : (S.getD p default).id = (M.getD 4 default).id -> ZK (M.getD 4 default).id (S.drop (p + 1)) (S.getD p default) = W:=λh=>by rw [if_pos h] at hst;exact hst
   have n2 : ¬ (S.getD p default).id = (M.getD 4 default).id -> ZK (M.getD 4 default).id (S.drop (p + 1)) a = W:=λh=>by rw [if_neg h] at hst;exact hst
   clear hst;repeat' (first | (simp only [w4]) | (apply And.intro<;>intro hc<;>(first | exact Bool.noConfusion hc | (exfalso;first | exact absurd rfl hc | omega) | (simp only [zl] at hc<;>first | exact absurd rfl hc | (exfalso;first | exact absurd rfl hc | omega) | skip) | skip)) | (refine And.intro zj ?_) | (apply And.intro) | (intro s hs;skip) | (refine Exists.intro _ (And.intro ⟨rfl,rfl,rfl⟩ ?_)))
   . conv=>whnf
     exact ⟨⟨(p + 1,_,true),hpl,n1 hc,λh=>by cases h⟩,[],by dsimp only;omega,rfl,⟨zD (zJ (zI L)),zB rfl,zM (zO zu S),zB rfl,zD (zH rfl rfl),zB rfl,zB rfl,zB rfl,zF rfl,zG rfl,zM (zO zu S),zB rfl,zB w4,trivial⟩,⟨⟨rfl,zQ (by omega) (qJ rfl rfl rfl rfl rfl rfl rfl rfl)⟩,⟨rfl,zA⟩,⟨rfl,zA⟩,⟨rfl,zA⟩,⟨rfl,zA⟩,⟨rfl,zA⟩,⟨rfl,zA⟩,⟨rfl,zA⟩,⟨rfl,zA⟩,⟨rfl,zE (Zr ⟨zC rfl,zC rfl,zC rfl⟩)⟩,trivial⟩⟩
   . conv=>whnf
     exact ⟨⟨(p + 1,a,kn),hpl,n2 hc,hkw⟩,[],by dsimp only;omega,rfl,⟨zD (zJ (zI L)),zB rfl,zM (zO zu S),zB rfl,zD (zH rfl rfl),zB rfl,zB rfl,zB rfl,zF rfl,zG rfl,zM (zO zu S),zB rfl,zB w4,trivial⟩,⟨⟨rfl,zQ (by omega) (qJ rfl rfl rfl rfl rfl rfl rfl rfl)⟩,⟨rfl,zA⟩,⟨rfl,zA⟩,⟨rfl,zA⟩,⟨rfl,zA⟩,⟨rfl,zA⟩,⟨rfl,zA⟩,⟨rfl,zA⟩,⟨rfl,zA⟩,⟨rfl,zE λj hj=>(Elem.flat _ _ _).le⟩,trivial⟩⟩
 . obtain rfl : a = W:=by
    rw [List.drop_of_length_le (by omega)] at hW;exact hW
   clear hW;have hWm : 0 <= a.mn /\ a.mn <= 1073741824:=by rw [<- eW];exact Qi (λx hx=>(hSm x hx).2) ⟨Int.le_refl _,by decide⟩
   repeat' (first | (apply And.intro<;>intro hc<;>(first | exact Bool.noConfusion hc | (exfalso;first | exact absurd rfl hc | omega) | (simp only [zl] at hc<;>first | exact absurd rfl hc | (exfalso;first | exact absurd rfl hc | omega) | skip) | skip)) | (refine And.intro zj ?_) | (apply And.intro) | (intro s hs;skip) | (refine Exists.intro _ (And.intro ⟨rfl,rfl,rfl⟩ ?_)))
   conv=>whnf
   refine zU (zV qk) (λs : MapI (zAC a now draw) (M.getD 4 default).held=>(⟨[(0,zL (ZT ZB L)),(1,zL (.int .i64 now)),(2,zL (Qy zu S)),(3,zL (.int .u32 draw)),(13,zL (.os 1 0 M.length)),(74,zL (.int .i64 (L.length : Int))),(75,zL (.int .i64 ((4 : Nat) : Int))),(14,zL (.int .i64 ((4 : Nat) : Int))),(15,zL (.ptr 10 0 0 false)),(16,zL (.bool kn)),(99,zL (.int .i64 ((M.getD 4 default).held.length : Int))),(100,zL (.int .i64 (s.i : Int)))],[(1,some (qp 2 M.length M)),(2,some (zS (M.getD 0 default).held)),(3,some (zS (M.getD 1 default).held)),(4,some (zS (M.getD 2 default).held)),(5,some (zS (M.getD 3 default).held)),(6,some (zS s.M)),(7,some (zS (M.getD 5 default).held)),(8,some (zS (M.getD 6 default).held)),(9,some (zS (M.getD 7 default).held)),(10,some ⟨60,1,3,true,λ_=>zu.cell a⟩)],11⟩ : Hd)) (λs=>(M.getD 4 default).held.length - s.i) (λ_=>rfl) ?_ (MapI.start _ _) [] ⟨rfl,⟨zD (zJ (zI L)),zB rfl,zM (zO zu S),zB rfl,zD (zH rfl rfl),zB rfl,zB rfl,zB rfl,zF rfl,zG rfl,zB rfl,zB rfl,trivial⟩,⟨⟨rfl,zQ (by omega) (qJ rfl rfl rfl rfl rfl rfl rfl rfl)⟩,⟨rfl,zA⟩,⟨rfl,zA⟩,⟨rfl,zA⟩,⟨rfl,zA⟩,⟨rfl,zA⟩,⟨rfl,zA⟩,⟨rfl,zA⟩,⟨rfl,zA⟩,⟨rfl,zE λj hj=>(Elem.flat _ _ _).le⟩,trivial⟩⟩;intro s0;by_cases hkn : s0.i < (M.getD 4 default).held.length
   . have w4 : IntKind.i64.wrap ((s0.i : Int) + 1) = ((s0.i + 1 : Nat) : Int):=(IntWalk.i64_in _ (by omega)).trans (by omega);have z0 : 0 + (s0.i : Int).toNat = s0.i:=Nat.zero_add s0.i;have eh:=s0.h2 s0.i (Nat.le_refl _);have hl:=s0.n;have bk : Nat.beq s0.i s0.i = true:=Nat.beq_refl _;have hx:=QQ hX (zw hkn);have hx1:=(QI hX.h _ (zw hkn)).1;rw [<- eh] at hx hx1;have hxb:=hx.b;obtain ⟨B,eB2⟩ : ∃ B,YC a (s0.M.getD s0.i default).num = B:=⟨_,rfl⟩;obtain ⟨T,eT⟩ : ∃ T,Zq (s0.M.getD s0.i default).tm now draw = T:=⟨_,rfl⟩;repeat' (first | (simp only [z0,w4,bk,Bool.cond_true]) | (apply And.intro<;>intro hc<;>(first | exact Bool.noConfusion hc | (exfalso;first | exact absurd rfl hc | omega) | (simp only [zl] at hc<;>first | exact absurd rfl hc | (exfalso;first | exact absurd rfl hc | omega) | skip) | skip)) | (refine And.intro zj ?_) | (apply And.intro) | (intro s hs;(first | (have q : B = s:=eB2.symm.trans hs.symm;clear hs;subst q) | (have q : T = s:=eT.symm.trans hs.symm;clear hs;subst q))) | (refine Exists.intro _ (And.intro ⟨rfl,rfl,rfl⟩ ?_)))
     . exact hc
     . conv=>whnf
       refine ⟨s0.next hkn (s0.M.set s0.i { s0.M.getD s0.i default with tm:=T.1 }) (by rw [<- eh,zAB (hkw ‹_›) (by omega) eT]),[],by dsimp only [MapI.next];omega,rfl,⟨zD (zJ (zI L)),zB rfl,zM (zO zu S),zB rfl,zD (zH rfl rfl),zB rfl,zB rfl,zB rfl,zF rfl,zG rfl,zB rfl,zB w4,trivial⟩,⟨⟨rfl,zQ (by omega) (qJ rfl rfl rfl rfl rfl rfl rfl rfl)⟩,⟨rfl,zA⟩,⟨rfl,zA⟩,⟨rfl,zA⟩,⟨rfl,zA⟩,⟨rfl,qI ?_⟩,⟨rfl,zA⟩,⟨rfl,zA⟩,⟨rfl,zA⟩,⟨rfl,zE λj hj=>(Elem.flat _ _ _).le⟩,trivial⟩⟩;exact qd (by rw [hl];exact hkn) (qn ⟨zC rfl,(zm.sh _ 1 (by decide)).le,zC rfl,zC rfl,zC rfl,zC rfl,zC rfl,zC rfl,zC rfl,zW rfl,zC rfl⟩)
     . conv=>whnf
       refine ⟨s0.next hkn (s0.M.set s0.i { s0.M.getD s0.i default with tm:=T.1 }) (by rw [<- eh,Qa ‹_› (eB2.trans ‹_›) eT]),[],by dsimp only [MapI.next];omega,rfl,⟨zD (zJ (zI L)),zB rfl,zM (zO zu S),zB rfl,zD (zH rfl rfl),zB rfl,zB rfl,zB rfl,zF rfl,zG rfl,zB rfl,zB w4,trivial⟩,⟨⟨rfl,zQ (by omega) (qJ rfl rfl rfl rfl rfl rfl rfl rfl)⟩,⟨rfl,zA⟩,⟨rfl,zA⟩,⟨rfl,zA⟩,⟨rfl,zA⟩,⟨rfl,qI ?_⟩,⟨rfl,zA⟩,⟨rfl,zA⟩,⟨rfl,zA⟩,⟨rfl,zE λj hj=>(Elem.flat _ _ _).le⟩,trivial⟩⟩;exact qd (by rw [hl];exact hkn) (qn ⟨zC rfl,(zm.sh _ 1 (by decide)).le,zC rfl,zC rfl,zC rfl,zC rfl,zC rfl,zC rfl,zC rfl,zW rfl,zC rfl⟩)
     . conv=>whnf
       exact ⟨s0.next hkn s0.M (by rw [<- eh,Qm (eB2.trans ‹_›)];exact ZH (by rw [hl];exact hkn)),[],by dsimp only [MapI.next];omega,rfl,⟨zD (zJ (zI L)),zB rfl,zM (zO zu S),zB rfl,zD (zH rfl rfl),zB rfl,zB rfl,zB rfl,zF rfl,zG rfl,zB rfl,zB w4,trivial⟩,⟨⟨rfl,zQ (by omega) (qJ rfl rfl rfl rfl rfl rfl rfl rfl)⟩,⟨rfl,zA⟩,⟨rfl,zA⟩,⟨rfl,zA⟩,⟨rfl,zA⟩,⟨rfl,zA⟩,⟨rfl,zA⟩,⟨rfl,zA⟩,⟨rfl,zA⟩,⟨rfl,zE λj hj=>(Elem.flat _ _ _).le⟩,trivial⟩⟩
     . conv=>whnf
       exact ⟨s0.next hkn s0.M (by rw [<- eh,Ql ‹_›];exact ZH (by rw [hl];exact hkn)),[],by dsimp only [MapI.next];omega,rfl,⟨zD (zJ (zI L)),zB rfl,zM (zO zu S),zB rfl,zD (zH rfl rfl),zB rfl,zB rfl,zB rfl,zF rfl,zG rfl,zB rfl,zB w4,trivial⟩,⟨⟨rfl,zQ (by omega) (qJ rfl rfl rfl rfl rfl rfl rfl rfl)⟩,⟨rfl,zA⟩,⟨rfl,zA⟩,⟨rfl,zA⟩,⟨rfl,zA⟩,⟨rfl,zA⟩,⟨rfl,zA⟩,⟨rfl,zA⟩,⟨rfl,zA⟩,⟨rfl,zE λj hj=>(Elem.flat _ _ _).le⟩,trivial⟩⟩
   . have l1:=s0.last hkn;have hkk:=s0.hi;have hl:=s0.n;have w6 : IntKind.i64.wrap ((4 : Int) + 1) = ((4 + 1 : Nat) : Int):=rfl;repeat' (first | (apply And.intro<;>intro hc<;>(first | exact Bool.noConfusion hc | (exfalso;first | exact absurd rfl hc | omega) | (simp only [zl] at hc<;>first | exact absurd rfl hc | (exfalso;first | exact absurd rfl hc | omega) | skip) | skip)) | (refine And.intro zj ?_) | (apply And.intro) | (intro s hs;skip) | (refine Exists.intro _ (And.intro ⟨rfl,rfl,rfl⟩ ?_)))
     conv=>whnf
     refine ⟨s',[],by show L.length - s'.i < _;rw [f4];omega,rfl,⟨zD (zJ (zI L)),zB rfl,zM (zO zu S),zB rfl,zD (zH rfl (by rw [f1,List.length_set])),zB rfl,zB (by rw [f4];rfl),trivial⟩,⟨⟨rfl,⟨rfl,by show _ = s'.M.length;rw [f1,List.length_set];rfl,rfl,rfl,λp hp j hj=>?_⟩⟩,⟨rfl,zR (by rw [f1];exact congrArg Sed.held (zg (by decide)).symm)⟩,⟨rfl,zR (by rw [f1];exact congrArg Sed.held (zg (by decide)).symm)⟩,⟨rfl,zR (by rw [f1];exact congrArg Sed.held (zg (by decide)).symm)⟩,⟨rfl,zR (by rw [f1];exact congrArg Sed.held (zg (by decide)).symm)⟩,⟨rfl,zR (by rw [f1,Qw hiM];exact l1.trans (by rw [<- eW];rfl))⟩,⟨rfl,zR (by rw [f1];exact congrArg Sed.held (zg (by decide)).symm)⟩,⟨rfl,zR (by rw [f1];exact congrArg Sed.held (zg (by decide)).symm)⟩,⟨rfl,zR (by rw [f1];exact congrArg Sed.held (zg (by decide)).symm)⟩,trivial⟩⟩;have hp : p < M.length:=hp;have hj : j < 3:=hj;show Zu _ (Zg 2 M p j) (Zg 2 s'.M p j);rw [f1];rcases (show p = 0 \/ p = 1 \/ p = 2 \/ p = 3 \/ p = 4 \/ p = 5 \/ p = 6 \/ p = 7 by omega) with rfl | rfl | rfl | rfl | rfl | rfl | rfl | rfl;all_goals first
      | exact qF hj (by decide) rfl rfl
      | skip
     refine qG hiM ?_;rcases j with _ | _ | _ | j
     . exact zC rfl
     . exact zC rfl
     . exact zH rfl (by show _ = (List.map _ _).length;rw [List.length_map])
     . omega
theorem rcp_5 (L : List Sed) (S : List Smy) (now draw : Int) (hv : ZA L = true) (hS : ZR S = true) (hd : ZS draw) (ht : 0 <= now /\ now <= 1099511627776) (s : MapI (QU S now draw) L) (hi : s.i = 5) (hil : s.i < L.length) (K : Kt) :
 qR T (qH LRq) 1 Try.f49.ntmps 0 (Qg (Zc 5 (Try.f49.body.getD Code.ret))) (SCr L S now draw s).fr (SCr L S now draw s).H (SCr L S now draw s).nx (Yt (λfr H _=>zA8 (SCr L S now draw) (λs=>L.length - s.i) 0 (L.length - s.i) fr H) K):=by
 have h8:=Zv hv;obtain ⟨hS8,hSm⟩:=vys hS;have hX : SdOk (L.getD s.i default):=(qq hv _ (zw hil)).2;obtain ⟨s',es'⟩ : ∃ s',s.next hil _ rfl = s':=⟨_,rfl⟩;have f1 : s'.M = s.M.set s.i (QU S now draw (L.getD s.i default)):=by rw [<- es'];rfl
 have f4 : s'.i = s.i + 1:=by rw [<- es'];rfl
 clear es';obtain ⟨i,M,hn,hi0,h1,h2⟩:=s;dsimp only at hi hil hX f1 f4;subst hi;have hiM : 5 < M.length:=by omega
 have e0:=h2 5 (Nat.le_refl _);rw [<- e0] at hX f1;have hk:=hX.n;have hmn:=hX.mn;unfold SCr;dsimp only;clear h1 h2 e0;repeat' (first | (apply And.intro<;>intro hc<;>(first | exact Bool.noConfusion hc | (exfalso;first | exact absurd rfl hc | omega) | (simp only [zl] at hc<;>first | exact absurd rfl hc | (exfalso;first | exact absurd rfl hc | omega) | skip) | skip)) | (refine And.intro zj ?_) | (apply And.intro) | (intro s hs;skip) | (refine Exists.intro _ (And.intro ⟨rfl,rfl,rfl⟩ ?_)))
 conv=>whnf
 obtain ⟨W,eW⟩ : ∃ W,ZK (M.getD 5 default).id S ⟨0,0,0⟩ = W:=⟨_,rfl⟩;refine zU (zV qk) (λs : {p : Nat × Smy × Bool // p.1 <= S.length /\ ZK (M.getD 5 default).id (S.drop p.1) p.2.1 = W /\ (p.2.2 = false -> p.2.1 = ⟨0,0,0⟩)}=>(⟨[(0,zL (ZT ZB L)),(1,zL (.int .i64 now)),(2,zL (Qy zu S)),(3,zL (.int .u32 draw)),(13,zL (.os 1 0 M.length)),(74,zL (.int .i64 (L.length : Int))),(75,zL (.int .i64 ((5 : Nat) : Int))),(14,zL (.int .i64 ((5 : Nat) : Int))),(15,zL (.ptr 10 0 0 false)),(16,zL (.bool s.1.2.2)),(78,zL (Qy zu S)),(79,zL (.int .i64 (S.length : Int))),(80,zL (.int .i64 (s.1.1 : Int)))],[(1,some (qp 2 M.length M)),(2,some (zS (M.getD 0 default).held)),(3,some (zS (M.getD 1 default).held)),(4,some (zS (M.getD 2 default).held)),(5,some (zS (M.getD 3 default).held)),(6,some (zS (M.getD 4 default).held)),(7,some (zS (M.getD 5 default).held)),(8,some (zS (M.getD 6 default).held)),(9,some (zS (M.getD 7 default).held)),(10,some ⟨60,1,3,true,λ_=>zu.cell s.1.2.1⟩)],11⟩ : Hd)) (λs=>S.length - s.1.1) (λ_=>rfl) ?_ ⟨(0,⟨0,0,0⟩,false),Nat.zero_le _,eW,λ_=>rfl⟩ [(10,some 13)] ⟨rfl,⟨zD (zJ (zI L)),zB rfl,zM (zO zu S),zB rfl,zD (zH rfl rfl),zB rfl,zB rfl,zB rfl,zF rfl,zG rfl,zM (zO zu S),zB rfl,zB rfl,trivial⟩,⟨⟨rfl,zQ (by omega) (qJ rfl rfl rfl rfl rfl rfl rfl rfl)⟩,⟨rfl,zA⟩,⟨rfl,zA⟩,⟨rfl,zA⟩,⟨rfl,zA⟩,⟨rfl,zA⟩,⟨rfl,zA⟩,⟨rfl,zA⟩,⟨rfl,zA⟩,⟨rfl,zE (Zr ⟨zC rfl,zC rfl,zC rfl⟩)⟩,trivial⟩⟩;rintro ⟨⟨p,a,kn⟩,hp,hW,hkw⟩;dsimp only at hp hW hkw ⊢;unfold Qy;by_cases hpl : p < S.length
 . have w4 : IntKind.i64.wrap ((p : Int) + 1) = ((p + 1 : Nat) : Int):=(IntWalk.i64_in _ (by omega)).trans (by omega);have hst : ZK (M.getD 5 default).id (S.drop (p + 1)) (if (S.getD p default).id = (M.getD 5 default).id then S.getD p default else a) = W:=by rw [<- hW,qL hpl];rfl
   have n1 : (S.getD p default).id = (M.getD 5 default).id -> ZK (M.getD 5 default).id (S.drop (p + 1)) (S.getD p default) = W:=λh=>by rw [if_pos h] at hst;exact hst
   have n2 : ¬ (S.getD p default).id = (M.getD 5 default).id -> ZK (M.getD 5 default).id (S.drop (p + 1)) a = W:=λh=>by rw [if_neg h] at hst;exact hst
   clear hst;repeat' (first | (simp only [w4]) | (apply And.intro<;>intro hc<;>(first | exact Bool.noConfusion hc | (exfalso;first | exact absurd rfl hc | omega) | (simp only [zl] at hc<;>first | exact absurd rfl hc | (exfalso;first | exact absurd rfl hc | omega) | skip) | skip)) | (refine And.intro zj ?_) | (apply And.intro) | (intro s hs;skip) | (refine Exists.intro _ (And.intro ⟨rfl,rfl,rfl⟩ ?_)))
   . conv=>whnf
     exact ⟨⟨(p + 1,_,true),hpl,n1 hc,λh=>by cases h⟩,[],by dsimp only;omega,rfl,⟨zD (zJ (zI L)),zB rfl,zM (zO zu S),zB rfl,zD (zH rfl rfl),zB rfl,zB rfl,zB rfl,zF rfl,zG rfl,zM (zO zu S),zB rfl,zB w4,trivial⟩,⟨⟨rfl,zQ (by omega) (qJ rfl rfl rfl rfl rfl rfl rfl rfl)⟩,⟨rfl,zA⟩,⟨rfl,zA⟩,⟨rfl,zA⟩,⟨rfl,zA⟩,⟨rfl,zA⟩,⟨rfl,zA⟩,⟨rfl,zA⟩,⟨rfl,zA⟩,⟨rfl,zE (Zr ⟨zC rfl,zC rfl,zC rfl⟩)⟩,trivial⟩⟩
   . conv=>whnf
     exact ⟨⟨(p + 1,a,kn),hpl,n2 hc,hkw⟩,[],by dsimp only;omega,rfl,⟨zD (zJ (zI L)),zB rfl,zM (zO zu S),zB rfl,zD (zH rfl rfl),zB rfl,zB rfl,zB rfl,zF rfl,zG rfl,zM (zO zu S),zB rfl,zB w4,trivial⟩,⟨⟨rfl,zQ (by omega) (qJ rfl rfl rfl rfl rfl rfl rfl rfl)⟩,⟨rfl,zA⟩,⟨rfl,zA⟩,⟨rfl,zA⟩,⟨rfl,zA⟩,⟨rfl,zA⟩,⟨rfl,zA⟩,⟨rfl,zA⟩,⟨rfl,zA⟩,⟨rfl,zE λj hj=>(Elem.flat _ _ _).le⟩,trivial⟩⟩
 . obtain rfl : a = W:=by
    rw [List.drop_of_length_le (by omega)] at hW;exact hW
   clear hW;have hWm : 0 <= a.mn /\ a.mn <= 1073741824:=by rw [<- eW];exact Qi (λx hx=>(hSm x hx).2) ⟨Int.le_refl _,by decide⟩
   repeat' (first | (apply And.intro<;>intro hc<;>(first | exact Bool.noConfusion hc | (exfalso;first | exact absurd rfl hc | omega) | (simp only [zl] at hc<;>first | exact absurd rfl hc | (exfalso;first | exact absurd rfl hc | omega) | skip) | skip)) | (refine And.intro zj ?_) | (apply And.intro) | (intro s hs;skip) | (refine Exists.intro _ (And.intro ⟨rfl,rfl,rfl⟩ ?_)))
   conv=>whnf
   refine zU (zV qk) (λs : MapI (zAC a now draw) (M.getD 5 default).held=>(⟨[(0,zL (ZT ZB L)),(1,zL (.int .i64 now)),(2,zL (Qy zu S)),(3,zL (.int .u32 draw)),(13,zL (.os 1 0 M.length)),(74,zL (.int .i64 (L.length : Int))),(75,zL (.int .i64 ((5 : Nat) : Int))),(14,zL (.int .i64 ((5 : Nat) : Int))),(15,zL (.ptr 10 0 0 false)),(16,zL (.bool kn)),(99,zL (.int .i64 ((M.getD 5 default).held.length : Int))),(100,zL (.int .i64 (s.i : Int)))],[(1,some (qp 2 M.length M)),(2,some (zS (M.getD 0 default).held)),(3,some (zS (M.getD 1 default).held)),(4,some (zS (M.getD 2 default).held)),(5,some (zS (M.getD 3 default).held)),(6,some (zS (M.getD 4 default).held)),(7,some (zS s.M)),(8,some (zS (M.getD 6 default).held)),(9,some (zS (M.getD 7 default).held)),(10,some ⟨60,1,3,true,λ_=>zu.cell a⟩)],11⟩ : Hd)) (λs=>(M.getD 5 default).held.length - s.i) (λ_=>rfl) ?_ (MapI.start _ _) [] ⟨rfl,⟨zD (zJ (zI L)),zB rfl,zM (zO zu S),zB rfl,zD (zH rfl rfl),zB rfl,zB rfl,zB rfl,zF rfl,zG rfl,zB rfl,zB rfl,trivial⟩,⟨⟨rfl,zQ (by omega) (qJ rfl rfl rfl rfl rfl rfl rfl rfl)⟩,⟨rfl,zA⟩,⟨rfl,zA⟩,⟨rfl,zA⟩,⟨rfl,zA⟩,⟨rfl,zA⟩,⟨rfl,zA⟩,⟨rfl,zA⟩,⟨rfl,zA⟩,⟨rfl,zE λj hj=>(Elem.flat _ _ _).le⟩,trivial⟩⟩;intro s0;by_cases hkn : s0.i < (M.getD 5 default).held.length
   . have w4 : IntKind.i64.wrap ((s0.i : Int) + 1) = ((s0.i + 1 : Nat) : Int):=(IntWalk.i64_in _ (by omega)).trans (by omega);have z0 : 0 + (s0.i : Int).toNat = s0.i:=Nat.zero_add s0.i;have eh:=s0.h2 s0.i (Nat.le_refl _);have hl:=s0.n;have bk : Nat.beq s0.i s0.i = true:=Nat.beq_refl _;have hx:=QQ hX (zw hkn);have hx1:=(QI hX.h _ (zw hkn)).1;rw [<- eh] at hx hx1;have hxb:=hx.b;obtain ⟨B,eB2⟩ : ∃ B,YC a (s0.M.getD s0.i default).num = B:=⟨_,rfl⟩;obtain ⟨T,eT⟩ : ∃ T,Zq (s0.M.getD s0.i default).tm now draw = T:=⟨_,rfl⟩;repeat' (first | (simp only [z0,w4,bk,Bool.cond_true]) | (apply And.intro<;>intro hc<;>(first | exact Bool.noConfusion hc | (exfalso;first | exact absurd rfl hc | omega) | (simp only [zl] at hc<;>first | exact absurd rfl hc | (exfalso;first | exact absurd rfl hc | omega) | skip) | skip)) | (refine And.intro zj ?_) | (apply And.intro) | (intro s hs;(first | (have q : B = s:=eB2.symm.trans hs.symm;clear hs;subst q) | (have q : T = s:=eT.symm.trans hs.symm;clear hs;subst q))) | (refine Exists.intro _ (And.intro ⟨rfl,rfl,rfl⟩ ?_)))
     . exact hc
     . conv=>whnf
       refine ⟨s0.next hkn (s0.M.set s0.i { s0.M.getD s0.i default with tm:=T.1 }) (by rw [<- eh,zAB (hkw ‹_›) (by omega) eT]),[],by dsimp only [MapI.next];omega,rfl,⟨zD (zJ (zI L)),zB rfl,zM (zO zu S),zB rfl,zD (zH rfl rfl),zB rfl,zB rfl,zB rfl,zF rfl,zG rfl,zB rfl,zB w4,trivial⟩,⟨⟨rfl,zQ (by omega) (qJ rfl rfl rfl rfl rfl rfl rfl rfl)⟩,⟨rfl,zA⟩,⟨rfl,zA⟩,⟨rfl,zA⟩,⟨rfl,zA⟩,⟨rfl,zA⟩,⟨rfl,qI ?_⟩,⟨rfl,zA⟩,⟨rfl,zA⟩,⟨rfl,zE λj hj=>(Elem.flat _ _ _).le⟩,trivial⟩⟩;exact qd (by rw [hl];exact hkn) (qn ⟨zC rfl,(zm.sh _ 1 (by decide)).le,zC rfl,zC rfl,zC rfl,zC rfl,zC rfl,zC rfl,zC rfl,zW rfl,zC rfl⟩)
     . conv=>whnf
       refine ⟨s0.next hkn (s0.M.set s0.i { s0.M.getD s0.i default with tm:=T.1 }) (by rw [<- eh,Qa ‹_› (eB2.trans ‹_›) eT]),[],by dsimp only [MapI.next];omega,rfl,⟨zD (zJ (zI L)),zB rfl,zM (zO zu S),zB rfl,zD (zH rfl rfl),zB rfl,zB rfl,zB rfl,zF rfl,zG rfl,zB rfl,zB w4,trivial⟩,⟨⟨rfl,zQ (by omega) (qJ rfl rfl rfl rfl rfl rfl rfl rfl)⟩,⟨rfl,zA⟩,⟨rfl,zA⟩,⟨rfl,zA⟩,⟨rfl,zA⟩,⟨rfl,zA⟩,⟨rfl,qI ?_⟩,⟨rfl,zA⟩,⟨rfl,zA⟩,⟨rfl,zE λj hj=>(Elem.flat _ _ _).le⟩,trivial⟩⟩;exact qd (by rw [hl];exact hkn) (qn ⟨zC rfl,(zm.sh _ 1 (by decide)).le,zC rfl,zC rfl,zC rfl,zC rfl,zC rfl,zC rfl,zC rfl,zW rfl,zC rfl⟩)
     . conv=>whnf
       exact ⟨s0.next hkn s0.M (by rw [<- eh,Qm (eB2.trans ‹_›)];exact ZH (by rw [hl];exact hkn)),[],by dsimp only [MapI.next];omega,rfl,⟨zD (zJ (zI L)),zB rfl,zM (zO zu S),zB rfl,zD (zH rfl rfl),zB rfl,zB rfl,zB rfl,zF rfl,zG rfl,zB rfl,zB w4,trivial⟩,⟨⟨rfl,zQ (by omega) (qJ rfl rfl rfl rfl rfl rfl rfl rfl)⟩,⟨rfl,zA⟩,⟨rfl,zA⟩,⟨rfl,zA⟩,⟨rfl,zA⟩,⟨rfl,zA⟩,⟨rfl,zA⟩,⟨rfl,zA⟩,⟨rfl,zA⟩,⟨rfl,zE λj hj=>(Elem.flat _ _ _).le⟩,trivial⟩⟩
     . conv=>whnf
       exact ⟨s0.next hkn s0.M (by rw [<- eh,Ql ‹_›];exact ZH (by rw [hl];exact hkn)),[],by dsimp only [MapI.next];omega,rfl,⟨zD (zJ (zI L)),zB rfl,zM (zO zu S),zB rfl,zD (zH rfl rfl),zB rfl,zB rfl,zB rfl,zF rfl,zG rfl,zB rfl,zB w4,trivial⟩,⟨⟨rfl,zQ (by omega) (qJ rfl rfl rfl rfl rfl rfl rfl rfl)⟩,⟨rfl,zA⟩,⟨rfl,zA⟩,⟨rfl,zA⟩,⟨rfl,zA⟩,⟨rfl,zA⟩,⟨rfl,zA⟩,⟨rfl,zA⟩,⟨rfl,zA⟩,⟨rfl,zE λj hj=>(Elem.flat _ _ _).le⟩,trivial⟩⟩
   . have l1:=s0.last hkn;have hkk:=s0.hi;have hl:=s0.n;have w6 : IntKind.i64.wrap ((5 : Int) + 1) = ((5 + 1 : Nat) : Int):=rfl;repeat' (first | (apply And.intro<;>intro hc<;>(first | exact Bool.noConfusion hc | (exfalso;first | exact absurd rfl hc | omega) | (simp only [zl] at hc<;>first | exact absurd rfl hc | (exfalso;first | exact absurd rfl hc | omega) | skip) | skip)) | (refine And.intro zj ?_) | (apply And.intro) | (intro s hs;skip) | (refine Exists.intro _ (And.intro ⟨rfl,rfl,rfl⟩ ?_)))
     conv=>whnf
     refine ⟨s',[],by show L.length - s'.i < _;rw [f4];omega,rfl,⟨zD (zJ (zI L)),zB rfl,zM (zO zu S),zB rfl,zD (zH rfl (by rw [f1,List.length_set])),zB rfl,zB (by rw [f4];rfl),trivial⟩,⟨⟨rfl,⟨rfl,by show _ = s'.M.length;rw [f1,List.length_set];rfl,rfl,rfl,λp hp j hj=>?_⟩⟩,⟨rfl,zR (by rw [f1];exact congrArg Sed.held (zg (by decide)).symm)⟩,⟨rfl,zR (by rw [f1];exact congrArg Sed.held (zg (by decide)).symm)⟩,⟨rfl,zR (by rw [f1];exact congrArg Sed.held (zg (by decide)).symm)⟩,⟨rfl,zR (by rw [f1];exact congrArg Sed.held (zg (by decide)).symm)⟩,⟨rfl,zR (by rw [f1];exact congrArg Sed.held (zg (by decide)).symm)⟩,⟨rfl,zR (by rw [f1,Qw hiM];exact l1.trans (by rw [<- eW];rfl))⟩,⟨rfl,zR (by rw [f1];exact congrArg Sed.held (zg (by decide)).symm)⟩,⟨rfl,zR (by rw [f1];exact congrArg Sed.held (zg (by decide)).symm)⟩,trivial⟩⟩;have hp : p < M.length:=hp;have hj : j < 3:=hj;show Zu _ (Zg 2 M p j) (Zg 2 s'.M p j);rw [f1];rcases (show p = 0 \/ p = 1 \/ p = 2 \/ p = 3 \/ p = 4 \/ p = 5 \/ p = 6 \/ p = 7 by omega) with rfl | rfl | rfl | rfl | rfl | rfl | rfl | rfl;all_goals first
      | exact qF hj (by decide) rfl rfl
      | skip
     refine qG hiM ?_;rcases j with _ | _ | _ | j
     . exact zC rfl
     . exact zC rfl
     . exact zH rfl (by show _ = (List.map _ _).length;rw [List.length_map])
     . omega
theorem rcp_6 (L : List Sed) (S : List Smy) (now draw : Int) (hv : ZA L = true) (hS : ZR S = true) (hd : ZS draw) (ht : 0 <= now /\ now <= 1099511627776) (s : MapI (QU S now draw) L) (hi : s.i = 6) (hil : s.i < L.length) (K : Kt) :
 qR T (qH LRq) 1 Try.f49.ntmps 0 (Qg (Zc 5 (Try.f49.body.getD Code.ret))) (SCr L S now draw s).fr (SCr L S now draw s).H (SCr L S now draw s).nx (Yt (λfr H _=>zA8 (SCr L S now draw) (λs=>L.length - s.i) 0 (L.length - s.i) fr H) K):=by
 have h8:=Zv hv;obtain ⟨hS8,hSm⟩:=vys hS;have hX : SdOk (L.getD s.i default):=(qq hv _ (zw hil)).2;obtain ⟨s',es'⟩ : ∃ s',s.next hil _ rfl = s':=⟨_,rfl⟩;have f1 : s'.M = s.M.set s.i (QU S now draw (L.getD s.i default)):=by rw [<- es'];rfl
 have f4 : s'.i = s.i + 1:=by rw [<- es'];rfl
 clear es';obtain ⟨i,M,hn,hi0,h1,h2⟩:=s;dsimp only at hi hil hX f1 f4;subst hi;have hiM : 6 < M.length:=by omega
 have e0:=h2 6 (Nat.le_refl _);rw [<- e0] at hX f1;have hk:=hX.n;have hmn:=hX.mn;unfold SCr;dsimp only;clear h1 h2 e0;repeat' (first | (apply And.intro<;>intro hc<;>(first | exact Bool.noConfusion hc | (exfalso;first | exact absurd rfl hc | omega) | (simp only [zl] at hc<;>first | exact absurd rfl hc | (exfalso;first | exact absurd rfl hc | omega) | skip) | skip)) | (refine And.intro zj ?_) | (apply And.intro) | (intro s hs;skip) | (refine Exists.intro _ (And.intro ⟨rfl,rfl,rfl⟩ ?_)))
 conv=>whnf
 obtain ⟨W,eW⟩ : ∃ W,ZK (M.getD 6 default).id S ⟨0,0,0⟩ = W:=⟨_,rfl⟩;refine zU (zV qk) (λs : {p : Nat × Smy × Bool // p.1 <= S.length /\ ZK (M.getD 6 default).id (S.drop p.1) p.2.1 = W /\ (p.2.2 = false -> p.2.1 = ⟨0,0,0⟩)}=>(⟨[(0,zL (ZT ZB L)),(1,zL (.int .i64 now)),(2,zL (Qy zu S)),(3,zL (.int .u32 draw)),(13,zL (.os 1 0 M.length)),(74,zL (.int .i64 (L.length : Int))),(75,zL (.int .i64 ((6 : Nat) : Int))),(14,zL (.int .i64 ((6 : Nat) : Int))),(15,zL (.ptr 10 0 0 false)),(16,zL (.bool s.1.2.2)),(78,zL (Qy zu S)),(79,zL (.int .i64 (S.length : Int))),(80,zL (.int .i64 (s.1.1 : Int)))],[(1,some (qp 2 M.length M)),(2,some (zS (M.getD 0 default).held)),(3,some (zS (M.getD 1 default).held)),(4,some (zS (M.getD 2 default).held)),(5,some (zS (M.getD 3 default).held)),(6,some (zS (M.getD 4 default).held)),(7,some (zS (M.getD 5 default).held)),(8,some (zS (M.getD 6 default).held)),(9,some (zS (M.getD 7 default).held)),(10,some ⟨60,1,3,true,λ_=>zu.cell s.1.2.1⟩)],11⟩ : Hd)) (λs=>S.length - s.1.1) (λ_=>rfl) ?_ ⟨(0,⟨0,0,0⟩,false),Nat.zero_le _,eW,λ_=>rfl⟩ [(10,some 13)] ⟨rfl,⟨zD (zJ (zI L)),zB rfl,zM (zO zu S),zB rfl,zD (zH rfl rfl),zB rfl,zB rfl,zB rfl,zF rfl,zG rfl,zM (zO zu S),zB rfl,zB rfl,trivial⟩,⟨⟨rfl,zQ (by omega) (qJ rfl rfl rfl rfl rfl rfl rfl rfl)⟩,⟨rfl,zA⟩,⟨rfl,zA⟩,⟨rfl,zA⟩,⟨rfl,zA⟩,⟨rfl,zA⟩,⟨rfl,zA⟩,⟨rfl,zA⟩,⟨rfl,zA⟩,⟨rfl,zE (Zr ⟨zC rfl,zC rfl,zC rfl⟩)⟩,trivial⟩⟩;rintro ⟨⟨p,a,kn⟩,hp,hW,hkw⟩;dsimp only at hp hW hkw ⊢;unfold Qy;by_cases hpl : p < S.length
 . have w4 : IntKind.i64.wrap ((p : Int) + 1) = ((p + 1 : Nat) : Int):=(IntWalk.i64_in _ (by omega)).trans (by omega);have hst : ZK (M.getD 6 default).id (S.drop (p + 1)) (if (S.getD p default).id = (M.getD 6 default).id then S.getD p default else a) = W:=by rw [<- hW,qL hpl];rfl
   have n1 : (S.getD p default).id = (M.getD 6 default).id -> ZK (M.getD 6 default).id (S.drop (p + 1)) (S.getD p default) = W:=λh=>by rw [if_pos h] at hst;exact hst
   have n2 : ¬ (S.getD p default).id = (M.getD 6 default).id -> ZK (M.getD 6 default).id (S.drop (p + 1)) a = W:=λh=>by rw [if_neg h] at hst;exact hst
   clear hst;repeat' (first | (simp only [w4]) | (apply And.intro<;>intro hc<;>(first | exact Bool.noConfusion hc | (exfalso;first | exact absurd rfl hc | omega) | (simp only [zl] at hc<;>first | exact absurd rfl hc | (exfalso;first | exact absurd rfl hc | omega) | skip) | skip)) | (refine And.intro zj ?_) | (apply And.intro) | (intro s hs;skip) | (refine Exists.intro _ (And.intro ⟨rfl,rfl,rfl⟩ ?_)))
   . conv=>whnf
     exact ⟨⟨(p + 1,_,true),hpl,n1 hc,λh=>by cases h⟩,[],by dsimp only;omega,rfl,⟨zD (zJ (zI L)),zB rfl,zM (zO zu S),zB rfl,zD (zH rfl rfl),zB rfl,zB rfl,zB rfl,zF rfl,zG rfl,zM (zO zu S),zB rfl,zB w4,trivial⟩,⟨⟨rfl,zQ (by omega) (qJ rfl rfl rfl rfl rfl rfl rfl rfl)⟩,⟨rfl,zA⟩,⟨rfl,zA⟩,⟨rfl,zA⟩,⟨rfl,zA⟩,⟨rfl,zA⟩,⟨rfl,zA⟩,⟨rfl,zA⟩,⟨rfl,zA⟩,⟨rfl,zE (Zr ⟨zC rfl,zC rfl,zC rfl⟩)⟩,trivial⟩⟩
   . conv=>whnf
     exact ⟨⟨(p + 1,a,kn),hpl,n2 hc,hkw⟩,[],by dsimp only;omega,rfl,⟨zD (zJ (zI L)),zB rfl,zM (zO zu S),zB rfl,zD (zH rfl rfl),zB rfl,zB rfl,zB rfl,zF rfl,zG rfl,zM (zO zu S),zB rfl,zB w4,trivial⟩,⟨⟨rfl,zQ (by omega) (qJ rfl rfl rfl rfl rfl rfl rfl rfl)⟩,⟨rfl,zA⟩,⟨rfl,zA⟩,⟨rfl,zA⟩,⟨rfl,zA⟩,⟨rfl,zA⟩,⟨rfl,zA⟩,⟨rfl,zA⟩,⟨rfl,zA⟩,⟨rfl,zE λj hj=>(Elem.flat _ _ _).le⟩,trivial⟩⟩
 . obtain rfl : a = W:=by
    rw [List.drop_of_length_le (by omega)] at hW;exact hW
   clear hW;have hWm : 0 <= a.mn /\ a.mn <= 1073741824:=by rw [<- eW];exact Qi (λx hx=>(hSm x hx).2) ⟨Int.le_refl _,by decide⟩
   repeat' (first | (apply And.intro<;>intro hc<;>(first | exact Bool.noConfusion hc | (exfalso;first | exact absurd rfl hc | omega) | (simp only [zl] at hc<;>first | exact absurd rfl hc | (exfalso;first | exact absurd rfl hc | omega) | skip) | skip)) | (refine And.intro zj ?_) | (apply And.intro) | (intro s hs;skip) | (refine Exists.intro _ (And.intro ⟨rfl,rfl,rfl⟩ ?_)))
   conv=>whnf
   refine zU (zV qk) (λs : MapI (zAC a now draw) (M.getD 6 default).held=>(⟨[(0,zL (ZT ZB L)),(1,zL (.int .i64 now)),(2,zL (Qy zu S)),(3,zL (.int .u32 draw)),(13,zL (.os 1 0 M.length)),(74,zL (.int .i64 (L.length : Int))),(75,zL (.int .i64 ((6 : Nat) : Int))),(14,zL (.int .i64 ((6 : Nat) : Int))),(15,zL (.ptr 10 0 0 false)),(16,zL (.bool kn)),(99,zL (.int .i64 ((M.getD 6 default).held.length : Int))),(100,zL (.int .i64 (s.i : Int)))],[(1,some (qp 2 M.length M)),(2,some (zS (M.getD 0 default).held)),(3,some (zS (M.getD 1 default).held)),(4,some (zS (M.getD 2 default).held)),(5,some (zS (M.getD 3 default).held)),(6,some (zS (M.getD 4 default).held)),(7,some (zS (M.getD 5 default).held)),(8,some (zS s.M)),(9,some (zS (M.getD 7 default).held)),(10,some ⟨60,1,3,true,λ_=>zu.cell a⟩)],11⟩ : Hd)) (λs=>(M.getD 6 default).held.length - s.i) (λ_=>rfl) ?_ (MapI.start _ _) [] ⟨rfl,⟨zD (zJ (zI L)),zB rfl,zM (zO zu S),zB rfl,zD (zH rfl rfl),zB rfl,zB rfl,zB rfl,zF rfl,zG rfl,zB rfl,zB rfl,trivial⟩,⟨⟨rfl,zQ (by omega) (qJ rfl rfl rfl rfl rfl rfl rfl rfl)⟩,⟨rfl,zA⟩,⟨rfl,zA⟩,⟨rfl,zA⟩,⟨rfl,zA⟩,⟨rfl,zA⟩,⟨rfl,zA⟩,⟨rfl,zA⟩,⟨rfl,zA⟩,⟨rfl,zE λj hj=>(Elem.flat _ _ _).le⟩,trivial⟩⟩;intro s0;by_cases hkn : s0.i < (M.getD 6 default).held.length
   . have w4 : IntKind.i64.wrap ((s0.i : Int) + 1) = ((s0.i + 1 : Nat) : Int):=(IntWalk.i64_in _ (by omega)).trans (by omega);have z0 : 0 + (s0.i : Int).toNat = s0.i:=Nat.zero_add s0.i;have eh:=s0.h2 s0.i (Nat.le_refl _);have hl:=s0.n;have bk : Nat.beq s0.i s0.i = true:=Nat.beq_refl _;have hx:=QQ hX (zw hkn);have hx1:=(QI hX.h _ (zw hkn)).1;rw [<- eh] at hx hx1;have hxb:=hx.b;obtain ⟨B,eB2⟩ : ∃ B,YC a (s0.M.getD s0.i default).num = B:=⟨_,rfl⟩;obtain ⟨T,eT⟩ : ∃ T,Zq (s0.M.getD s0.i default).tm now draw = T:=⟨_,rfl⟩;repeat' (first | (simp only [z0,w4,bk,Bool.cond_true]) | (apply And.intro<;>intro hc<;>(first | exact Bool.noConfusion hc | (exfalso;first | exact absurd rfl hc | omega) | (simp only [zl] at hc<;>first | exact absurd rfl hc | (exfalso;first | exact absurd rfl hc | omega) | skip) | skip)) | (refine And.intro zj ?_) | (apply And.intro) | (intro s hs;(first | (have q : B = s:=eB2.symm.trans hs.symm;clear hs;subst q) | (have q : T = s:=eT.symm.trans hs.symm;clear hs;subst q))) | (refine Exists.intro _ (And.intro ⟨rfl,rfl,rfl⟩ ?_)))
     . exact hc
     . conv=>whnf
       refine ⟨s0.next hkn (s0.M.set s0.i { s0.M.getD s0.i default with tm:=T.1 }) (by rw [<- eh,zAB (hkw ‹_›) (by omega) eT]),[],by dsimp only [MapI.next];omega,rfl,⟨zD (zJ (zI L)),zB rfl,zM (zO zu S),zB rfl,zD (zH rfl rfl),zB rfl,zB rfl,zB rfl,zF rfl,zG rfl,zB rfl,zB w4,trivial⟩,⟨⟨rfl,zQ (by omega) (qJ rfl rfl rfl rfl rfl rfl rfl rfl)⟩,⟨rfl,zA⟩,⟨rfl,zA⟩,⟨rfl,zA⟩,⟨rfl,zA⟩,⟨rfl,zA⟩,⟨rfl,zA⟩,⟨rfl,qI ?_⟩,⟨rfl,zA⟩,⟨rfl,zE λj hj=>(Elem.flat _ _ _).le⟩,trivial⟩⟩;exact qd (by rw [hl];exact hkn) (qn ⟨zC rfl,(zm.sh _ 1 (by decide)).le,zC rfl,zC rfl,zC rfl,zC rfl,zC rfl,zC rfl,zC rfl,zW rfl,zC rfl⟩)
     . conv=>whnf
       refine ⟨s0.next hkn (s0.M.set s0.i { s0.M.getD s0.i default with tm:=T.1 }) (by rw [<- eh,Qa ‹_› (eB2.trans ‹_›) eT]),[],by dsimp only [MapI.next];omega,rfl,⟨zD (zJ (zI L)),zB rfl,zM (zO zu S),zB rfl,zD (zH rfl rfl),zB rfl,zB rfl,zB rfl,zF rfl,zG rfl,zB rfl,zB w4,trivial⟩,⟨⟨rfl,zQ (by omega) (qJ rfl rfl rfl rfl rfl rfl rfl rfl)⟩,⟨rfl,zA⟩,⟨rfl,zA⟩,⟨rfl,zA⟩,⟨rfl,zA⟩,⟨rfl,zA⟩,⟨rfl,zA⟩,⟨rfl,qI ?_⟩,⟨rfl,zA⟩,⟨rfl,zE λj hj=>(Elem.flat _ _ _).le⟩,trivial⟩⟩;exact qd (by rw [hl];exact hkn) (qn ⟨zC rfl,(zm.sh _ 1 (by decide)).le,zC rfl,zC rfl,zC rfl,zC rfl,zC rfl,zC rfl,zC rfl,zW rfl,zC rfl⟩)
     . conv=>whnf
       exact ⟨s0.next hkn s0.M (by rw [<- eh,Qm (eB2.trans ‹_›)];exact ZH (by rw [hl];exact hkn)),[],by dsimp only [MapI.next];omega,rfl,⟨zD (zJ (zI L)),zB rfl,zM (zO zu S),zB rfl,zD (zH rfl rfl),zB rfl,zB rfl,zB rfl,zF rfl,zG rfl,zB rfl,zB w4,trivial⟩,⟨⟨rfl,zQ (by omega) (qJ rfl rfl rfl rfl rfl rfl rfl rfl)⟩,⟨rfl,zA⟩,⟨rfl,zA⟩,⟨rfl,zA⟩,⟨rfl,zA⟩,⟨rfl,zA⟩,⟨rfl,zA⟩,⟨rfl,zA⟩,⟨rfl,zA⟩,⟨rfl,zE λj hj=>(Elem.flat _ _ _).le⟩,trivial⟩⟩
     . conv=>whnf
       exact ⟨s0.next hkn s0.M (by rw [<- eh,Ql ‹_›];exact ZH (by rw [hl];exact hkn)),[],by dsimp only [MapI.next];omega,rfl,⟨zD (zJ (zI L)),zB rfl,zM (zO zu S),zB rfl,zD (zH rfl rfl),zB rfl,zB rfl,zB rfl,zF rfl,zG rfl,zB rfl,zB w4,trivial⟩,⟨⟨rfl,zQ (by omega) (qJ rfl rfl rfl rfl rfl rfl rfl rfl)⟩,⟨rfl,zA⟩,⟨rfl,zA⟩,⟨rfl,zA⟩,⟨rfl,zA⟩,⟨rfl,zA⟩,⟨rfl,zA⟩,⟨rfl,zA⟩,⟨rfl,zA⟩,⟨rfl,zE λj hj=>(Elem.flat _ _ _).le⟩,trivial⟩⟩
   . have l1:=s0.last hkn;have hkk:=s0.hi;have hl:=s0.n;have w6 : IntKind.i64.wrap ((6 : Int) + 1) = ((6 + 1 : Nat) : Int):=rfl;repeat' (first | (apply And.intro<;>intro hc<;>(first | exact Bool.noConfusion hc | (exfalso;first | exact absurd rfl hc | omega) | (simp only [zl] at hc<;>first | exact absurd rfl hc | (exfalso;first | exact absurd rfl hc | omega) | skip) | skip)) | (refine And.intro zj ?_) | (apply And.intro) | (intro s hs;skip) | (refine Exists.intro _ (And.intro ⟨rfl,rfl,rfl⟩ ?_)))
     conv=>whnf
     refine ⟨s',[],by show L.length - s'.i < _;rw [f4];omega,rfl,⟨zD (zJ (zI L)),zB rfl,zM (zO zu S),zB rfl,zD (zH rfl (by rw [f1,List.length_set])),zB rfl,zB (by rw [f4];rfl),trivial⟩,⟨⟨rfl,⟨rfl,by show _ = s'.M.length;rw [f1,List.length_set];rfl,rfl,rfl,λp hp j hj=>?_⟩⟩,⟨rfl,zR (by rw [f1];exact congrArg Sed.held (zg (by decide)).symm)⟩,⟨rfl,zR (by rw [f1];exact congrArg Sed.held (zg (by decide)).symm)⟩,⟨rfl,zR (by rw [f1];exact congrArg Sed.held (zg (by decide)).symm)⟩,⟨rfl,zR (by rw [f1];exact congrArg Sed.held (zg (by decide)).symm)⟩,⟨rfl,zR (by rw [f1];exact congrArg Sed.held (zg (by decide)).symm)⟩,⟨rfl,zR (by rw [f1];exact congrArg Sed.held (zg (by decide)).symm)⟩,⟨rfl,zR (by rw [f1,Qw hiM];exact l1.trans (by rw [<- eW];rfl))⟩,⟨rfl,zR (by rw [f1];exact congrArg Sed.held (zg (by decide)).symm)⟩,trivial⟩⟩;have hp : p < M.length:=hp;have hj : j < 3:=hj;show Zu _ (Zg 2 M p j) (Zg 2 s'.M p j);rw [f1];rcases (show p = 0 \/ p = 1 \/ p = 2 \/ p = 3 \/ p = 4 \/ p = 5 \/ p = 6 \/ p = 7 by omega) with rfl | rfl | rfl | rfl | rfl | rfl | rfl | rfl;all_goals first
      | exact qF hj (by decide) rfl rfl
      | skip
     refine qG hiM ?_;rcases j with _ | _ | _ | j
     . exact zC rfl
     . exact zC rfl
     . exact zH rfl (by show _ = (List.map _ _).length;rw [List.length_map])
     . omega
theorem rcp_7 (L : List Sed) (S : List Smy) (now draw : Int) (hv : ZA L = true) (hS : ZR S = true) (hd : ZS draw) (ht : 0 <= now /\ now <= 1099511627776) (s : MapI (QU S now draw) L) (hi : s.i = 7) (hil : s.i < L.length) (K : Kt) :
 qR T (qH LRq) 1 Try.f49.ntmps 0 (Qg (Zc 5 (Try.f49.body.getD Code.ret))) (SCr L S now draw s).fr (SCr L S now draw s).H (SCr L S now draw s).nx (Yt (λfr H _=>zA8 (SCr L S now draw) (λs=>L.length - s.i) 0 (L.length - s.i) fr H) K):=by
 have h8:=Zv hv;obtain ⟨hS8,hSm⟩:=vys hS;have hX : SdOk (L.getD s.i default):=(qq hv _ (zw hil)).2;obtain ⟨s',es'⟩ : ∃ s',s.next hil _ rfl = s':=⟨_,rfl⟩;have f1 : s'.M = s.M.set s.i (QU S now draw (L.getD s.i default)):=by rw [<- es'];rfl
 have f4 : s'.i = s.i + 1:=by rw [<- es'];rfl
 clear es';obtain ⟨i,M,hn,hi0,h1,h2⟩:=s;dsimp only at hi hil hX f1 f4;subst hi;have hiM : 7 < M.length:=by omega
 have e0:=h2 7 (Nat.le_refl _);rw [<- e0] at hX f1;have hk:=hX.n;have hmn:=hX.mn;unfold SCr;dsimp only;clear h1 h2 e0;repeat' (first | (apply And.intro<;>intro hc<;>(first | exact Bool.noConfusion hc | (exfalso;first | exact absurd rfl hc | omega) | (simp only [zl] at hc<;>first | exact absurd rfl hc | (exfalso;first | exact absurd rfl hc | omega) | skip) | skip)) | (refine And.intro zj ?_) | (apply And.intro) | (intro s hs;skip) | (refine Exists.intro _ (And.intro ⟨rfl,rfl,rfl⟩ ?_)))
 conv=>whnf
 obtain ⟨W,eW⟩ : ∃ W,ZK (M.getD 7 default).id S ⟨0,0,0⟩ = W:=⟨_,rfl⟩;refine zU (zV qk) (λs : {p : Nat × Smy × Bool // p.1 <= S.length /\ ZK (M.getD 7 default).id (S.drop p.1) p.2.1 = W /\ (p.2.2 = false -> p.2.1 = ⟨0,0,0⟩)}=>(⟨[(0,zL (ZT ZB L)),(1,zL (.int .i64 now)),(2,zL (Qy zu S)),(3,zL (.int .u32 draw)),(13,zL (.os 1 0 M.length)),(74,zL (.int .i64 (L.length : Int))),(75,zL (.int .i64 ((7 : Nat) : Int))),(14,zL (.int .i64 ((7 : Nat) : Int))),(15,zL (.ptr 10 0 0 false)),(16,zL (.bool s.1.2.2)),(78,zL (Qy zu S)),(79,zL (.int .i64 (S.length : Int))),(80,zL (.int .i64 (s.1.1 : Int)))],[(1,some (qp 2 M.length M)),(2,some (zS (M.getD 0 default).held)),(3,some (zS (M.getD 1 default).held)),(4,some (zS (M.getD 2 default).held)),(5,some (zS (M.getD 3 default).held)),(6,some (zS (M.getD 4 default).held)),(7,some (zS (M.getD 5 default).held)),(8,some (zS (M.getD 6 default).held)),(9,some (zS (M.getD 7 default).held)),(10,some ⟨60,1,3,true,λ_=>zu.cell s.1.2.1⟩)],11⟩ : Hd)) (λs=>S.length - s.1.1) (λ_=>rfl) ?_ ⟨(0,⟨0,0,0⟩,false),Nat.zero_le _,eW,λ_=>rfl⟩ [(10,some 13)] ⟨rfl,⟨zD (zJ (zI L)),zB rfl,zM (zO zu S),zB rfl,zD (zH rfl rfl),zB rfl,zB rfl,zB rfl,zF rfl,zG rfl,zM (zO zu S),zB rfl,zB rfl,trivial⟩,⟨⟨rfl,zQ (by omega) (qJ rfl rfl rfl rfl rfl rfl rfl rfl)⟩,⟨rfl,zA⟩,⟨rfl,zA⟩,⟨rfl,zA⟩,⟨rfl,zA⟩,⟨rfl,zA⟩,⟨rfl,zA⟩,⟨rfl,zA⟩,⟨rfl,zA⟩,⟨rfl,zE (Zr ⟨zC rfl,zC rfl,zC rfl⟩)⟩,trivial⟩⟩;rintro ⟨⟨p,a,kn⟩,hp,hW,hkw⟩;dsimp only at hp hW hkw ⊢;unfold Qy;by_cases hpl : p < S.length
 . have w4 : IntKind.i64.wrap ((p : Int) + 1) = ((p + 1 : Nat) : Int):=(IntWalk.i64_in _ (by omega)).trans (by omega);have hst : ZK (M.getD 7 default).id (S.drop (p + 1)) (if (S.getD p default).id = (M.getD 7 default).id then S.getD p default else a) = W:=by rw [<- hW,qL hpl];rfl
   have n1 : (S.getD p default).id = (M.getD 7 default).id -> ZK (M.getD 7 default).id (S.drop (p + 1)) (S.getD p default) = W:=λh=>by rw [if_pos h] at hst;exact hst
   have n2 : ¬ (S.getD p default).id = (M.getD 7 default).id -> ZK (M.getD 7 default).id (S.drop (p + 1)) a = W:=λh=>by rw [if_neg h] at hst;exact hst
   clear hst;repeat' (first | (simp only [w4]) | (apply And.intro<;>intro hc<;>(first | exact Bool.noConfusion hc | (exfalso;first | exact absurd rfl hc | omega) | (simp only [zl] at hc<;>first | exact absurd rfl hc | (exfalso;first | exact absurd rfl hc | omega) | skip) | skip)) | (refine And.intro zj ?_) | (apply And.intro) | (intro s hs;skip) | (refine Exists.intro _ (And.intro ⟨rfl,rfl,rfl⟩ ?_)))
   . conv=>whnf
     exact ⟨⟨(p + 1,_,true),hpl,n1 hc,λh=>by cases h⟩,[],by dsimp only;omega,rfl,⟨zD (zJ (zI L)),zB rfl,zM (zO zu S),zB rfl,zD (zH rfl rfl),zB rfl,zB rfl,zB rfl,zF rfl,zG rfl,zM (zO zu S),zB rfl,zB w4,trivial⟩,⟨⟨rfl,zQ (by omega) (qJ rfl rfl rfl rfl rfl rfl rfl rfl)⟩,⟨rfl,zA⟩,⟨rfl,zA⟩,⟨rfl,zA⟩,⟨rfl,zA⟩,⟨rfl,zA⟩,⟨rfl,zA⟩,⟨rfl,zA⟩,⟨rfl,zA⟩,⟨rfl,zE (Zr ⟨zC rfl,zC rfl,zC rfl⟩)⟩,trivial⟩⟩
   . conv=>whnf
     exact ⟨⟨(p + 1,a,kn),hpl,n2 hc,hkw⟩,[],by dsimp only;omega,rfl,⟨zD (zJ (zI L)),zB rfl,zM (zO zu S),zB rfl,zD (zH rfl rfl),zB rfl,zB rfl,zB rfl,zF rfl,zG rfl,zM (zO zu S),zB rfl,zB w4,trivial⟩,⟨⟨rfl,zQ (by omega) (qJ rfl rfl rfl rfl rfl rfl rfl rfl)⟩,⟨rfl,zA⟩,⟨rfl,zA⟩,⟨rfl,zA⟩,⟨rfl,zA⟩,⟨rfl,zA⟩,⟨rfl,zA⟩,⟨rfl,zA⟩,⟨rfl,zA⟩,⟨rfl,zE λj hj=>(Elem.flat _ _ _).le⟩,trivial⟩⟩
 . obtain rfl : a = W:=by
    rw [List.drop_of_length_le (by omega)] at hW;exact hW
   clear hW;have hWm : 0 <= a.mn /\ a.mn <= 1073741824:=by rw [<- eW];exact Qi (λx hx=>(hSm x hx).2) ⟨Int.le_refl _,by decide⟩
   repeat' (first | (apply And.intro<;>intro hc<;>(first | exact Bool.noConfusion hc | (exfalso;first | exact absurd rfl hc | omega) | (simp only [zl] at hc<;>first | exact absurd rfl hc | (exfalso;first | exact absurd rfl hc | omega) | skip) | skip)) | (refine And.intro zj ?_) | (apply And.intro) | (intro s hs;skip) | (refine Exists.intro _ (And.intro ⟨rfl,rfl,rfl⟩ ?_)))
   conv=>whnf
   refine zU (zV qk) (λs : MapI (zAC a now draw) (M.getD 7 default).held=>(⟨[(0,zL (ZT ZB L)),(1,zL (.int .i64 now)),(2,zL (Qy zu S)),(3,zL (.int .u32 draw)),(13,zL (.os 1 0 M.length)),(74,zL (.int .i64 (L.length : Int))),(75,zL (.int .i64 ((7 : Nat) : Int))),(14,zL (.int .i64 ((7 : Nat) : Int))),(15,zL (.ptr 10 0 0 false)),(16,zL (.bool kn)),(99,zL (.int .i64 ((M.getD 7 default).held.length : Int))),(100,zL (.int .i64 (s.i : Int)))],[(1,some (qp 2 M.length M)),(2,some (zS (M.getD 0 default).held)),(3,some (zS (M.getD 1 default).held)),(4,some (zS (M.getD 2 default).held)),(5,some (zS (M.getD 3 default).held)),(6,some (zS (M.getD 4 default).held)),(7,some (zS (M.getD 5 default).held)),(8,some (zS (M.getD 6 default).held)),(9,some (zS s.M)),(10,some ⟨60,1,3,true,λ_=>zu.cell a⟩)],11⟩ : Hd)) (λs=>(M.getD 7 default).held.length - s.i) (λ_=>rfl) ?_ (MapI.start _ _) [] ⟨rfl,⟨zD (zJ (zI L)),zB rfl,zM (zO zu S),zB rfl,zD (zH rfl rfl),zB rfl,zB rfl,zB rfl,zF rfl,zG rfl,zB rfl,zB rfl,trivial⟩,⟨⟨rfl,zQ (by omega) (qJ rfl rfl rfl rfl rfl rfl rfl rfl)⟩,⟨rfl,zA⟩,⟨rfl,zA⟩,⟨rfl,zA⟩,⟨rfl,zA⟩,⟨rfl,zA⟩,⟨rfl,zA⟩,⟨rfl,zA⟩,⟨rfl,zA⟩,⟨rfl,zE λj hj=>(Elem.flat _ _ _).le⟩,trivial⟩⟩;intro s0;by_cases hkn : s0.i < (M.getD 7 default).held.length
   . have w4 : IntKind.i64.wrap ((s0.i : Int) + 1) = ((s0.i + 1 : Nat) : Int):=(IntWalk.i64_in _ (by omega)).trans (by omega);have z0 : 0 + (s0.i : Int).toNat = s0.i:=Nat.zero_add s0.i;have eh:=s0.h2 s0.i (Nat.le_refl _);have hl:=s0.n;have bk : Nat.beq s0.i s0.i = true:=Nat.beq_refl _;have hx:=QQ hX (zw hkn);have hx1:=(QI hX.h _ (zw hkn)).1;rw [<- eh] at hx hx1;have hxb:=hx.b;obtain ⟨B,eB2⟩ : ∃ B,YC a (s0.M.getD s0.i default).num = B:=⟨_,rfl⟩;obtain ⟨T,eT⟩ : ∃ T,Zq (s0.M.getD s0.i default).tm now draw = T:=⟨_,rfl⟩;repeat' (first | (simp only [z0,w4,bk,Bool.cond_true]) | (apply And.intro<;>intro hc<;>(first | exact Bool.noConfusion hc | (exfalso;first | exact absurd rfl hc | omega) | (simp only [zl] at hc<;>first | exact absurd rfl hc | (exfalso;first | exact absurd rfl hc | omega) | skip) | skip)) | (refine And.intro zj ?_) | (apply And.intro) | (intro s hs;(first | (have q : B = s:=eB2.symm.trans hs.symm;clear hs;subst q) | (have q : T = s:=eT.symm.trans hs.symm;clear hs;subst q))) | (refine Exists.intro _ (And.intro ⟨rfl,rfl,rfl⟩ ?_)))
     . exact hc
     . conv=>whnf
       refine ⟨s0.next hkn (s0.M.set s0.i { s0.M.getD s0.i default with tm:=T.1 }) (by rw [<- eh,zAB (hkw ‹_›) (by omega) eT]),[],by dsimp only [MapI.next];omega,rfl,⟨zD (zJ (zI L)),zB rfl,zM (zO zu S),zB rfl,zD (zH rfl rfl),zB rfl,zB rfl,zB rfl,zF rfl,zG rfl,zB rfl,zB w4,trivial⟩,⟨⟨rfl,zQ (by omega) (qJ rfl rfl rfl rfl rfl rfl rfl rfl)⟩,⟨rfl,zA⟩,⟨rfl,zA⟩,⟨rfl,zA⟩,⟨rfl,zA⟩,⟨rfl,zA⟩,⟨rfl,zA⟩,⟨rfl,zA⟩,⟨rfl,qI ?_⟩,⟨rfl,zE λj hj=>(Elem.flat _ _ _).le⟩,trivial⟩⟩;exact qd (by rw [hl];exact hkn) (qn ⟨zC rfl,(zm.sh _ 1 (by decide)).le,zC rfl,zC rfl,zC rfl,zC rfl,zC rfl,zC rfl,zC rfl,zW rfl,zC rfl⟩)
     . conv=>whnf
       refine ⟨s0.next hkn (s0.M.set s0.i { s0.M.getD s0.i default with tm:=T.1 }) (by rw [<- eh,Qa ‹_› (eB2.trans ‹_›) eT]),[],by dsimp only [MapI.next];omega,rfl,⟨zD (zJ (zI L)),zB rfl,zM (zO zu S),zB rfl,zD (zH rfl rfl),zB rfl,zB rfl,zB rfl,zF rfl,zG rfl,zB rfl,zB w4,trivial⟩,⟨⟨rfl,zQ (by omega) (qJ rfl rfl rfl rfl rfl rfl rfl rfl)⟩,⟨rfl,zA⟩,⟨rfl,zA⟩,⟨rfl,zA⟩,⟨rfl,zA⟩,⟨rfl,zA⟩,⟨rfl,zA⟩,⟨rfl,zA⟩,⟨rfl,qI ?_⟩,⟨rfl,zE λj hj=>(Elem.flat _ _ _).le⟩,trivial⟩⟩;exact qd (by rw [hl];exact hkn) (qn ⟨zC rfl,(zm.sh _ 1 (by decide)).le,zC rfl,zC rfl,zC rfl,zC rfl,zC rfl,zC rfl,zC rfl,zW rfl,zC rfl⟩)
     . conv=>whnf
       exact ⟨s0.next hkn s0.M (by rw [<- eh,Qm (eB2.trans ‹_›)];exact ZH (by rw [hl];exact hkn)),[],by dsimp only [MapI.next];omega,rfl,⟨zD (zJ (zI L)),zB rfl,zM (zO zu S),zB rfl,zD (zH rfl rfl),zB rfl,zB rfl,zB rfl,zF rfl,zG rfl,zB rfl,zB w4,trivial⟩,⟨⟨rfl,zQ (by omega) (qJ rfl rfl rfl rfl rfl rfl rfl rfl)⟩,⟨rfl,zA⟩,⟨rfl,zA⟩,⟨rfl,zA⟩,⟨rfl,zA⟩,⟨rfl,zA⟩,⟨rfl,zA⟩,⟨rfl,zA⟩,⟨rfl,zA⟩,⟨rfl,zE λj hj=>(Elem.flat _ _ _).le⟩,trivial⟩⟩
     . conv=>whnf
       exact ⟨s0.next hkn s0.M (by rw [<- eh,Ql ‹_›];exact ZH (by rw [hl];exact hkn)),[],by dsimp only [MapI.next];omega,rfl,⟨zD (zJ (zI L)),zB rfl,zM (zO zu S),zB rfl,zD (zH rfl rfl),zB rfl,zB rfl,zB rfl,zF rfl,zG rfl,zB rfl,zB w4,trivial⟩,⟨⟨rfl,zQ (by omega) (qJ rfl rfl rfl rfl rfl rfl rfl rfl)⟩,⟨rfl,zA⟩,⟨rfl,zA⟩,⟨rfl,zA⟩,⟨rfl,zA⟩,⟨rfl,zA⟩,⟨rfl,zA⟩,⟨rfl,zA⟩,⟨rfl,zA⟩,⟨rfl,zE λj hj=>(Elem.flat _ _ _).le⟩,trivial⟩⟩
   . have l1:=s0.last hkn;have hkk:=s0.hi;have hl:=s0.n;have w6 : IntKind.i64.wrap ((7 : Int) + 1) = ((7 + 1 : Nat) : Int):=rfl;repeat' (first | (apply And.intro<;>intro hc<;>(first | exact Bool.noConfusion hc | (exfalso;first | exact absurd rfl hc | omega) | (simp only [zl] at hc<;>first | exact absurd rfl hc | (exfalso;first | exact absurd rfl hc | omega) | skip) | skip)) | (refine And.intro zj ?_) | (apply And.intro) | (intro s hs;skip) | (refine Exists.intro _ (And.intro ⟨rfl,rfl,rfl⟩ ?_)))
     conv=>whnf
     refine ⟨s',[],by show L.length - s'.i < _;rw [f4];omega,rfl,⟨zD (zJ (zI L)),zB rfl,zM (zO zu S),zB rfl,zD (zH rfl (by rw [f1,List.length_set])),zB rfl,zB (by rw [f4];rfl),trivial⟩,⟨⟨rfl,⟨rfl,by show _ = s'.M.length;rw [f1,List.length_set];rfl,rfl,rfl,λp hp j hj=>?_⟩⟩,⟨rfl,zR (by rw [f1];exact congrArg Sed.held (zg (by decide)).symm)⟩,⟨rfl,zR (by rw [f1];exact congrArg Sed.held (zg (by decide)).symm)⟩,⟨rfl,zR (by rw [f1];exact congrArg Sed.held (zg (by decide)).symm)⟩,⟨rfl,zR (by rw [f1];exact congrArg Sed.held (zg (by decide)).symm)⟩,⟨rfl,zR (by rw [f1];exact congrArg Sed.held (zg (by decide)).symm)⟩,⟨rfl,zR (by rw [f1];exact congrArg Sed.held (zg (by decide)).symm)⟩,⟨rfl,zR (by rw [f1];exact congrArg Sed.held (zg (by decide)).symm)⟩,⟨rfl,zR (by rw [f1,Qw hiM];exact l1.trans (by rw [<- eW];rfl))⟩,trivial⟩⟩;have hp : p < M.length:=hp;have hj : j < 3:=hj;show Zu _ (Zg 2 M p j) (Zg 2 s'.M p j);rw [f1];rcases (show p = 0 \/ p = 1 \/ p = 2 \/ p = 3 \/ p = 4 \/ p = 5 \/ p = 6 \/ p = 7 by omega) with rfl | rfl | rfl | rfl | rfl | rfl | rfl | rfl;all_goals first
      | exact qF hj (by decide) rfl rfl
      | skip
     refine qG hiM ?_;rcases j with _ | _ | _ | j
     . exact zC rfl
     . exact zC rfl
     . exact zH rfl (by show _ = (List.map _ _).length;rw [List.length_map])
     . omega
theorem rcp_all (L : List Sed) (S : List Smy) (now draw : Int) (hv : ZA L = true) (hS : ZR S = true) (hd : ZS draw) (ht : 0 <= now /\ now <= 1099511627776) (s : MapI (QU S now draw) L) (hil : s.i < L.length) (K : Kt) :
 qR T (qH LRq) 1 Try.f49.ntmps 0 (Qg (Zc 5 (Try.f49.body.getD Code.ret))) (SCr L S now draw s).fr (SCr L S now draw s).H (SCr L S now draw s).nx (Yt (λfr H _=>zA8 (SCr L S now draw) (λs=>L.length - s.i) 0 (L.length - s.i) fr H) K):=by
 have h8:=Zv hv;rcases (show s.i = 0 \/ s.i = 1 \/ s.i = 2 \/ s.i = 3 \/ s.i = 4 \/ s.i = 5 \/ s.i = 6 \/ s.i = 7 by omega) with h | h | h | h | h | h | h | h
 . exact rcp_0 L S now draw hv hS hd ht s h hil K
 . exact rcp_1 L S now draw hv hS hd ht s h hil K
 . exact rcp_2 L S now draw hv hS hd ht s h hil K
 . exact rcp_3 L S now draw hv hS hd ht s h hil K
 . exact rcp_4 L S now draw hv hS hd ht s h hil K
 . exact rcp_5 L S now draw hv hS hd ht s h hil K
 . exact rcp_6 L S now draw hv hS hd ht s h hil K
 . exact rcp_7 L S now draw hv hS hd ht s h hil K
def SDr (L : List Sed) (S : List Smy) (M : List Sed) (_ : Unit) : Hd:=⟨[(0,zL (ZT ZB L)),(2,zL (Qy zu S)),(13,zL (.os 1 0 M.length))],(1,some (qp 2 M.length M)) :: hepP 2 M,10⟩
theorem rcmp3 (L : List Sed) (S : List Smy) (M : List Sed) (hv : ZA L = true) (hS : ZR S = true) (h8 : M.length <= 8) (R : List Sed × Bool × Int) (hR : R = (M,S.any (qy L),0)) :
 Sem Try.prog Try.f49.ntmps 0 (Zc 6 (Try.f49.body.getD Code.ret)) (SDr L S M ()).fr (SDr L S M ()).H (SDr L S M ()).nx (qQ T Try.f49.results.toList λx H _=>FinN (some R.1.length) (Zz R) (Zj ZB 78 R.1) x H):=by
 obtain ⟨hS8,hSm⟩:=vys hS;refine QB (wd:=1) (by decide) zN (zb qk) zP ?_;unfold SDr;repeat' (first | (apply And.intro<;>intro hc<;>(first | exact Bool.noConfusion hc | (exfalso;first | exact absurd rfl hc | omega) | (simp only [zl] at hc<;>first | exact absurd rfl hc | (exfalso;first | exact absurd rfl hc | omega) | skip) | skip)) | (refine And.intro zj ?_) | (apply And.intro) | (intro s hs;skip) | (refine Exists.intro _ (And.intro ⟨rfl,rfl,rfl⟩ ?_)))
 conv=>whnf
 obtain ⟨W,eW⟩ : ∃ W,S.any (qy L) = W:=⟨_,rfl⟩;rw [eW] at hR;refine zU (zV qk) (λs : {p : Nat × Bool // p.1 <= S.length /\ (p.2 || (S.drop p.1).any (qy L)) = W}=>(⟨[(0,zL (ZT ZB L)),(13,zL (.os 1 0 M.length)),(21,zL (.bool s.1.2)),(145,zL (Qy zu S)),(146,zL (.int .i64 (S.length : Int))),(147,zL (.int .i64 (s.1.1 : Int)))],(1,some (qp 2 M.length M)) :: hepP 2 M,10⟩ : Hd)) (λs=>S.length - s.1.1) (λ_=>rfl) ?_ ⟨(0,false),Nat.zero_le _,eW⟩ [] ⟨rfl,⟨zD (zJ (zI L)),zD (zH rfl rfl),zG rfl,zM (zO zu S),zB rfl,zB rfl,trivial⟩,⟨⟨rfl,zQ (by omega) (qJ rfl rfl rfl rfl rfl rfl rfl rfl)⟩,⟨rfl,zA⟩,⟨rfl,zA⟩,⟨rfl,zA⟩,⟨rfl,zA⟩,⟨rfl,zA⟩,⟨rfl,zA⟩,⟨rfl,zA⟩,⟨rfl,zA⟩,trivial⟩⟩;rintro ⟨⟨p,b⟩,hp,hW⟩;dsimp only at hp hW ⊢;unfold Qy;by_cases hpl : p < S.length
 . have w4 : IntKind.i64.wrap ((p : Int) + 1) = ((p + 1 : Nat) : Int):=(IntWalk.i64_in _ (by omega)).trans (by omega);have hst:=zFy hpl hW;have hm:=(hSm _ (zw hpl)).2;obtain ⟨B,hB⟩ : ∃ B,qy L (S.getD p default) = B:=⟨_,rfl⟩;rw [hB] at hst;cases b with
   | true=>
     repeat' (first | (simp only [w4]) | (apply And.intro<;>intro hc<;>(first | exact Bool.noConfusion hc | (exfalso;first | exact absurd rfl hc | omega) | (simp only [zl] at hc<;>first | exact absurd rfl hc | (exfalso;first | exact absurd rfl hc | omega) | skip) | skip)) | (refine And.intro zj ?_) | (apply And.intro) | (intro s hs;(have q:=rd_lk hs (zr ZL _) rfl hB;clear hs;subst q)) | (refine Exists.intro _ (And.intro ⟨rfl,rfl,rfl⟩ ?_)))
     conv=>whnf
     exact ⟨⟨(p + 1,true),hpl,by rw [Bool.true_or] at hst;exact hst⟩,[],by dsimp only;omega,rfl,⟨zD (zJ (zI L)),zD (zH rfl rfl),zG rfl,zM (zO zu S),zB rfl,zB w4,trivial⟩,⟨⟨rfl,zQ (by omega) (qJ rfl rfl rfl rfl rfl rfl rfl rfl)⟩,⟨rfl,zA⟩,⟨rfl,zA⟩,⟨rfl,zA⟩,⟨rfl,zA⟩,⟨rfl,zA⟩,⟨rfl,zA⟩,⟨rfl,zA⟩,⟨rfl,zA⟩,trivial⟩⟩
   | false=>
     rw [Bool.false_or] at hst;repeat' (first | (simp only [w4]) | (apply And.intro<;>intro hc<;>(first | exact Bool.noConfusion hc | (exfalso;first | exact absurd rfl hc | omega) | (simp only [zl] at hc<;>first | exact absurd rfl hc | (exfalso;first | exact absurd rfl hc | omega) | skip) | skip)) | (refine And.intro zj ?_) | (apply And.intro) | (intro s hs;(have q:=rd_lk hs (zr ZL _) rfl hB;clear hs;subst q)) | (refine Exists.intro _ (And.intro ⟨rfl,rfl,rfl⟩ ?_)))
     . exact λ_ _=>⟨rfl,Zy _⟩
     . rw [zr ZL];exact hv
     . exact hm.1
     . exact hm.2
     conv=>whnf
     exact ⟨⟨(p + 1,B),hpl,hst⟩,[],by dsimp only;omega,rfl,⟨zD (zJ (zI L)),zD (zH rfl rfl),zG rfl,zM (zO zu S),zB rfl,zB w4,trivial⟩,⟨⟨rfl,zQ (by omega) (qJ rfl rfl rfl rfl rfl rfl rfl rfl)⟩,⟨rfl,zA⟩,⟨rfl,zA⟩,⟨rfl,zA⟩,⟨rfl,zA⟩,⟨rfl,zA⟩,⟨rfl,zA⟩,⟨rfl,zA⟩,⟨rfl,zA⟩,trivial⟩⟩
 . have e : b = W:=by rw [<- hW,List.drop_of_length_le (by omega)];simp
   subst e;repeat' (first | (apply And.intro<;>intro hc<;>(first | exact Bool.noConfusion hc | (exfalso;first | exact absurd rfl hc | omega) | (simp only [zl] at hc<;>first | exact absurd rfl hc | (exfalso;first | exact absurd rfl hc | omega) | skip) | skip)) | (refine And.intro zj ?_) | (apply And.intro) | (intro s hs;skip) | (refine Exists.intro _ (And.intro ⟨rfl,rfl,rfl⟩ ?_)))
   conv=>whnf
   subst hR;refine ⟨some 1,ZZ ⟨zH rfl rfl,zW rfl,zC rfl,trivial⟩,⟨rfl,rfl,rfl,rfl,λp hp j hj=>?_⟩⟩;have hp : p < M.length:=hp;have hj : j < 3:=hj;show Zu _ (Zg 2 M p j) (zo ZB M p j);rcases (show p = 0 \/ p = 1 \/ p = 2 \/ p = 3 \/ p = 4 \/ p = 5 \/ p = 6 \/ p = 7 by omega) with rfl | rfl | rfl | rfl | rfl | rfl | rfl | rfl;all_goals exact Qt hj rfl rfl
def zBH (L : List Smy) (i : Nat) : Int:=if i = 0 then 0 else (L.getD (i - 1) default).id
structure CmpR (L : List Sed) (S : List Smy) (d : Int) : Prop where
 h : LHp L
 n : S.length <= 9223372036854775807
 i : ∀ x ∈ S,0 <= x.id
 d : ZS d
def SG (L : List Sed) (S : List Smy) (now draw : Int) (_ : Unit) : Hd:=⟨[(0,zL (ZT ZB L)),(1,zL (.int .i64 now)),(2,zL (Qy zu S)),(3,zL (.int .u32 draw))],[],1⟩
theorem rcmp1 (L : List Sed) (now : Int) (S : List Smy) (draw : Int) (hP : CmpR L S draw) : zBG Try.prog 49 [(cNS ZB qA).enc L,(cI .i64).enc now,(cSl zu zAV).enc S,(cI .u32).enc draw] (some (Zs L now S draw).1.length) (Zz (Zs L now S draw)) (Zj ZB 78 (Zs L now S draw).1):=by
 obtain ⟨hL,hSn,hSi,hdr⟩:=hP;obtain ⟨R,hR⟩ : ∃ R,Zs L now S draw = R:=⟨_,rfl⟩;rw [hR];obtain ⟨V,hV⟩ : ∃ V,ZA L = V:=⟨_,rfl⟩;obtain ⟨U,hU⟩ : ∃ V,QN 0 S = V:=⟨_,rfl⟩;obtain ⟨B,hB⟩ : ∃ B,ZD now = B:=⟨_,rfl⟩;have hUf : false = U -> R = ([],false,1):=λh=>by rw [<- hR];unfold Zs;rw [if_pos (.inr (by unfold ZR;rw [hU,<- h,Bool.and_false]))]
 refine zBC zN Try.func49 rfl _ (by show 4 <= _;decide) (λi _ j hj=>zB4 _ hj) ?_;refine zK (wd:=1) (by decide) zN (zb qk) zP ?_;refine zK (wd:=1) (by decide) zN (zb qk) zP ?_;repeat' (first | (apply And.intro<;>intro hc<;>(first | exact Bool.noConfusion hc | (exfalso;first | exact absurd rfl hc) | (simp only [zl] at hc<;>first | exact absurd rfl hc | (exfalso;first | exact absurd rfl hc) | skip) | skip)) | (refine And.intro zj ?_) | (apply And.intro) | (intro s hs;(have q : V = s:=zAT hs (zr ZL _) hV;clear hs;subst q)) | (refine Exists.intro _ (And.intro ⟨rfl,rfl,rfl⟩ ?_)))
 . exact λ_ _=>⟨rfl,Zy _⟩
 . exact Eq.mpr (congrArg LHp (zr ZL _)) hL
 . exact qc (by rw [<- hR];unfold Zs;rw [if_pos (.inl (hV.trans ‹_›))])
 . exact qc (by rw [<- hR];unfold Zs;rw [if_pos (.inr (by unfold ZR;rw [decide_eq_false (by omega)];rfl))])
 have hVt : ZA L = true:=hV.trans ‹_›;have hS8 : S.length <= 8:=by omega
 change Sem _ _ _ _ _ _ _ _;refine Zb (wd:=1) (by decide) zN (zb qk) (zV qk) zP (λ_ : {u : Unit // U = true}=>SG L S now draw ()) (by intro _;rfl) ?_ ?_
 . repeat' (first | (apply And.intro<;>intro hc<;>(first | exact Bool.noConfusion hc | (exfalso;first | exact absurd rfl hc) | (simp only [zl] at hc<;>first | exact absurd rfl hc | (exfalso;first | exact absurd rfl hc) | skip) | skip)) | (refine And.intro zj ?_) | (apply And.intro) | (intro s hs;skip) | (refine Exists.intro _ (And.intro ⟨rfl,rfl,rfl⟩ ?_)))
   conv=>whnf
   refine zU (zV qk) (λs : {i : Nat // i <= S.length /\ QN (zBH S i) (S.drop i) = U}=>(⟨[(0,zL (ZT ZB L)),(1,zL (.int .i64 now)),(2,zL (Qy zu S)),(3,zL (.int .u32 draw)),(32,zL (Qy zu S)),(33,zL (.int .i64 (S.length : Int))),(34,zL (.int .i64 (s.1 : Int)))],[],1⟩ : Hd)) (λs=>S.length - s.1) (λ_=>rfl) ?_ ⟨0,Nat.zero_le _,hU⟩ [] ⟨rfl,⟨zD (zJ (zI L)),zB rfl,zM (zO zu S),zB rfl,zM (zO zu S),zB rfl,zB rfl,trivial⟩,trivial⟩;rintro ⟨i,hi,hVi⟩;dsimp only at hi hVi ⊢;unfold Qy;by_cases hil : i < S.length
   . have hst:=vy_step hil hVi;have w3 : IntKind.i64.wrap ((i : Int) + 1) = ((i + 1 : Nat) : Int):=(IntWalk.i64_in _ (by omega)).trans (by omega);have w4 : IntKind.i64.wrap ((i : Int) - 1) = (i : Int) - 1:=IntWalk.i64_in _ (by omega);have z0 : (i : Int).toNat = i:=rfl;have zi : ((i : Int) - 1).toNat = i - 1:=by omega
     obtain ⟨x,ex⟩ : ∃ x,S.getD i default = x:=⟨_,rfl⟩;have ec : QG zu S i = zu.cell x:=congrArg zu.cell ex;have hx0 : 0 <= x.id:=by rw [<- ex];exact hSi _ (zw hil)
     have hp0 : 0 <= zBH S i:=by
      unfold zBH;split
      . exact Int.le_refl _
      . exact hSi _ (zw (by omega))
     rw [ex] at hst;repeat' (first | (simp only [z0,ec,w4,zi]) | (apply And.intro<;>intro hc<;>(first | exact Bool.noConfusion hc | (exfalso;first | exact absurd rfl hc | omega) | (simp only [zl] at hc<;>first | exact absurd rfl hc | (exfalso;first | exact absurd rfl hc | omega) | skip) | skip)) | (refine And.intro zj ?_) | (apply And.intro) | (intro s hs;skip) | (refine Exists.intro _ (And.intro ⟨rfl,rfl,rfl⟩ ?_)))
     . exact qc (hUf (by rw [hst,decide_eq_false (p:=zBH S i < x.id) (by omega)];rfl))
     . exact qc (hUf (by rw [hst,decide_eq_false (p:=0 <= x.mn) (by omega)];simp))
     . exact qc (hUf (by rw [hst,decide_eq_false (p:=x.mn <= 1073741824) (by omega)];simp))
     . exact qc (hUf (by rw [hst,decide_eq_false (p:=zBH S i < x.id) (by unfold zBH;rw [if_neg (by omega)];omega)];rfl))
     . have hnx : QN (zBH S (i + 1)) (S.drop (i + 1)) = U:=by
        rw [hst,decide_eq_true (p:=zBH S i < x.id) (by unfold zBH;rw [if_neg (by omega)];omega),decide_eq_true (p:=0 <= x.mn) (by omega),decide_eq_true (p:=x.mn <= 1073741824) (by omega)];show QN (S.getD i default).id _ = _;rw [ex];rfl
       conv=>whnf
       exact ⟨⟨i + 1,hil,hnx⟩,[],by dsimp only;omega,rfl,⟨zD (zJ (zI L)),zB rfl,zM (zO zu S),zB rfl,zM (zO zu S),zB rfl,zB w3,trivial⟩,trivial⟩
     . have hnx : QN (zBH S (i + 1)) (S.drop (i + 1)) = U:=by
        rw [hst,decide_eq_true (p:=zBH S i < x.id) (by unfold zBH;rw [if_pos (by omega)];omega),decide_eq_true (p:=0 <= x.mn) (by omega),decide_eq_true (p:=x.mn <= 1073741824) (by omega)];show QN (S.getD i default).id _ = _;rw [ex];rfl
       conv=>whnf
       exact ⟨⟨i + 1,hil,hnx⟩,[],by dsimp only;omega,rfl,⟨zD (zJ (zI L)),zB rfl,zM (zO zu S),zB rfl,zM (zO zu S),zB rfl,zB w3,trivial⟩,trivial⟩
   . have hUt : U = true:=by rw [<- hVi,List.drop_of_length_le (by omega)];rfl
     repeat' (first | (apply And.intro<;>intro hc<;>(first | exact Bool.noConfusion hc | (exfalso;first | exact absurd rfl hc | omega) | (simp only [zl] at hc<;>first | exact absurd rfl hc | (exfalso;first | exact absurd rfl hc | omega) | skip) | skip)) | (refine And.intro zj ?_) | (apply And.intro) | (intro s hs;skip) | (refine Exists.intro _ (And.intro ⟨rfl,rfl,rfl⟩ ?_)))
     conv=>whnf
     exact ⟨⟨(),hUt⟩,[],rfl,⟨zD (zJ (zI L)),zB rfl,zM (zO zu S),zB rfl,trivial⟩,trivial⟩
 . rintro ⟨_,hUt⟩;have hSt : ZR S = true:=by unfold ZR;rw [hU,hUt,decide_eq_true hS8];rfl
   refine zK (wd:=1) (by decide) zN (zb qk) zP ?_;repeat' (first | (apply And.intro<;>intro hc<;>(first | exact Bool.noConfusion hc | (exfalso;first | exact absurd rfl hc) | (simp only [zl] at hc<;>first | exact absurd rfl hc | (exfalso;first | exact absurd rfl hc) | skip) | skip)) | (refine And.intro zj ?_) | (apply And.intro) | (intro s hs;(have q : B = s:=hB.symm.trans hs.symm;clear hs;subst q)) | (refine Exists.intro _ (And.intro ⟨rfl,rfl,rfl⟩ ?_)))
   . exact qc (by rw [<- hR];unfold Zs;rw [if_neg (by rw [hVt,hSt];simp),if_pos (hB.trans ‹_›)])
   have hBt : ZD now = true:=hB.trans ‹_›;refine zK (wd:=9) (by decide) zN (zb qk) zP ?_;repeat' (first | (apply And.intro<;>intro hc<;>(first | exact Bool.noConfusion hc | (exfalso;first | exact absurd rfl hc) | (simp only [zl] at hc<;>first | exact absurd rfl hc | (exfalso;first | exact absurd rfl hc) | skip) | skip)) | (refine And.intro zj ?_) | (apply And.intro) | (intro s hs;(have q : L = s:=(hs.trans (zr ZL _)).symm;clear hs;subst q)) | (refine Exists.intro _ (And.intro ⟨rfl,rfl,rfl⟩ ?_)))
   . exact λ_ _=>⟨rfl,Zy _⟩
   . exact Eq.mpr (congrArg Cl8 (zr ZL _)) (vl_c8 hVt)
   change Sem _ _ _ _ _ _ _ _;refine Zb (wd:=1) (by decide) zN (zb qk) (zV qk) zP (SDr L S (L.map (QU S now draw))) (by intro _;rfl) ?_ ?_
   . repeat' (first | (apply And.intro<;>intro hc<;>(first | exact Bool.noConfusion hc | (exfalso;first | exact absurd rfl hc) | (simp only [zl] at hc<;>first | exact absurd rfl hc | (exfalso;first | exact absurd rfl hc) | skip) | skip)) | (refine And.intro zj ?_) | (apply And.intro) | (intro s hs;skip) | (refine Exists.intro _ (And.intro ⟨rfl,rfl,rfl⟩ ?_)))
     conv=>whnf
     refine zU (zV qk) (SCr L S now draw) (λs=>L.length - s.i) (λ_=>rfl) ?_ (MapI.start _ _) [(1,some 13),(2,some 14),(3,some 15),(4,some 16),(5,some 17),(6,some 18),(7,some 19),(8,some 20),(9,some 21)] ⟨rfl,⟨zD (zJ (zI L)),zB rfl,zM (zO zu S),zB rfl,zD (zH rfl rfl),zB rfl,zB rfl,trivial⟩,⟨⟨rfl,⟨rfl,rfl,rfl,rfl,λp hp j hj=>qm hj (qJ (P:=λp=>Wc.src _ (2 + p) = some (14 + p)) rfl rfl rfl rfl rfl rfl rfl rfl p (Nat.lt_of_lt_of_le hp (Zv hVt)))⟩⟩,⟨rfl,zA⟩,⟨rfl,zA⟩,⟨rfl,zA⟩,⟨rfl,zA⟩,⟨rfl,zA⟩,⟨rfl,zA⟩,⟨rfl,zA⟩,⟨rfl,zA⟩,trivial⟩⟩;intro s;by_cases hil : s.i < L.length
     . exact rcp_all L S now draw hVt hSt hdr (Zi.1 hBt) s hil _
     . have eM:=s.last hil;have hML : s.M.length = L.length:=s.n;unfold SCr;repeat' (first | (apply And.intro<;>intro hc<;>(first | exact Bool.noConfusion hc | (exfalso;first | exact absurd rfl hc | omega) | (simp only [zl] at hc<;>first | exact absurd rfl hc | (exfalso;first | exact absurd rfl hc | omega) | skip) | skip)) | (refine And.intro zj ?_) | (apply And.intro) | (intro s hs;skip) | (refine Exists.intro _ (And.intro ⟨rfl,rfl,rfl⟩ ?_)))
       conv=>whnf
       rw [<- eM];exact ⟨(),[],rfl,⟨zD (zJ (zI L)),zM (zO zu S),zD (zH rfl rfl),trivial⟩,⟨⟨rfl,zQ (by have:=Zv hVt;omega) (qJ rfl rfl rfl rfl rfl rfl rfl rfl)⟩,⟨rfl,zA⟩,⟨rfl,zA⟩,⟨rfl,zA⟩,⟨rfl,zA⟩,⟨rfl,zA⟩,⟨rfl,zA⟩,⟨rfl,zA⟩,⟨rfl,zA⟩,trivial⟩⟩
   . intro _;exact rcmp3 L S (L.map (QU S now draw)) hVt hSt (by rw [List.length_map];exact Zv hVt) R (by rw [<- hR];exact zDQ hVt hSt hBt)
abbrev zEd : Zk:=newE (AC.cons (cNS ZB qA) (AC.cons (cI .i64) (AC.cons (cSl zu zAV) (AC.cons (cI .u32) AC.nil)))) (λa=>CmpR a.1 a.2.2.1 a.2.2.2.1) (λa=>Zs a.1 a.2.1 a.2.2.1 a.2.2.2.1) (λs=>some s.1.length) Zz (λs=>Zj ZB 78 s.1)
theorem zFF : EntOk Try.prog 49 zEd:=zA2 ⟨_,Try.func49,rfl,by kernel_rfl⟩ (λs l h x hx=>by
 injection h with h;subst h;rcases List.mem_cons.1 hx with rfl | hx
 . exact zCy zB7
 . rcases List.mem_cons.1 hx with rfl | hx
   . exact zCy zA1
   . cases hx) λa h=>rcmp1 a.1 a.2.1 a.2.2.1 a.2.2.2.1 h
theorem cmp_lhn {L : List Sed} {now draw : Int} {S : List Smy} : LHn (Zs L now S draw).1:=by
 by_cases h : (Zs L now S draw).2.2 = 0
 . exact vl_hn (zCv h)
 . unfold Zs at h ⊢;split
   . exact ⟨λx hx=>(List.not_mem_nil hx).elim,Nat.zero_le _⟩
   . split
     . exact ⟨λx hx=>(List.not_mem_nil hx).elim,Nat.zero_le _⟩
     . rename_i h1 h2;rw [if_neg h1,if_neg h2] at h;exact absurd rfl h
theorem rd_cp {s K : List Sed × Bool × Int} {M L : List Sed} {S T : List Smy} {now draw : Int} (hs : s = Zs M now S draw) (h : M = L) (hS : S = T) (hK : Zs L now T draw = K) : K = s:=by rw [hs,h,hS,hK]
theorem rd_sm2 {s K : List Smy} {M L : List Sed} (hs : s = YY M) (h : M = L) (hK : YY L = K) : K = s:=by rw [hs,h,hK]
def LVs : CsL:=(31,some zEh) :: (40,some zDF) :: (41,some samesE) :: []
theorem LVs_ok : qV Try.prog LVs:=⟨zx ⟨_,Try.func31,rfl,by kernel_rfl⟩ λa h=>zCY a.1 h,zx ⟨_,Try.func40,rfl,by kernel_rfl⟩ λa h=>zBf a.1 h,samesE_ok,trivial⟩
def LCq : CsL:=(29,some zFz) :: (49,some zEd) :: LVs
theorem LCq_ok : qV Try.prog LCq:=⟨zF0,zFF,LVs_ok⟩
theorem zFw (L : List Sed) (now : Int) (S : List Smy) (draw : Int) (hP : CmpR L S draw) : Ze Try.prog 25 [(cNS ZB qA).enc L,(cI .i64).enc now,(cSl zu zAV).enc S,(cI .u32).enc draw] (cB.enc true):=by
 obtain ⟨hL,hSn,hSi,hdr⟩:=hP;obtain ⟨A,hA⟩ : ∃ A,Zs L now S draw = A:=⟨_,rfl⟩;have hn : LHn A.1:=by rw [<- hA];exact cmp_lhn
 have hv : A.2.2 = 0 -> ZA A.1 = true:=λh=>by rw [<- hA] at h ⊢;exact zCv h
 refine zt (wd:=1) (by decide) zN (zb LCq_ok) zP Try.func25 rfl _ (by show 4 <= _;decide) _ ?_;repeat' (first | (apply And.intro<;>intro hc<;>(first | exact Bool.noConfusion hc | (exfalso;first | exact absurd rfl hc | exact absurd (beq_self_eq_true _) (by rw [hc];decide)) | (simp only [zl] at hc<;>first | exact absurd rfl hc | (exfalso;first | exact absurd rfl hc | exact absurd (beq_self_eq_true _) (by rw [hc];decide)) | skip) | skip)) | (refine And.intro zj ?_) | (apply And.intro) | (intro s hs;(first | (have q : A = s:=rd_cp hs (zr ZL _) (Ye (E:=zu) (λ_=>rfl) _) hA;clear hs;subst q) | (have q:=zAT hs (zT ZL _) rfl;clear hs;subst q) | subst hs)))
 all_goals try first
  | exact λ_ _=>⟨rfl,Zy _⟩
  | exact λ_=>⟨rfl,Zy _⟩
  | exact λ_ _=>rfl
  | exact λ_=>rfl
  | exact ⟨Eq.mpr (congrArg LHn (zr ZL _)) hL.h,Eq.mpr (congrArg (λz : List Smy=>z.length <= 9223372036854775807) (Ye (E:=zu) (λ_=>rfl) _)) hSn,hdr⟩
  | exact ⟨Eq.mpr (congrArg LHp (zr ZL _)) hL,Eq.mpr (congrArg (λz : List Smy=>z.length <= 9223372036854775807) (Ye (E:=zu) (λ_=>rfl) _)) hSn,Eq.mpr (congrArg (λz : List Smy=>∀ x ∈ z,0 <= x.id) (Ye (E:=zu) (λ_=>rfl) _)) hSi,hdr⟩
  | exact Eq.mpr (congrArg LHn (zT ZL _)) hn
  | exact rfl
 . conv=>whnf
   exact Done.mk (zG rfl)
 . conv=>whnf
   exact Done.mk (zG (hv ‹_›))
abbrev zEb : Zk:=qr (AC.cons (cNS ZB qA) (AC.cons (cI .i64) (AC.cons (cSl zu zAV) (AC.cons (cI .u32) AC.nil)))) (λa=>CmpR a.1 a.2.2.1 a.2.2.2.1) (λ_=>true) cB.enc
theorem zFE : EntOk Try.prog 25 zEb:=zx ⟨_,Try.func25,rfl,by kernel_rfl⟩ λa h=>zFw a.1 a.2.1 a.2.2.1 a.2.2.2.1 h
theorem nff_sms {L : List Smy} : NFF (.e (.c (slR zu L))):=nff_c (zD9 λi _ j _=>(zu.flat _ _).nf)
def LYa : CsL:=LTb
theorem LYa_ok : qV Try.prog LYa:=zBA
theorem wordY_ok (n : Nat) (l : List Int) (q : Int) (ht : TapeOk n (rI l) q) :
 ∃ (r q' : Int),True /\ TapeOk n (rI l) q' /\ YE Try.prog 50 [] (qM n (rI l) q) ((cI .u64).enc r) (qM n (rI l) q'):=by
 refine qw (wd:=1) (by decide) zN (zb LYa_ok) zP Try.func50 rfl _ (by show 0 + 1 <= _;decide) (λ_=>zCR) ?_;repeat' (first | (apply And.intro<;>intro hc<;>(first | exact Bool.noConfusion hc | (simp only [zb0] at hc) | skip)) | (refine And.intro zj ?_) | (apply And.intro) | (intro s hs))
 all_goals exact ⟨(_,_),⟨trivial,by assumption⟩,⟨zB rfl,ZW⟩⟩
abbrev wordYE : Zk:=zAc AC.nil (λ_=>True) (λa (r : Int)=>True) (cI .u64).enc
structure SmM (L : List Smy) : Prop where
 n : L.length <= 6
 i : ∀ x ∈ L,0 <= x.id
structure SyS (n : Nat) (l : List Int) where
 i : Nat
 L : List Smy
 q : Int
 hi : 1 <= i /\ i <= 6
 hn : L.length + 1 <= i
 hp : ∀ x ∈ L,0 <= x.id
 ht : TapeOk n (rI l) q
def LYb : CsL:=(50,some wordYE) :: LTb
theorem LYb_ok : qV Try.prog LYb:=⟨Qp ⟨_,Try.func50,rfl,by kernel_rfl⟩ λn l q a ht _=>wordY_ok n l q ht,zBA⟩
theorem smMk_ok (n : Nat) (l : List Int) (q : Int) (ht : TapeOk n (rI l) q) :
 ∃ (r : List Smy) (q' : Int),SmM r /\ TapeOk n (rI l) q' /\ YE Try.prog 26 [] (qM n (rI l) q) (.e (.c (slR zu r))) (qM n (rI l) q'):=by
 refine qw (enc:=λr=>.e (.c (slR zu r))) (wd:=1) (by decide) zN (zb LYb_ok) zP Try.func26 rfl _ (by show 0 + 1 <= _;decide) (λ_=>nff_sms) ?_;repeat' (first | (apply And.intro<;>intro hc<;>(first | exact Bool.noConfusion hc | (exfalso;first | exact absurd rfl hc | omega) | (simp only [zl] at hc<;>first | exact absurd rfl hc | (exfalso;first | exact absurd rfl hc | omega) | skip) | skip)) | (refine And.intro zj ?_) | (apply And.intro) | (intro s hs;skip))
 conv=>whnf
 refine zU (zV LYb_ok) (λs : SyS n l=>(⟨[(0,zL (.ptr 0 0 0 false)),(3,zL (.os 1 0 s.L.length)),(4,zL (.int .i64 (s.i : Int)))],[(0,some (qM n (rI l) s.q)),(1,some (zA0 zu 60 s.L))],2⟩ : Hd)) (λs=>6 - s.i) (λ_=>rfl) ?_ ⟨1,[],q,⟨by omega,by omega⟩,Nat.le_refl _,λx hx=>(List.not_mem_nil hx).elim,ht⟩ [(1,none)] ⟨rfl,⟨zF rfl,zD (Zh rfl),zB rfl,trivial⟩,⟨⟨rfl,ZW⟩,⟨rfl,rfl,rfl,Nat.le_of_ble_eq_true rfl⟩,trivial⟩⟩;rintro ⟨i,L,q1,hi,hn,hp,ht1⟩;dsimp only at hi hn hp ht1 ⊢;by_cases h6 : i < 6
 . have w4 : IntKind.i64.wrap ((i : Int) + 1) = ((i + 1 : Nat) : Int):=(IntWalk.i64_in _ (by omega)).trans (by omega);have w5 : IntKind.u64.wrap (i : Int) = (i : Int):=IntWalk.u64_in _ (by omega);repeat' (first | (apply And.intro<;>intro hc<;>(first | exact Bool.noConfusion hc | (exfalso;first | exact absurd rfl hc | omega) | (simp only [zl] at hc<;>first | exact absurd rfl hc | (exfalso;first | exact absurd rfl hc | omega) | skip) | skip)) | (refine And.intro zj ?_) | (apply And.intro) | (intro s hs;skip))
   . rename_i y hy q3 hq3 v hv;conv=>whnf
     refine ⟨⟨i + 1,L ++ [⟨(i : Int),y,IntKind.u32.wrap v⟩],_,⟨by omega,by omega⟩,by rw [List.length_append];show L.length + 1 + 1 <= i + 1;omega,λx hx=>?_,hs⟩,[(1,some 16)],by dsimp only;omega,rfl,⟨zF rfl,zD (zH rfl (by rw [List.length_append];rfl)),zB w4,trivial⟩,⟨⟨rfl,ZW⟩,⟨rfl,?_⟩,trivial⟩⟩
     . rcases List.mem_append.1 hx with g | g
       . exact hp x g
       . rw [List.mem_singleton.1 g];show (0 : Int) <= (i : Int);omega
     . refine zDV (E:=zu) (L:=L) (x:=⟨(i : Int),y,IntKind.u32.wrap v⟩) rfl (λi hi j hj=>ZU (Nat.ble_eq_true_of_le hi) (Elem.flat _ _ _).le) ?_;repeat' (first | exact trivial | (refine Zd (Zt _) ?_;rw [Nat.sub_self];first | exact zC rfl | exact zC w5) | apply And.intro)
   . conv=>whnf
     exact ⟨⟨i + 1,L,_,⟨by omega,by omega⟩,by omega,hp,hs⟩,[],by dsimp only;omega,rfl,⟨zF rfl,zD (zH rfl rfl),zB w4,trivial⟩,⟨⟨rfl,ZW⟩,⟨rfl,zBM⟩,trivial⟩⟩
 . obtain rfl : i = 6:=by omega
   repeat' (first | (apply And.intro<;>intro hc<;>(first | exact Bool.noConfusion hc | (exfalso;first | exact absurd rfl hc | omega) | (simp only [zl] at hc<;>first | exact absurd rfl hc | (exfalso;first | exact absurd rfl hc | omega) | skip) | skip)) | (refine And.intro zj ?_) | (apply And.intro) | (intro s hs;skip))
   conv=>whnf
   exact ⟨(L,_),⟨⟨by show L.length <= 6;omega,hp⟩,ht1⟩,⟨zD (zCx rfl rfl),ZW⟩⟩
abbrev smMkE : Zk:=zAc AC.nil (λ_=>True) (λa (r : List Smy)=>SmM r) (λr=>.e (.c (slR zu r)))
theorem smMkE_ok : EntOk Try.prog 26 smMkE:=Qp ⟨_,Try.func26,rfl,by kernel_rfl⟩ λn l q a ht hp=>smMk_ok n l q ht
theorem zC8 {P : Program} {w : World} {t e : TypeId} (ht : P.underlying t = some (.slice e)) (a : Option Addr) (l c : Nat) : (binOp .eql t (.slice a l c) (.slice none 0 0)).run P w = .ok (.bool a.isNone) w:=by
 simp [binOp,zAr ht]
theorem zGS (a : Option Addr) (cap : Nat) (w : World) : Calls Try.prog 24 #[.slice a 0 cap] w λe w'=>∃ a',e = .returned (.slice a' 0 0) /\ Below w.heap.size w w':=by
 cases a with
 | none=>
   have hnil : ∀ W,(binOp .eql 56 (.slice none 0 cap) (.slice none 0 0)).run Try.prog W = .ok (.bool true) W:=λW=>zC8 Try.underlying56 none 0 cap;go_enter Try.func24,Try.ntmps24
   go_wp2
   go_ret
   exact ⟨none,rfl,Below.refl _ _⟩
 | some ad=>
   have hnil : ∀ W,(binOp .eql 56 (.slice (some ad) 0 cap) (.slice none 0 0)).run Try.prog W = .ok (.bool false) W:=λW=>zC8 Try.underlying56 (some ad) 0 cap;go_enter Try.func24,Try.ntmps24
   go_wp2_with fail
   go_ret
   exact ⟨some ⟨w.heap.size,0,none⟩,rfl,(Below.refl _ _).alloc (Nat.le_refl _) _⟩
theorem cloneY_ok (l : List Smy) (hl : l.length <= 20) : zBG Try.prog 24 [(cSl zu zAV).enc l] (some l.length) none (zA0 zu 60 l):=by
 by_cases h0 : l.length = 0
 . have e0 : l = []:=List.length_eq_zero_iff.1 h0;subst e0;intro X w vals hrel hX;obtain ⟨v0,rfl⟩ : ∃ v0,vals = #[v0]:=by
    have h2 : vals.size = 1:=hrel.1;match vals,h2 with
    | ⟨[a]⟩,_=>exact ⟨a,rfl⟩
   have h1 : (CV.sl false 0 3 (QG zu [])).rel (λ_=>none) X (λ_=>False) w v0:=hrel.2 0 _ v0 rfl rfl;obtain ⟨a,cap,rfl,_,_⟩:=h1;refine (zGS a cap w).mono λe w' ⟨a',he,hb⟩=>?_;exact ⟨.slice a' 0 0,none,he,hb,(λx h=>by cases h),⟨zAV,(λh=>by cases h),.inl ⟨rfl,rfl⟩⟩,⟨a',0,rfl,Nat.le_refl _,λh=>absurd h (Nat.lt_irrefl _)⟩⟩
 . refine zBh (wd:=1) (by decide) zN (zb qC) zP Try.func24 rfl _ (by show 1 <= _;decide) (λi _ j _=>row_nf zu l i j) ?_;repeat' (first | (apply And.intro<;>intro hc<;>(first | exact Bool.noConfusion hc | (simp only [zb0] at hc) | skip)) | (refine And.intro zp0 ?_) | (apply And.intro) | (intro s hs))
   refine ⟨⟨some 5,zD (zH rfl (Nat.zero_add _)),?_⟩⟩;refine zEm (Nat.zero_add _) λi hi j hj=>?_;refine Zd (blt_zero _) ?_;rw [Nat.sub_zero];exact (Elem.flat _ _ _).le
abbrev cloneYE : Zk:=newE (AC.cons (cSl zu zAV) AC.nil) (λa=>a.1.length <= 20) (λa=>a.1) (λl=>some l.length) (λ_=>none) (λl=>zA0 zu 60 l)
theorem zGT : EntOk Try.prog 24 cloneYE:=zA2 ⟨_,Try.func24,rfl,by kernel_rfl⟩ (λs l h=>by cases h) λa h=>cloneY_ok a.1 h
theorem summ8 {M : List Sed} (h : ZA M = true) : (YY M).length <= 8:=by
 unfold YY;rw [if_pos h,List.length_map];exact Zv h
theorem summ_ids {M : List Sed} (h : ZA M = true) : ∀ x ∈ YY M,0 <= x.id:=by
 unfold YY;rw [if_pos h];intro x hx;obtain ⟨s,hs,rfl⟩:=List.mem_map.1 hx;have:=(qq h s hs).1;show 0 <= s.id;omega
theorem zBL (l : List Smy) : (toL zu l.length λk j=>QG zu l (0 + k) j) = l:=by
 rw [show (λk j=>QG zu l (0 + k) j) = QG zu l from funext λk=>by rw [Nat.zero_add]];exact Ye (λ_=>rfl) l
theorem zBe {M L : List Sed} {S T : List Smy} {d : Int} (h1 : M = L) (h2 : S = T) (hL : LHp L) (hn : T.length <= 9223372036854775807) (hi : ∀ x ∈ T,0 <= x.id) (hd : ZS d) : CmpR M S d:=by
 subst h1 h2;exact ⟨hL,hn,hi,hd⟩
theorem app_ids {T : List Smy} {x : Smy} (h : ∀ x ∈ T,0 <= x.id) (hx : 0 <= x.id) : ∀ y ∈ T ++ [x],0 <= y.id:=λy hy=>by
 rcases List.mem_append.1 hy with g | g
 . exact h y g
 . rw [List.mem_singleton.1 g];exact hx
theorem sm_n {L : List Smy} (h : SmM L) : L.length <= 9223372036854775807:=by have:=h.n;omega
theorem sm_i {L : List Smy} (h : SmM L) : ∀ x ∈ L,0 <= x.id:=h.i
structure CwS (z : List Int) where
 m : Nat
 q : Int
 b : Int
 L : List Sed
 M : List Sed
 x : Smy
 hb : 0 <= b /\ b <= 1099511627776
 hL : ZA L = true
 hM : ZA M = true
 hx : 0 <= x.id
 ht : TapeOk m (rI z) q
def SCw (raw : List Sed) (S : List Smy) (z : List Int) (now draw : Int) (s : CwS z) : Hd:=
 ⟨[(0,zL (slN ZB raw)),(2,zL (.int .i64 now)),(3,zL (slR zu S)),(4,zL (.int .u32 draw)),(11,zL (.ptr 0 0 0 false)),(12,zL (.int .i64 s.b)),(13,zL (slN ZB s.L)),(15,zL (.os 1 0 (YY s.M).length)),(16,zL (.os 2 0 (YY s.M ++ [s.x]).length))],
  [(0,some (qM s.m (rI z) s.q)),(1,some (zA0 zu 60 (YY s.M))),(2,some (zA0 zu 60 (YY s.M ++ [s.x])))],3⟩
def LCw : CsL:=(13,some smallE) :: (25,some zEb) :: (20,some spoilSE) :: (12,some zFh) :: (15,some seedsE) :: (26,some smMkE) :: (23,some rsummE) :: (24,some cloneYE) :: LWd
theorem zAx : qV Try.prog LCw:=⟨smallE_ok,zFE,zGM,zFi,Qp ⟨_,Try.func15,rfl,by kernel_rfl⟩ λn l q a ht hp=>seeds_ok n l q a.1 ht hp,smMkE_ok,rsummE_ok,zGT,LWd_ok⟩
theorem zEe (raw : List Sed) (hraw : LHp raw) (len : Nat) (z : List Int) (hz : rngL z) (now : Int) (S : List Smy) (hSn : S.length <= 9223372036854775807) (hSi : ∀ x ∈ S,0 <= x.id) (draw : Int) (hdr : ZS draw) : Ze Try.prog 7 [.e (.c (slN ZB raw)),.e (.c (.sl true len 1 (rI z))),(cI .i64).enc now,.e (.c (slR zu S)),(cI .u32).enc draw] (.e (.c (.bool true))):=by
 refine zC7 zN Try.func7 rfl _ (by show 5 <= _;decide) _ ?_;refine zK (wd:=1) (by decide) zN (zb zAx) zP ?_;refine zK (wd:=1) (by decide) zN (zb zAx) zP ?_;repeat' (first | (apply And.intro<;>intro hc<;>(first | exact Bool.noConfusion hc | (exfalso;first | exact absurd rfl hc | omega) | (simp only [zl] at hc<;>first | exact absurd rfl hc | (exfalso;first | exact absurd rfl hc | omega) | skip) | skip)) | (refine And.intro zj ?_) | (apply And.intro) | (intro s hs;skip))
 . exact ⟨rfl,Zy _⟩
 . exact Eq.mpr (congrArg LHn (zr ZL _)) hraw.h
 . conv=>whnf
   exact Done.mk (zG hs)
 . conv=>whnf
   exact Done.mk (zG hs)
 refine zK (wd:=1) (by decide) zN (zb zAx) zP ?_;repeat' (first | (apply And.intro<;>intro hc<;>(first | exact Bool.noConfusion hc | (exfalso;first | exact absurd rfl hc | omega) | (simp only [zl] at hc<;>first | exact absurd rfl hc | (exfalso;first | exact absurd rfl hc | omega) | skip) | skip)) | (refine And.intro zj ?_) | (apply And.intro) | (intro s hs;skip))
 . exact ⟨z,rfl,hz⟩
 intro ht0;obtain ⟨m,em⟩ : ∃ m,m = s:=⟨s,rfl⟩;obtain ⟨q0,eq0⟩ : ∃ q0,q0 = hs:=⟨hs,rfl⟩;subst em eq0;refine zK (wd:=1) (by decide) zN (zb zAx) zP ?_;repeat' (first | (apply And.intro<;>intro hc<;>(first | exact Bool.noConfusion hc | (exfalso;first | exact absurd rfl hc | omega) | (simp only [zl] at hc<;>first | exact absurd rfl hc | (exfalso;first | exact absurd rfl hc | omega) | skip) | skip)) | (refine And.intro zj ?_) | (apply And.intro) | (intro s hs;skip))
 refine zK (wd:=1) (by decide) zN (zb zAx) zP ?_;repeat' (first | (apply And.intro<;>intro hc<;>(first | exact Bool.noConfusion hc | (exfalso;first | exact absurd rfl hc | omega) | (simp only [zl] at hc<;>first | exact absurd rfl hc | (exfalso;first | exact absurd rfl hc | omega) | skip) | skip)) | (refine And.intro zj ?_) | (apply And.intro) | (intro s hs;skip))
 rename_i b hb q1 hq1 L hL q2 hq2 M hM;have hL : ZA L = true:=hL;have hM : ZA M = true:=hM;refine zK (wd:=1) (by decide) zN (zb zAx) zP ?_;repeat' (first | (apply And.intro<;>intro hc<;>(first | exact Bool.noConfusion hc | (exfalso;first | exact absurd rfl hc | omega) | (simp only [zl] at hc<;>first | exact absurd rfl hc | (exfalso;first | exact absurd rfl hc | omega) | skip) | skip)) | (refine And.intro zj ?_) | (apply And.intro) | (intro s hs;(first | (have q : YY M = s:=rd_sm2 hs (zr ZL _) rfl;clear hs;subst q) | skip)))
 . exact ⟨rfl,Zy _⟩
 . exact Eq.mpr (congrArg LHp (zr ZL _)) (zDz hM)
 have h8:=summ8 hM;change Sem _ _ _ _ _ _ _ _;refine Zb (wd:=1) (by decide) zN (zb zAx) (zV zAx) zP (SCw raw S z now draw) (by intro _;rfl) ?_ ?_
 . repeat' (first | (apply And.intro<;>intro hc<;>(first | exact Bool.noConfusion hc | (exfalso;first | exact absurd rfl hc | omega) | (simp only [zl] at hc<;>first | exact absurd rfl hc | (exfalso;first | exact absurd rfl hc | omega) | skip) | skip)) | (refine And.intro zj ?_) | (apply And.intro) | (intro s hs;(first | (have q : YY M = s:=(hs.trans (zBL _)).symm;clear hs;subst q) | skip)))
   . exact rfl
   . exact Eq.mpr (congrArg (λz : List Smy=>z.length <= 20) (zBL _)) (by omega)
   . rename_i y1 hy1 q3 hq3 y2 hy2;have hy1 : 0 <= y1 /\ y1 < 3:=hy1;have hy2 : 0 <= y2 /\ y2 < 3:=hy2;have w1 : IntKind.u64.wrap y1 = y1:=IntWalk.u64_in _ (by omega);have w2 : IntKind.i64.wrap (y2 - 1) = y2 - 1:=IntWalk.i64_in _ (by omega);conv=>whnf
     refine ⟨⟨m,_,b,L,M,⟨y1,y2 - 1,0⟩,hb,hL,hM,hy1.1,hs⟩,[(0,some 10),(1,some 24),(2,some 36)],rfl,⟨zD (qK _).le,zB rfl,zM (cl_slR zu S),zB rfl,zF rfl,zB rfl,zD (qK _).le,zD (zH rfl rfl),zD (zH rfl (by rw [List.length_append];rfl)),trivial⟩,⟨⟨rfl,ZW⟩,⟨rfl,zBM⟩,⟨rfl,?_⟩,trivial⟩⟩;refine zDV (E:=zu) (L:=YY M) (x:=⟨y1,y2 - 1,0⟩) rfl (λi hi j hj=>ZU (Nat.ble_eq_true_of_le hi) (Elem.flat _ _ _).le) ?_;repeat' (first | exact trivial | (refine Zd (Zt _) ?_;rw [Nat.sub_self];first | exact zC rfl | exact zC w1 | exact zC w2) | apply And.intro)
 . rintro ⟨m,q,b,L,M,x,hb,hL,hM,hx,ht⟩;have h8:=summ8 hM;have hy:=summ_ids hM;unfold SCw;dsimp only;refine QB (wd:=1) (by decide) zN (zb zAx) zP ?_;repeat' (first | (apply And.intro<;>intro hc<;>(first | exact Bool.noConfusion hc | (exfalso;first | exact absurd rfl hc | omega | exact Bool.noConfusion hc) | (simp only [zl] at hc<;>first | exact absurd rfl hc | (exfalso;first | exact absurd rfl hc | omega | exact Bool.noConfusion hc) | skip) | skip)) | (refine And.intro zj ?_) | (apply And.intro) | (intro s hs;(first | subst hs | skip)))
   all_goals try first
    | exact ⟨rfl,Zy _⟩
    | exact λ_=>⟨rfl,Zy _⟩
    | exact λ_ _=>⟨rfl,Zy _⟩
    | exact rfl
    | exact λ_=>rfl
    | exact λ_ _=>rfl
    | exact zBe (zr ZL _) (zBL _) (zDz hL) (by omega) hy hdr
    | exact zBe (zr ZL _) (Ye (E:=zu) (λ_=>rfl) _) hraw hSn hSi hdr
    | exact zBe (zr ZL _) (Ye (E:=zu) (λ_=>rfl) _) (zDz hL) hSn hSi hdr
    | exact zBe (zr ZL _) (zBL _) (zDz hL) (by rw [List.length_append];show (YY M).length + 1 <= _;omega) (app_ids hy hx) hdr
    | exact zBe (zr ZL _) (zBL _) ‹_› (by omega) hy hdr
    | exact zBe (zr ZL _) (Ye (E:=zu) (λ_=>rfl) _) (zDz hL) (sm_n ‹_›) (sm_i ‹_›) hdr
    | exact Eq.mpr (congrArg (λz : List Sed=>ZA z = true) (zr ZL _)) hL
   conv=>whnf
   exact Done.mk (zG rfl)
end Go.Proofs.Ytfaibcgakcmhcaa.AX
namespace Go.Proofs.Ytfaibcgakcmhcaa
open Go.ChangeShapes Go.WideShapes Go.RowKit AX
inductive Sh where
 | c (k : Option IntKind)
 | s (e : List Sh)
instance : Inhabited Sh:=⟨.c none⟩
def shFs (P : Program) (g : TypeId -> Option (List Sh)) : List Field -> Nat -> Option (List Sh)
 | [],_=>some []
 | fd :: rest,off=>
   match g fd.type with
   | some l=>bif Nat.beq fd.offset off && Nat.beq (P.cellsOf fd.type) l.length then (shFs P g rest (off + l.length)).map (l ++ ·) else none
   | none=>none
def shOf (P : Program) : Nat -> TypeId -> Option (List Sh)
 | 0,_=>none
 | f + 1,t=>
   match P.underlying t with
   | some .bool=>some [.c none]
   | some (.int k)=>some [.c (some k)]
   | some (.struct fs)=>
     match shFs P (shOf P f) fs.toList 0 with
     | some l=>bif Nat.beq (P.cellsOf t) l.length then some l else none
     | none=>none
   | some (.array n e)=>
     match shOf P f e with
     | some l=>bif Nat.beq (P.cellsOf e) l.length && Nat.beq (P.cellsOf t) (n * l.length) then some (List.replicate n l).flatten else none
     | none=>none
   | some (.slice e)=>
     match shOf P f e with
     | some l=>bif Nat.beq (P.cellsOf e) l.length && Nat.blt 0 l.length then some [.s l] else none
     | none=>none
   | _=>none
inductive KV (w : World) : Sh -> Value -> CV -> Prop
 | c (k : Option IntKind) (v : Value) : KOk k v -> KV w (.c k) v (cvOf v)
 | z (e : List Sh) (a : Option Addr) (cap : Nat) : KV w (.s e) (.slice a 0 cap) (.sl true 0 e.length λ_ _=>.top)
 | s (e : List Sh) (ad : Addr) (len cap : Nat) (U : Nat -> Nat -> Value) (f : Nat -> Nat -> CV) : 0 < e.length -> len <= cap -> len <= 9223372036854775807 -> ad.spot = none ->
     (∀ i j,i < len -> j < e.length -> w.cell? ⟨ad.block,ad.off + (i * e.length + j),none⟩ = some (U i j)) -> (∀ i j,i < len -> j < e.length -> KV w (e.getD j default) (U i j) (f i j)) -> KV w (.s e) (.slice (some ad) len cap) (.sl true len e.length f)
theorem KV.rel {w : World} {s : Sh} {v : Value} {x : CV} (h : KV w s v x) : x.rel (λ_=>none) (λ_=>False) (λ_=>False) w v:=by
 induction h with
 | c k v h=>exact h.cv.2 _ _ _ _
 | z e a cap=>exact ⟨a,cap,rfl,Nat.zero_le _,λh=>absurd h (Nat.lt_irrefl _)⟩
 | s e ad len cap U f h0 hl _ hs hc hk ih=>
   refine ⟨some ad,cap,rfl,hl,λhpos=>⟨ad,rfl,hs,λh=>h,λ_ h=>h,?_,λi hi j hj=>⟨_,hc i j hi hj,ih i j hi hj⟩⟩⟩;exact cells_lt (ad:=⟨ad.block,ad.off + (0 * e.length + 0),none⟩) (hc 0 0 hpos h0)
def KVs (w : World) (ss : List Sh) (vs : List Value) : Prop:=vs.length = ss.length /\ ∀ (j : Nat) v,vs[j]? = some v -> ∃ x,KV w (ss.getD j default) v x
theorem KVs.append {w : World} {a b : List Sh} {x y : List Value} (h : KVs w a x) (h' : KVs w b y) : KVs w (a ++ b) (x ++ y):=by
 refine ⟨by rw [List.length_append,List.length_append,h.1,h'.1],λj v hv=>?_⟩;rw [List.getD_eq_getElem?_getD];by_cases hj : j < x.length
 . rw [List.getElem?_append_left hj] at hv;rw [List.getElem?_append_left (by rw [<- h.1];exact hj),<- List.getD_eq_getElem?_getD];exact h.2 j v hv
 . rw [List.getElem?_append_right (by omega)] at hv;rw [List.getElem?_append_right (by rw [<- h.1];omega),<- List.getD_eq_getElem?_getD,<- h.1];exact h'.2 _ v hv
section
variable {H : Type} {enc : TypeId × Value -> H} {P : Program} {w : World} {base : Nat} {spare : Nat -> Bool} {held : Bool}
theorem shFs_kv {g : TypeId -> Option (List Sh)} {cs : List Value} : ∀ (fs : List Field) (off : Nat) (ks : List Sh),shFs P g fs off = some ks ->
 (∀ fd ∈ fs,∀ l,g fd.type = some l -> KVs w l ((cs.drop fd.offset).take (P.cellsOf fd.type))) -> cs.length = off + ks.length -> KVs w ks (cs.drop off):=by
 intro fs;induction fs with
 | nil=>
   intro off ks h _ hl;simp only [shFs,Option.some.injEq] at h;subst h;rw [List.drop_eq_nil_of_le (by simp at hl;omega)];exact ⟨rfl,λj v h=>by simp at h⟩
 | cons fd rest ih=>
   intro off ks h hm hl;simp only [shFs] at h;split at h
   . rename_i l hg;cases hb : (Nat.beq fd.offset off && Nat.beq (P.cellsOf fd.type) l.length) with
     | false=>rw [hb] at h;cases h
     | true=>
       rw [hb,cond_true] at h;simp only [Bool.and_eq_true] at hb;have h1:=Nat.eq_of_beq_eq_true hb.1;have h2:=Nat.eq_of_beq_eq_true hb.2;cases hr : shFs P g rest (off + l.length) with
       | none=>rw [hr] at h;cases h
       | some l'=>
         rw [hr] at h;simp only [Option.map_some,Option.some.injEq] at h;subst h;have m1:=hm fd (by simp) l hg;rw [h1,h2] at m1;have m2:=ih _ _ hr (λfd' hfd l hl=>hm fd' (by simp [hfd]) l hl) (by simp at hl;omega);rw [show cs.drop off = (cs.drop off).take l.length ++ cs.drop (off + l.length) by
          rw [<- List.drop_drop,List.take_append_drop]]
         exact m1.append m2
   . cases h
theorem sh_kv : ∀ (f : Nat) (t : TypeId) (ks : List Sh) (fuel : Nat) (cs : List Value) (x : DataW H × List MemPlace),shOf P f t = some ks -> DataW.trod enc P w base spare held fuel t cs = some x -> KVs w ks cs:=by
 intro f;induction f with
 | zero=>intro t ks fuel cs x h;cases h
 | succ f ih=>
   intro t ks fuel cs x h hd;have zL : ∀ {s : Sh} {v : Value} {y : CV},KV w s v y -> KVs w [s] [v]:=fun {s v y} hk=>⟨rfl,λj u hu=>by
    cases j with
    | zero=>simp only [List.getElem?_cons_zero,Option.some.injEq] at hu;subst hu;exact ⟨y,hk⟩
    | succ j=>simp at hu⟩
   simp only [shOf] at h;split at h
   . rename_i ht;simp only [Option.some.injEq] at h;subst h;cases fuel with
     | zero=>simp [DataW.trod] at hd
     | succ m=>
       unfold DataW.trod at hd;rw [ht] at hd;split at hd<;>simp_all
       exact zL (.c none _ ⟨_,rfl⟩)
   . rename_i k ht;simp only [Option.some.injEq] at h;subst h;obtain ⟨n,rfl,hx,hw⟩:=DataW.trod_int ht hd;exact zL (.c (some k) _ ⟨n,rfl,hw⟩)
   . rename_i fs ht;split at h
     . rename_i l hfl;cases hb : Nat.beq (P.cellsOf t) l.length with
       | false=>rw [hb] at h;cases h
       | true=>
         rw [hb] at h;simp only [cond_true,Option.some.injEq] at h;subst h;obtain ⟨ys,m,_,_,hlen,hyl,hf⟩:=DataW.trod_struct ht hd;have:=shFs_kv (cs:=cs) (w:=w) fs.toList 0 l hfl (λfd hfd l' hg=>?_) (by rw [hlen,Nat.eq_of_beq_eq_true hb];omega)
         . simpa using this
         . obtain ⟨i,hi,hfi⟩:=List.getElem_of_mem hfd;have hi' : i < fs.size:=by simpa using hi
           have e1 : fs[i]? = some fd:=by
            rw [Array.getElem?_eq_getElem hi'];simpa using hfi
           have hfd':=hf i fd e1;have hy : ys[i]? = some ys[i]:=List.getElem?_eq_getElem (by omega);rw [hy] at hfd';exact ih _ _ _ _ _ hg hfd'
     . cases h
   . rename_i n e ht;split at h
     . rename_i l hfl;cases hb : (Nat.beq (P.cellsOf e) l.length && Nat.beq (P.cellsOf t) (n * l.length)) with
       | false=>rw [hb] at h;cases h
       | true=>
         rw [hb] at h;simp only [cond_true,Option.some.injEq] at h;subst h;simp only [Bool.and_eq_true] at hb;have h1:=Nat.eq_of_beq_eq_true hb.1;have h2:=Nat.eq_of_beq_eq_true hb.2;obtain ⟨xs,m,_,_,hlen,hxl,hel⟩:=DataW.trod_array ht hd;have key : ∀ j,j <= n -> KVs w (List.replicate j l).flatten (cs.drop ((n - j) * l.length)):=by
          intro j;induction j with
          | zero=>
            intro _;rw [List.drop_eq_nil_of_le (by rw [hlen,h2];simp)];exact ⟨rfl,λj v h=>by simp at h⟩
          | succ j ihj=>
            intro hj;have hi:=hel (n - (j + 1)) (by omega);rw [h1] at hi;obtain ⟨y,hy⟩ : ∃ y,xs[n - (j + 1)]? = some y:=⟨_,List.getElem?_eq_getElem (by omega)⟩;rw [hy] at hi;have m1:=ih _ _ _ _ _ hfl hi;have m2:=ihj (by omega);rw [List.replicate_succ,List.flatten_cons];rw [show cs.drop ((n - (j + 1)) * l.length) = (cs.drop ((n - (j + 1)) * l.length)).take l.length ++ cs.drop ((n - j) * l.length) by
             rw [show (n - j) * l.length = (n - (j + 1)) * l.length + l.length by rw [show n - j = (n - (j + 1)) + 1 by omega,Nat.add_mul,Nat.one_mul],<- List.drop_drop,List.take_append_drop]]
            exact m1.append m2
         simpa using key n (Nat.le_refl _)
     . cases h
   . rename_i e ht;split at h
     . rename_i l hfl;cases hb : (Nat.beq (P.cellsOf e) l.length && Nat.blt 0 l.length) with
       | false=>rw [hb] at h;cases h
       | true=>
         rw [hb] at h;simp only [cond_true,Option.some.injEq] at h;subst h;simp only [Bool.and_eq_true] at hb;have hc:=Nat.eq_of_beq_eq_true hb.1;have h0 : 0 < l.length:=Nat.le_of_ble_eq_true hb.2;rcases Go.Deep.open_slice ht hd with ⟨rfl,hx⟩ | ⟨a',len,cap,m,n,D,Pl,rfl,hbs,hl,hm,hmm,hx,hel⟩
         . exact zL (.z l none 0)
         . have hlm : len <= m:=by rw [hmm];split<;>omega
           by_cases hpos : 0 < len
           . have hsp : a'.spot = none:=by
              obtain ⟨cs0,g1,g2⟩:=hel 0 (by omega);have hk:=ih e l n _ _ hfl g2;obtain ⟨_,g3,g4⟩:=World.cells?_some g1;have:=g4 0 (by rw [hc];exact h0);rw [Nat.zero_mul,zCt,zCt] at this;cases hc0 : cs0[0]? with
              | none=>rw [List.getElem?_eq_none_iff] at hc0;have:=hk.1;omega
              | some u=>rw [hc0] at this;exact zEc this
             have each : ∀ i j,i < len -> j < l.length -> ∃ p : Value × CV,w.cell? ⟨a'.block,a'.off + (i * l.length + j),none⟩ = some p.1 /\ KV w (l.getD j default) p.1 p.2:=λi j hi hj=>by
              obtain ⟨cs',g1,g2⟩:=hel i (by omega);have hk:=ih e l n _ _ hfl g2;obtain ⟨_,g3,g4⟩:=World.cells?_some g1;obtain ⟨u,hu⟩ : ∃ u,cs'[j]? = some u:=⟨_,List.getElem?_eq_getElem (by rw [hk.1];exact hj)⟩;have:=g4 j (by omega);rw [Go.Deep.add_add,addS hsp,hu,hc] at this;obtain ⟨x,hx⟩:=hk.2 j u hu;exact ⟨(u,x),this,hx⟩
             have hch : ∃ F : Nat -> Nat -> Value × CV,∀ i j,i < len -> j < l.length -> w.cell? ⟨a'.block,a'.off + (i * l.length + j),none⟩ = some (F i j).1 /\ KV w (l.getD j default) (F i j).1 (F i j).2:=
              ⟨λi j=>if h : i < len /\ j < l.length then Classical.choose (each i j h.1 h.2) else (default,.top),λi j hi hj=>by
                show w.cell? _ = some (dite _ _ _ : Value × CV).1 /\ KV w _ (dite _ _ _ : Value × CV).1 (dite _ _ _ : Value × CV).2;rw [dif_pos ⟨hi,hj⟩];exact Classical.choose_spec (each i j hi hj)⟩
             obtain ⟨F,hF⟩:=hch;exact zL (.s l a' len cap (λi j=>(F i j).1) (λi j=>(F i j).2) h0 hl (Nat.le_trans hl hm) hsp (λi j hi hj=>(hF i j hi hj).1) (λi j hi hj=>(hF i j hi hj).2))
           . have : len = 0:=by omega
             subst this;exact zL (.z l (some a') cap)
     . cases h
   . cases h
theorem open_shs {r : Reach} {b0 f : Nat} {t : TypeId} {v : Value} {d : DataW H} {ps : List MemPlace} {ks : List Sh} {e : TypeId} (hs : P.underlying t = some (.slice e)) (hf : shOf P f t = some ks) (hval : Value.okWide P w r b0 t v) (hd : DataW.Trod enc P w base spare held t v d ps) :
 ∃ a len cap,v = .slice a len cap /\ KVs w ks [.slice a len cap]:=by
 obtain ⟨a,len,cap,rfl⟩:=okWide_slice hs hval;obtain ⟨fuel,hd⟩:=hd;exact ⟨a,len,cap,rfl,sh_kv f t ks fuel _ _ hf hd⟩
end
theorem KV.num {w : World} {k : Option IntKind} {v : Value} {x : CV} (h : KV w (.c k) v x) : KOkC k x:=by
 cases h with
 | c _ _ h=>exact h.cv.1
theorem KV.row {w : World} {e : List Sh} {v : Value} {x : CV} (h : KV w (.s e) v x) : ∃ n f,x = .sl true n e.length f /\ n <= 9223372036854775807 /\ ∀ i j,i < n -> j < e.length -> ∃ u,KV w (e.getD j default) u (f i j):=by
 cases h with
 | z _ a cap=>exact ⟨0,_,rfl,Nat.zero_le _,λi j h=>absurd h (Nat.not_lt_zero _)⟩
 | s _ ad len cap U f h0 hl hm hs hc hk=>exact ⟨len,f,rfl,hm,λi j hi hj=>⟨_,hk i j hi hj⟩⟩
theorem KVs.g {w : World} {ss : List Sh} {vs : List Value} (h : KVs w ss vs) : ∃ g : Nat -> CV,(∀ j,j < ss.length -> ∃ u,vs[j]? = some u /\ KV w (ss.getD j default) u (g j)):=by
 have each : ∀ j,j < ss.length -> ∃ x,∃ u,vs[j]? = some u /\ KV w (ss.getD j default) u x:=λj hj=>by
  obtain ⟨u,hu⟩ : ∃ u,vs[j]? = some u:=⟨_,List.getElem?_eq_getElem (by rw [h.1];exact hj)⟩;obtain ⟨x,hx⟩:=h.2 j u hu;exact ⟨x,u,hu,hx⟩
 exact ⟨λj=>if hj : j < ss.length then Classical.choose (each j hj) else .top,λj hj=>by
  show ∃ u,_ /\ KV w _ u (dite _ _ _);rw [dif_pos hj];exact Classical.choose_spec (each j hj)⟩
theorem sl_congr {r : QK} {X W : Nat -> Prop} {w : World} {sh : Bool} {n sz : Nat} {f f' : Nat -> Nat -> CV} {v : Value} (h : ∀ i,i < n -> ∀ j,j < sz -> f i j = f' i j) (hv : (CV.sl sh n sz f).rel r X W w v) : (CV.sl sh n sz f').rel r X W w v:=by
 obtain ⟨a,cap,rfl,h1,h2⟩:=hv;refine ⟨a,cap,rfl,h1,λh0=>?_⟩;obtain ⟨ad,rfl,hs,ho,hX,hlt,hc⟩:=h2 h0;refine ⟨ad,rfl,hs,ho,hX,hlt,λi hi j hj=>?_⟩;obtain ⟨u,hu,hr⟩:=hc i hi j hj;exact ⟨u,hu,by rw [<- h i hi j hj];exact hr⟩
end Go.Proofs.Ytfaibcgakcmhcaa
namespace Go.Proofs.Ytfaibcgakcmhcaa
open Go.RowKit AX
abbrev shHd : List Sh:=[.c (some .i64),.s [.c (some .u8)],.c (some .i64),.c (some .i64),.c (some .i64),.c (some .i64),.c (some .i64),.c (some .i64),.c (some .i64),.c none,.c (some .i64)]
abbrev shSd : List Sh:=[.c (some .u64),.c (some .i64),.s shHd]
abbrev shSy : List Sh:=[.c (some .u64),.c (some .i64),.c (some .u32)]
abbrev shL (l : List Sh) : List Sh:=[.s l]
theorem zB3 {w : World} {k : IntKind} {v : Value} {x : CV} (h : KV w (.c (some k)) v x) : isK k x = true:=by
 obtain ⟨n,hn,_⟩:=h.num;rw [hn];simp [isK,YR]
theorem kv_b {w : World} {v : Value} {x : CV} (h : KV w (.c none) v x) : isB x = true:=by
 obtain ⟨n,hn⟩:=h.num;rw [hn];rfl
theorem kv_u64 {w : World} {v : Value} {x : CV} (h : KV w (.c (some .u64)) v x) : 0 <= Ya x:=by
 obtain ⟨n,hn,hw⟩:=h.num;rw [hn];simp [Lit.wf,IntKind.min,IntKind.max,IntKind.bits,IntKind.signed] at hw;show 0 <= n;omega
theorem kv_data {w : World} {v : Value} {x : CV} (h : KV w (.s [.c (some .u8)]) v x) : okD x:=by
 obtain ⟨n,f,rfl,_,hk⟩:=h.row;refine ⟨rfl,λi hi=>?_⟩;obtain ⟨u,hu⟩:=hk i 0 hi (by decide);exact zB3 hu
theorem kv_held {w : World} {g : Nat -> CV} (h : ∀ j,j < 11 -> ∃ u,KV w (shHd.getD j default) u (g j)) : zm.ok g:=by
 obtain ⟨_,h0⟩:=h 0 (by decide);obtain ⟨_,h1⟩:=h 1 (by decide);obtain ⟨_,h2⟩:=h 2 (by decide);obtain ⟨_,h3⟩:=h 3 (by decide);obtain ⟨_,h4⟩:=h 4 (by decide);obtain ⟨_,h5⟩:=h 5 (by decide);obtain ⟨_,h6⟩:=h 6 (by decide);obtain ⟨_,h7⟩:=h 7 (by decide);obtain ⟨_,h8⟩:=h 8 (by decide);obtain ⟨_,h9⟩:=h 9 (by decide);obtain ⟨_,h10⟩:=h 10 (by decide);refine ⟨?_,kv_data h1⟩;show (isK .i64 (g 0) && (isK .i64 (g 2) && isK .i64 (g 3) && isK .i64 (g 4) && isK .i64 (g 5) && isK .i64 (g 6) && isK .i64 (g 7) && isK .i64 (g 8) && isB (g 9)) && isK .i64 (g 10)) = true;rw [zB3 h0,zB3 h2,zB3 h3,zB3 h4,zB3 h5,zB3 h6,zB3 h7,zB3 h8,kv_b h9,zB3 h10];rfl
theorem kv_helds {w : World} {v : Value} {x : CV} (h : KV w (.s shHd) v x) : okHs x /\ (zDU x).length <= 9223372036854775807:=by
 obtain ⟨n,f,rfl,hn,hk⟩:=h.row;refine ⟨⟨rfl,λi hi=>kv_held λj hj=>hk i j hi hj⟩,?_⟩;show (Ys zm n f).length <= _;rw [QW];exact hn
theorem kv_seed {w : World} {g : Nat -> CV} (h : ∀ j,j < 3 -> ∃ u,KV w (shSd.getD j default) u (g j)) : ZB.ok g /\ 0 <= (ZB.rd g).id /\ (ZB.rd g).held.length <= 9223372036854775807:=by
 obtain ⟨_,h0⟩:=h 0 (by decide);obtain ⟨_,h1⟩:=h 1 (by decide);obtain ⟨_,h2⟩:=h 2 (by decide);obtain ⟨k1,k2⟩:=kv_helds h2;refine ⟨⟨?_,k1⟩,kv_u64 h0,k2⟩;rw [zB3 h0,zB3 h1];rfl
theorem seeds_arg {w : World} {v : Value} (h : KVs w (shL shSd) [v]) : ∃ L : List Sed,LHp L /\ (FV.e (.c (slN ZB L))).rel (λ_=>none) (λ_=>False) (λ_=>False) w v:=by
 obtain ⟨x,hx⟩:=h.2 0 v rfl;have hx : KV w (.s shSd) v x:=hx;have hr:=hx.rel;obtain ⟨n,f,rfl,hn,hk⟩:=hx.row;have hs:=λi (hi : i < n)=>kv_seed λj hj=>hk i j hi hj;refine ⟨Ys ZB n f,⟨⟨λx hm=>?_,by rw [QW];exact hn⟩,λx hm=>?_⟩,sl_toN (E:=ZB) (λi hi=>(hs i hi).1) hr⟩
 . simp only [Ys,List.mem_map,List.mem_range] at hm;obtain ⟨i,hi,rfl⟩:=hm;exact (hs i hi).2.2
 . simp only [Ys,List.mem_map,List.mem_range] at hm;obtain ⟨i,hi,rfl⟩:=hm;exact (hs i hi).2.1
theorem sums_arg {w : World} {v : Value} (h : KVs w (shL shSy) [v]) : ∃ L : List Smy,L.length <= 9223372036854775807 /\ (∀ x ∈ L,0 <= x.id) /\ (FV.e (.c (slR zu L))).rel (λ_=>none) (λ_=>False) (λ_=>False) w v:=by
 obtain ⟨x,hx⟩:=h.2 0 v rfl;have hx : KV w (.s shSy) v x:=hx;have hr:=hx.rel;obtain ⟨n,f,rfl,hn,hk⟩:=hx.row;have hs : ∀ i,i < n -> zu.ok (f i) = true /\ 0 <= (zu.rd (f i)).id:=λi hi=>by
  obtain ⟨_,h0⟩:=hk i 0 hi (by decide);obtain ⟨_,h1⟩:=hk i 1 hi (by decide);obtain ⟨_,h2⟩:=hk i 2 hi (by decide);refine ⟨?_,kv_u64 h0⟩;show (isK .u64 (f i 0) && isK .i64 (f i 1) && isK .u32 (f i 2)) = true;rw [zB3 h0,zB3 h1,zB3 h2];rfl
 refine ⟨toL zu n f,by rw [zDI];exact hn,λx hm=>?_,?_⟩
 . simp only [toL,List.mem_map,List.mem_range] at hm;obtain ⟨i,hi,rfl⟩:=hm;exact (hs i hi).2
 . have hh : (slR zu (toL zu n f)).rel (λ_=>none) (λ_=>False) (λ_=>False) w v:=by
    unfold slR;rw [zDI];refine sl_congr (λi hi j hj=>?_) hr;unfold QG;rw [zEk hi];exact zu.ok_eq _ (hs i hi).1 j hj
   exact hh
theorem walkMulticastCompares (a0 : Option Addr) (len0 cap0 : Nat) (a1 : Option Addr) (len1 cap1 : Nat) (z1 : List Int) (a2 : Int) (a3 : Option Addr) (len3 cap3 : Nat) (a4 : Int) (w : World) (w0 : KVs w (shL shSd) [.slice a0 len0 cap0]) (w1 : IsRow .i64 w a1 len1 cap1 z1) (rr1 : cap1 * 8 <= 140737488351232) (w2 : (Lit.int .i64 a2).wf = true) (w3 : KVs w (shL shSy) [.slice a3 len3 cap3]) (w4 : (Lit.int .u32 a4).wf = true) :
 Calls Try.prog 7 #[.slice a0 len0 cap0,.slice a1 len1 cap1,.int .i64 a2,.slice a3 len3 cap3,.int .u32 a4] w λe w'=>e = .returned (.bool true) /\ Below w.heap.size w w':=by
 obtain ⟨L,hL,h0⟩:=seeds_arg w0;obtain ⟨S,hn,hi,h3⟩:=sums_arg w3;have hd : ZS a4:=by
  simp [Lit.wf,IntKind.min,IntKind.max,IntKind.bits,IntKind.signed] at w4;unfold ZS;omega
 exact walk_of (zEe L hL len1 z1 (rng_of w1) a2 S hn hi a4 hd) (zBq h0 (zBq (row_rel w1) (zBq rfl (zBq h3 (relL1 rfl)))))
end Go.Proofs.Ytfaibcgakcmhcaa
