/- Texts of one's own in one file: Rd2, R12d, Ra, Ja, Jb, Is, Ju, Re, R12h, Rd3, Rd4p, Rd4a, Rd4b, Rd4c, Rd4d, Rd4, RdI, Rd5, Rd6, Re2, Re3, Rd7. -/
import Derived.Test.YtjknkfjhcapocaaGreatDoorJCompressDecodesb
import Derived.Test.YtjknkfjhcapocaaGreatDoorJCompressDecodesc
set_option linter.unusedVariables false
set_option linter.unusedSimpArgs false
set_option maxHeartbeats 16000000
set_option maxRecDepth 20000
namespace Go.Proofs.YtjknkfjhcapocaaGreatDoor.AX
open Go.RowKit
structure RdOk (b : List Int) (q : Int) : Prop where
 bl : BL b
 len : b.length <= 140737488355328
 lo : 0 <= q
 hi : q <= b.length
abbrev encRN (r : Int × Int) : FV:=.tup [.c (.int .u64 r.1),.c (.int .i64 r.2)]
theorem zEv (r : Int × Int) : zBN (encRN r):=zBO λx hx=>by
 rcases List.mem_cons.1 hx with rfl | hx
 . exact Yr ZO
 . rcases List.mem_cons.1 hx with rfl | hx
   . exact Yr ZO
   . cases hx
theorem zBM {b : List Int} {q n : Int} (h : (ZL b q n).2 = true) : 1 <= n /\ n <= 8 /\ 0 <= q /\ q <= b.length - n:=by
 unfold ZL at h;split at h
 . assumption
 . cases h
theorem number_ok (b : List Int) (q n : Int) (hr : RdOk b q) (hn : 1 <= n /\ n <= 16) : ze Tryz.prog 122 [(cI .i64).enc n] (qW true b q) (encRN (zB b q n).1) (qW true b (zB b q n).2):=by
 have h1:=hr.lo;have h2:=hr.hi;have h3:=hr.len;have hU:=zBM (b:=b) (q:=q) (n:=n);obtain ⟨U,eU⟩ : ∃ U,ZL b q n = U:=⟨_,rfl⟩;obtain ⟨W,eW⟩ : ∃ W,zB b q n = W:=⟨_,rfl⟩;rw [eW];unfold zB at eW;rw [eU] at eW hU;have e1 : U.2 = false -> W = ((0,4),q):=λh=>by rw [<- eW,if_neg (by rw [h];decide)]
 have e2 : U.2 = true -> W = ((U.1,0),q + n):=λh=>by rw [<- eW,if_pos h]
 clear eW;refine zR (wd:=1) (by decide) zM (zT zHA) zN Tryz.func122 rfl _ (by show 1 + 1 <= _;decide) (zZ (zEv _)) (ZZ) ?_;repeat' (first | (apply And.intro<;>intro hc<;>(first | exact Bool.noConfusion hc | (simp only [Zi] at hc<;>first | exact absurd rfl hc | skip) | skip)) | (refine And.intro Za ?_) | (apply And.intro) | (intro s hs;(first | (have q : U = s:=(hs.trans ((congrArg (λb=>ZL b q n) (zx b)).trans eU)).symm;clear hs;subst q) | skip)))
 all_goals first
  | exact Eq.mp (congrArg BL (zx b).symm) hr.bl
  | (show (Zw eB b.length _).length <= _;rw [zS];exact h3)
  | (rw [e1 ‹_›]
     exact ⟨zE ⟨zA rfl,zA rfl,trivial⟩,ZK rfl⟩)
  | (rw [e2 ‹_›]
     have:=hU ‹_›;refine ⟨zE ⟨zA rfl,zA rfl,trivial⟩,zh ⟨⟨trivial,qh (λ_=>rfl) rfl rfl λi _ j _=>qd rfl⟩,zA ?_⟩⟩;exact IntWalk.i64_in _ (by omega))
theorem uint_r {b : List Int} {q n : Int} (hb : BL b) : 0 <= (ZL b q n).1 /\ (ZL b q n).1 < 256 ^ n.toNat:=by
 have h0 : (0 : Int) < 256 ^ n.toNat:=Int.pow_pos (by decide);unfold ZL;split
 . have hv:=zBP _ ((hb.drop q.toNat).take n.toNat);refine ⟨hv.1,Int.lt_of_lt_of_le hv.2 (Yj ?_)⟩;rw [List.length_take];exact Nat.min_le_left _ _
 . exact ⟨Int.le_refl 0,h0⟩
theorem num_v {b : List Int} {q n : Int} (hb : BL b) : 0 <= (zB b q n).1.1 /\ (zB b q n).1.1 < 256 ^ n.toNat:=by
 unfold zB;split
 . exact uint_r hb
 . exact ⟨Int.le_refl 0,Int.pow_pos (by decide)⟩
theorem zw {b : List Int} {q n : Int} (h : RdOk b q) : RdOk b (zB b q n).2:=by
 have h1:=h.lo;have h2:=h.hi;have hU:=zBM (b:=b) (q:=q) (n:=n);unfold zB;split
 . rename_i g;have:=hU g;exact ⟨h.bl,h.len,by dsimp only;omega,by dsimp only;omega⟩
 . exact h
abbrev Yq (r : (Fin 16 -> Int) × Int) : FV:=.tup [.agg 16 ((eA .u8 16).cell r.1),.c (.int .i64 r.2)]
theorem qC (r : (Fin 16 -> Int) × Int) : zBN (Yq r):=zBO λx hx=>by
 rcases List.mem_cons.1 hx with rfl | hx
 . exact zDf λi=>(eA .u8 16).flat _ _
 . rcases List.mem_cons.1 hx with rfl | hx
   . exact Yr ZO
   . cases hx
theorem rip_ok (b : List Int) (q : Int) (hr : RdOk b q) : ze Tryz.prog 126 [] (qW true b q) (Yq (QT b q).1) (qW true b (QT b q).2):=by
 have h1:=hr.lo;have h2:=hr.hi;have h3:=hr.len;have w0 : IntKind.i64.wrap ((b.length : Int) - q) = b.length - q:=IntWalk.i64_in _ (by omega);obtain ⟨W,eW⟩ : ∃ W,QT b q = W:=⟨_,rfl⟩;rw [eW];unfold QT at eW;have e1 : IntKind.i64.wrap ((b.length : Int) - q) < 16 -> W = ((zI,4),q):=λh=>by rw [<- eW,if_pos (by rw [<- w0];exact h)]
 have e2 : ¬ IntKind.i64.wrap ((b.length : Int) - q) < 16 -> W = ((ipAt b q,0),q + 16):=λh=>by rw [<- eW,if_neg (by rw [<- w0];exact h)]
 clear eW;refine zR (wd:=1) (by decide) zM (zT zBo) zN Tryz.func126 rfl _ (by show 0 + 1 <= _;decide) (zZ (qC _)) (ZZ) ?_;repeat' (first | (apply And.intro<;>intro hc<;>(first | exact Bool.noConfusion hc | (simp only [Zi] at hc<;>first | exact absurd rfl hc | skip) | skip)) | (refine And.intro Za ?_) | (apply And.intro) | (intro s hs;skip))
 . rw [e1 ‹_›];exact ⟨zE ⟨zd (by repeat' (first | exact zw2 | refine zd ?_ | exact zH ‹_› | apply And.intro)),zA rfl,trivial⟩,ZK rfl⟩
 . rw [e2 ‹_›];refine ⟨zE ⟨qg rfl λi hi=>?_,zA rfl,trivial⟩,zh ⟨⟨trivial,qh (λ_=>rfl) rfl rfl λi _ j _=>qd rfl⟩,zA ?_⟩⟩
   . have hm : Nat.min (b.length - q.toNat) (16 - 0) = 16:=by
      show min (b.length - q.toNat) 16 = 16;omega
     iterate 16 (rcases i with _ | i;· exact zA (by rw [hm];rfl))
     exact absurd hi (by omega)
   . exact IntWalk.i64_in _ (by omega)
theorem zHT : ∀ y : Fin 256,(bits .and .i64 (y.1 : Int) 8 ≠ 0 ↔ qG y.1 8 = true) /\ (bits .and .i64 (y.1 : Int) 4 ≠ 0 ↔ qG y.1 4 = true) /\ (bits .and .i64 (y.1 : Int) 64 ≠ 0 ↔ qG y.1 64 = true) /\ (bits .and .i64 (y.1 : Int) 3 = y.1 % 4) /\ (bits .and .i64 (y.1 : Int) 128 ≠ 0 ↔ 128 <= (y.1 : Int)) /\ bits .and .i64 (y.1 / 16 : Int) 3 = y.1 / 16 % 4 /\ bits .and .i64 (y.1 / 8 : Int) 3 = y.1 / 8 % 4 /\ bits .and .i64 (y.1 : Int) 15 = y.1 % 16:=by decide +kernel
structure FcS (l : List Ctx) (a : Fin 16 -> Int) (now : Int) where
 i : Nat
 best : Ctx
 found : Bool
 hi : i <= l.length
 h1 : Zd l = true /\ vt now = true -> Qu a now (default,false) l = Qu a now (best,found) (l.drop i)
 h2 : ¬ (Zd l = true /\ vt now = true) -> (best,found) = (default,false)
theorem zIY (l : List Ctx) (a : Fin 16 -> Int) (now : Int) (hl : bytesL l) (ha : byteOk a) : zY Tryz.prog 85 [(qf zb zq).enc l,(cE (eA .u8 16)).enc a,(cI .i64).enc now] (zCg (Zc l a now)):=by
 have hn:=hl.n;refine zG (wd:=1) (by decide) zM (zT zFc) zN Tryz.func85 rfl _ (by show 3 <= _;decide) _ ?_;refine zp (ZE zFc) (λs : FcS l a now=>(⟨[(0,one (.sl false l.length zb.sz (zn zb l))),(2,one (.int .i64 now)),(4,one (.ptr 0 0 0 false)),(6,one (.ptr 1 0 0 false)),(8,one (.ptr 4 0 0 false)),(9,one (.bool s.found)),(10,one (.int .i64 (s.i : Int)))],
  [(0,some ⟨24,1,16,true,λ_=>(eA .u8 16).cell a⟩),(1,some ⟨60,1,20,true,λ_ _=>.top⟩),(4,some ⟨60,1,20,true,λ_=>zb.cell s.best⟩)],8⟩ : Hd)) (λs=>l.length - s.i) (λ_=>rfl) ?_ ⟨0,default,false,by omega,λ_=>rfl,λ_=>rfl⟩ [] ?_
 . rintro ⟨i,best,found,hi,h1,h2⟩;dsimp only at hi h1 h2 ⊢;have hV : ∀ s : Bool,s = Zd (Zw zb l.length (zn zb l)) -> s = Zd l:=λs h=>h.trans (congrArg Zd (zU l));repeat' (first | (apply And.intro<;>intro hc<;>(first | exact Bool.noConfusion hc | (simp only [qm] at hc) | skip)) | (refine And.intro Ql ?_) | (apply And.intro) | (intro s hs))
   . show bytesL (Zw zb l.length (zn zb l));rw [zU];exact hl
   . show byteOk (qS.rd λj=>zb.cell (l.getD i default) (1 + j)).ip;rw [YL];exact hl.b _ (zH1 (by omega))
   . show byteOk ((eA .u8 16).rd λq=>(eA .u8 16).cell a (0 + q));rw [YV];exact ha
   . rename_i sv hsv c0 st hst c1 c2 sc hsc c3 c4 c5;have v : Zd l = true /\ vt now = true:=⟨by rw [<- hV sv hsv];exact c0,by rw [<- (show st = vt now from hst)];exact c1⟩;have ec : sc = Qz (l.getD i default) now:=hsc.trans (by
      show Qz (zb.rd (zb.cell (l.getD i default))) now = _;rw [zAc])
     have en : s = pEq (qu a (l.getD i default).bits) (Zy (l.getD i default)):=hs.trans (by
      show zAH (qS.rd λj=>zb.cell (l.getD i default) (1 + j)) ((eA .u8 16).rd λq=>(eA .u8 16).cell a (0 + q)) = _;rw [YL,YV];rfl)
     have hb : QU a now (best,found) (l.getD i default) = true:=by
      unfold QU;rw [<- ec,<- en,c3,c4];simp [c5]
     refine ⟨⟨i + 1,l.getD i default,true,by omega,λ_=>?_,λh=>absurd v h⟩,[],by dsimp only;omega,rfl,?_,?_⟩
     . rw [h1 v,Qv _ _ _ (show i < l.length by omega),if_pos hb]
     . repeat' (first | exact qH | refine zF ?_ | refine zC ?_ | exact qI | apply And.intro)
       refine (IntWalk.i64_in _ ?_).trans ?_
       . constructor<;>omega
       . dsimp only;omega
     . repeat' (first | exact qH | refine zF ?_ | refine zC ?_ | exact qI | apply And.intro)
       all_goals (refine zh ?_;repeat' (first | exact zw2 | refine zd ?_ | exact zH ‹_› | apply And.intro))
   . rename_i sv hsv c0 st hst c1 c2 sc hsc c3 c4 c5;have v : Zd l = true /\ vt now = true:=⟨by rw [<- hV sv hsv];exact c0,by rw [<- (show st = vt now from hst)];exact c1⟩;have ec : sc = Qz (l.getD i default) now:=hsc.trans (by
      show Qz (zb.rd (zb.cell (l.getD i default))) now = _;rw [zAc])
     have en : s = pEq (qu a (l.getD i default).bits) (Zy (l.getD i default)):=hs.trans (by
      show zAH (qS.rd λj=>zb.cell (l.getD i default) (1 + j)) ((eA .u8 16).rd λq=>(eA .u8 16).cell a (0 + q)) = _;rw [YL,YV];rfl)
     have hb : QU a now (best,found) (l.getD i default) = true:=by
      unfold QU;rw [<- ec,<- en,c3,c4,show decide (best.bits < (l.getD i default).bits) = true from decide_eq_true hc];simp
     refine ⟨⟨i + 1,l.getD i default,true,by omega,λ_=>?_,λh=>absurd v h⟩,[],by dsimp only;omega,rfl,?_,?_⟩
     . rw [h1 v,Qv _ _ _ (show i < l.length by omega),if_pos hb]
     . repeat' (first | exact qH | refine zF ?_ | refine zC ?_ | exact qI | apply And.intro)
       refine (IntWalk.i64_in _ ?_).trans ?_
       . constructor<;>omega
       . dsimp only;omega
     . repeat' (first | exact qH | refine zF ?_ | refine zC ?_ | exact qI | apply And.intro)
       all_goals (refine zh ?_;repeat' (first | exact zw2 | refine zd ?_ | exact zH ‹_› | apply And.intro))
   . rename_i sv hsv c0 st hst c1 c2 sc hsc c3 c4 c5;have v : Zd l = true /\ vt now = true:=⟨by rw [<- hV sv hsv];exact c0,by rw [<- (show st = vt now from hst)];exact c1⟩;have hb : ¬ QU a now (best,found) (l.getD i default) = true:=by
      unfold QU;rw [show decide (best.bits < (l.getD i default).bits) = false from decide_eq_false hc];simp [c5]
     refine ⟨⟨i + 1,best,found,by omega,λ_=>?_,h2⟩,[],by dsimp only;omega,rfl,?_,?_⟩
     . rw [h1 v,Qv _ _ _ (show i < l.length by omega),if_neg hb]
     . repeat' (first | exact qH | refine zF ?_ | refine zC ?_ | exact qI | apply And.intro)
       refine (IntWalk.i64_in _ ?_).trans ?_
       . constructor<;>omega
       . dsimp only;omega
     . repeat' (first | exact qH | refine zF ?_ | refine zC ?_ | exact qI | apply And.intro)
       all_goals (refine zh ?_;repeat' (first | exact zw2 | refine zd ?_ | exact zH ‹_› | apply And.intro))
   . rename_i sv hsv c0 st hst c1 c2 sc hsc c3 c4;have v : Zd l = true /\ vt now = true:=⟨by rw [<- hV sv hsv];exact c0,by rw [<- (show st = vt now from hst)];exact c1⟩;have en : s = pEq (qu a (l.getD i default).bits) (Zy (l.getD i default)):=hs.trans (by
      show zAH (qS.rd λj=>zb.cell (l.getD i default) (1 + j)) ((eA .u8 16).rd λq=>(eA .u8 16).cell a (0 + q)) = _;rw [YL,YV];rfl)
     have hb : ¬ QU a now (best,found) (l.getD i default) = true:=by
      unfold QU;rw [<- en,c4];simp
     refine ⟨⟨i + 1,best,found,by omega,λ_=>?_,h2⟩,[],by dsimp only;omega,rfl,?_,?_⟩
     . rw [h1 v,Qv _ _ _ (show i < l.length by omega),if_neg hb]
     . repeat' (first | exact qH | refine zF ?_ | refine zC ?_ | exact qI | apply And.intro)
       refine (IntWalk.i64_in _ ?_).trans ?_
       . constructor<;>omega
       . dsimp only;omega
     . repeat' (first | exact qH | refine zF ?_ | refine zC ?_ | exact qI | apply And.intro)
       all_goals (refine zh ?_;repeat' (first | exact zw2 | refine zd ?_ | exact zH ‹_› | apply And.intro))
   . rename_i sv hsv c0 st hst c1 c2 c3 c4;have v : Zd l = true /\ vt now = true:=⟨by rw [<- hV sv hsv];exact c0,by rw [<- (show st = vt now from hst)];exact c1⟩;have ec : s = Qz (l.getD i default) now:=hs.trans (by
      show Qz (zb.rd (zb.cell (l.getD i default))) now = _;rw [zAc])
     have hb : ¬ QU a now (best,found) (l.getD i default) = true:=by
      unfold QU;rw [<- ec,c3];simp
     refine ⟨⟨i + 1,best,found,by omega,λ_=>?_,h2⟩,[],by dsimp only;omega,rfl,?_,?_⟩
     . rw [h1 v,Qv _ _ _ (show i < l.length by omega),if_neg hb]
     . repeat' (first | exact qH | refine zF ?_ | refine zC ?_ | exact qI | apply And.intro)
       refine (IntWalk.i64_in _ ?_).trans ?_
       . constructor<;>omega
       . dsimp only;omega
     . repeat' (first | exact qH | refine zF ?_ | refine zC ?_ | exact qI | apply And.intro)
       all_goals (refine zh ?_;repeat' (first | exact zw2 | refine zd ?_ | exact zH ‹_› | apply And.intro))
   . rename_i sv hsv c0 c1;have v : Zd l = true /\ vt now = true:=⟨by rw [<- hV sv hsv];exact c0,by rw [<- (show s = vt now from hs)];exact c1⟩;have hil : i = l.length:=by omega
     have e : Zc l a now = (best,found):=by
      rw [forCom_eq v.1 v.2,h1 v,hil,List.drop_length];rfl
     rw [e];refine Done.mk (zE ?_);repeat' (first | exact zw2 | refine zd ?_ | exact zH ‹_› | apply And.intro)
   . have v2 : vt now = false:=by rw [<- (show s = vt now from hs)];assumption
     have hnv : ¬ (Zd l = true /\ vt now = true):=by rw [v2];simp
     have e : Zc l a now = (best,found):=by rw [Zc,if_neg hnv,h2 hnv]
     rw [e];refine Done.mk (zE ?_);repeat' (first | exact zw2 | refine zd ?_ | exact zH ‹_› | apply And.intro)
   . have v1 : Zd l = false:=by rw [<- hV s hs];assumption
     have hnv : ¬ (Zd l = true /\ vt now = true):=by rw [v1];simp
     have e : Zc l a now = (best,found):=by rw [Zc,if_neg hnv,h2 hnv]
     rw [e];refine Done.mk (zE ?_);repeat' (first | exact zw2 | refine zd ?_ | exact zH ‹_› | apply And.intro)
 . refine ⟨rfl,?_,?_⟩
   . exact QI
   . repeat' (first | exact qH | refine zF ?_ | refine zC ?_ | exact qI | apply And.intro)
     all_goals (refine zh ?_;repeat' (first | exact zw2 | refine zd ?_ | exact zH ‹_› | apply And.intro))
theorem zFe {l : List Int} (hl : BL l) {i : Nat} (hi : i < l.length) (h8 : i < 8) {v : Int} (hv : v = l.getD i default) : IntKind.u64.wrap (zCZ .u64 (ZT (l.take i)) 8 + IntKind.u64.wrap v) = ZT (l.take (i + 1)):=by
 have hb:=zBP (l.take i) (hl.take i);have hp:=Yj (show (l.take i).length <= 7 by simp;omega);have hx:=hl.get i;rw [hv,shl8 _ ⟨hb.1,by omega⟩,show IntKind.u64.wrap (l.getD i default) = l.getD i default from IntWalk.u64_in _ (by omega),IntWalk.u64_in _ (by omega),QC hi,YJ]
theorem rsplit_ok (a : Fin 16 -> Int) (ha : byteOk a) : zY Tryz.prog 83 [(cE (eA .u8 16)).enc a] (encUU (zBX a)):=by
 have hA:=ipBL ha;have hD:=(ipBL ha).drop 8;refine zG (wd:=1) (by decide) zM (zT ZG) zN Tryz.func83 rfl _ (by show 1 <= _;decide) _ ?_;refine zp (ZE ZG) (λs : {i : Nat // i <= 8}=>(⟨[(1,one (.ptr 0 0 0 false)),(4,one (.int .u64 (ZT ((YN a).take s.1)))),(5,one (.int .u64 (ZT (((YN a).drop 8).take s.1)))),(6,one (.int .i64 (s.1 : Int)))],[(0,some ⟨24,1,16,true,λ_=>(eA .u8 16).cell a⟩)],6⟩ : Hd)) (λs=>8 - s.1) (λ_=>rfl) ?_ ⟨0,by omega⟩ [] ?_
 . rintro ⟨i,hi⟩;dsimp only at hi ⊢;have h8 : IntKind.i64.wrap (8 + (i : Int)) = 8 + i:=IntWalk.i64_in _ (by omega);repeat' (first | (apply And.intro<;>intro hc<;>(first | exact Bool.noConfusion hc | (simp only [qm] at hc) | skip)) | (refine And.intro Ql ?_) | (apply And.intro) | (intro s hs))
   all_goals first
    | (refine ⟨⟨i + 1,by omega⟩,[],by dsimp only;omega,rfl,?_,?_⟩
       . repeat' (first | exact qH | refine zF ?_ | refine zC ?_ | exact qI | apply And.intro)
         . exact zFe hA (by rw [Zh];omega) (by omega) (by rw [zCQ a (by omega)];exact congrArg (zQ a) (by omega))
         . exact zFe hD (by rw [List.length_drop,Zh];omega) (by omega) (by rw [zBm,zCQ a (by omega)];exact congrArg (zQ a) (by rw [h8];omega))
         . exact zaw
       . repeat' (first | exact qH | refine zF ?_ | refine zC ?_ | exact qI | apply And.intro)
         done)
    | skip
   . have h8' : i = 8:=by omega
     subst h8';refine Done.mk (zE ⟨zA rfl,zA ?_,trivial⟩);show ZT (((YN a).drop 8).take 8) = ZT ((YN a).drop 8);rw [List.take_of_length_le (by rw [List.length_drop,Zh];decide)]
 . refine ⟨rfl,?_,?_⟩
   . exact QI
   . exact QI
def LRa0 : Qb:=(83,some (ZH aIp (λa=>byteOk a.1) (λa=>zBX a.1) encUU)) :: LT2
theorem LRa0_ok : ZC Tryz.prog LRa0:=⟨zO ⟨_,Tryz.func83,rfl,by kernel_rfl⟩ λa h=>rsplit_ok a.1 h,zAX⟩
def zCh (a : Adr) : (Fin 16 -> Int) × Bool:=if (ZJ a).2 = true then (jn llP.ip (ZJ a).1,true) else (zI,false)
theorem rlink_ok (a : Adr) : zY Tryz.prog 46 [(cE ZF).enc a] (zHE (zCh a)):=by
 obtain ⟨J,eJ⟩ : ∃ J,zCh a = J:=⟨_,rfl⟩;rw [eJ];unfold zCh at eJ;obtain ⟨I,eI⟩ : ∃ x,ZJ a = x:=⟨_,rfl⟩;rw [eI] at eJ;have hO:=llP_of I.1;obtain ⟨K,eK⟩ : ∃ K,jn llP.ip I.1 = K:=⟨_,rfl⟩;rw [eK] at eJ hO;refine zG (wd:=1) (by decide) zM (zT LRa0_ok) zN Tryz.func46 rfl _ (by show 1 <= _;decide) _ ?_;repeat' (first | (apply And.intro<;>intro hc<;>(first | exact Bool.noConfusion hc | (simp only [Zi] at hc<;>first | exact absurd rfl hc | skip) | skip)) | (refine And.intro Za ?_) | (apply And.intro) | (intro s hs;(first | (have q : I = s:=(hs.trans ((congrArg ZJ (zt a)).trans eI)).symm;clear hs;subst q) | (have q : K = s:=(hs.trans hO).symm;clear hs;subst q))))
 all_goals first
  | (have e : J = (zI,false):=by rw [<- eJ];exact if_neg (λh=>Bool.noConfusion (h.symm.trans (by assumption : I.2 = false)))
     rw [e];exact Done.mk (zE ⟨zd (by repeat' (first | exact zw2 | refine zd ?_ | exact zH ‹_› | apply And.intro)),zH rfl,trivial⟩))
  | (have e : J = (K,true):=by rw [<- eJ];exact if_pos ‹_›
     rw [e];exact Done.mk (zE ⟨zd (by repeat' (first | exact zw2 | refine zd ?_ | exact zH ‹_› | apply And.intro)),zH rfl,trivial⟩))
  | skip
def LRa : Qb:=(46,some (ZH (AC.cons (cE ZF) AC.nil) (λ_=>True) (λa=>zCh a.1) zHE)) :: LRa0
theorem zHG : ZC Tryz.prog LRa:=⟨zO ⟨_,Tryz.func46,rfl,by kernel_rfl⟩ λa _=>rlink_ok a.1,LRa0_ok⟩
theorem rbit_ok (b : Bool) (v : Int) : zY Tryz.prog 54 [cB.enc b,(cI .i64).enc v] ((cI .i64).enc (qL b v)):=by
 refine zG (wd:=1) (by decide) zM (zT ZG) zN Tryz.func54 rfl _ (by show 2 <= _;decide) _ ?_;repeat' (first | (apply And.intro<;>intro hc<;>(first | exact Bool.noConfusion hc | (simp only [qm] at hc) | skip)) | (refine And.intro Ql ?_) | (apply And.intro) | (intro s hs))
 all_goals exact Done.mk (zF (by simp [qL, *]))
theorem rhops_ok (h : Int) : zY Tryz.prog 51 [(cI .u8).enc h] ((cI .i64).enc (zAB h)):=by
 refine zG (wd:=1) (by decide) zM (zT ZG) zN Tryz.func51 rfl _ (by show 1 <= _;decide) _ ?_;repeat' (first | (apply And.intro<;>intro hc<;>(first | exact Bool.noConfusion hc | (simp only [qm] at hc) | skip)) | (refine And.intro Ql ?_) | (apply And.intro) | (intro s hs))
 all_goals exact Done.mk (zF (by unfold zAB;simp [*]))
abbrev forComE : ZD:=ZH (AC.cons (qf zb zq) (AC.cons (cE (eA .u8 16)) (AC.cons (cI .i64) AC.nil))) (λa=>bytesL a.1 /\ byteOk a.2.1) (λa=>Zc a.1 a.2.1 a.2.2.1) zCg
def LJ0 : Qb:=(54,some (ZH (AC.cons cB (AC.cons (cI .i64) AC.nil)) (λ_=>True) (λa=>qL a.1 a.2.1) (cI .i64).enc)) ::
 (51,some (ZH (AC.cons (cI .u8) AC.nil) (λ_=>True) (λa=>zAB a.1) (cI .i64).enc)) ::
 (85,some forComE) :: (LQ1 ++ (LRa ++ (LA0 ++ LRp0)))
theorem zHF : ZC Tryz.prog LJ0:=⟨zO ⟨_,Tryz.func54,rfl,by kernel_rfl⟩ λa _=>rbit_ok a.1 a.2.1,zO ⟨_,Tryz.func51,rfl,by kernel_rfl⟩ λa _=>rhops_ok a.1,
 zO ⟨_,Tryz.func85,rfl,by kernel_rfl⟩ λa h=>zIY a.1 a.2.1 a.2.2.1 h.1 h.2,Qe zFc (Qe zHG (Qe LA0_ok zEg))⟩
theorem zGR (f t : Adr) (l : List Ctx) (now : Int) (hl : bytesL l) : zY Tryz.prog 49 [(cE ZF).enc f,(cE ZF).enc t,(qf zb zq).enc l,(cI .i64).enc now] ((cI .i64).enc (Zj f t l now)):=by
 obtain ⟨x,ex⟩ : ∃ x,ZQ f = x:=⟨_,rfl⟩;obtain ⟨y,ey⟩ : ∃ x,ZQ t = x:=⟨_,rfl⟩;obtain ⟨z,ez⟩ : ∃ x,Zd l = x:=⟨_,rfl⟩;obtain ⟨v,ev⟩ : ∃ x,vt now = x:=⟨_,rfl⟩;obtain ⟨W,eW⟩ : ∃ W,Zj f t l now = W:=⟨_,rfl⟩;rw [eW];unfold Zj at eW;rw [ex,ey,ez,ev] at eW;obtain ⟨g1,g2,g3⟩:=zg3;refine zG (wd:=1) (by decide) zM (zT zHF) zN Tryz.func49 rfl _ (by show 4 <= _;decide) _ ?_;repeat' (first | (apply And.intro<;>intro hc<;>(first | exact Bool.noConfusion hc | (simp only [Zi] at hc<;>first | exact absurd rfl hc | skip) | skip)) | (refine And.intro Za ?_) | (apply And.intro) | (intro s hs;(first | (clear g1;have q : x = s:=(hs.trans ((congrArg ZQ (zt f)).trans ex)).symm;clear hs;subst q) | (clear g2;have q : y = s:=(hs.trans ((congrArg ZQ (zt t)).trans ey)).symm;clear hs;subst q) | (clear g3;have q : z = s:=(hs.trans ((congrArg Zd (zU l)).trans ez)).symm;clear hs;subst q) | (have q : v = s:=(hs.trans ev).symm;clear hs;subst q))))
 all_goals first
  | exact Eq.mp (congrArg bytesL (zU l).symm) hl
  | (refine Done.mk (zF ?_)
     rw [<- eW];simp [*];done)
  | skip
theorem rflow_ok (p : Zz) (hf : 0 <= p.1.flow /\ p.1.flow < 4294967296) : zY Tryz.prog 50 [cPk.enc p] (zEH (Zx p)):=by
 have w1 : IntKind.u64.wrap p.1.flow = p.1.flow:=IntWalk.u64_in _ (by omega);have c0 : ¬ p.1.cls = 0 -> ¬ p.1.flow = 0 -> Zx p = (0,[p.1.cls] ++ qk p.1.flow 3):=λh g=>by unfold Zx;rw [if_pos ⟨h,g⟩]
 have c1 : p.1.cls = 0 -> ¬ p.1.flow = 0 -> Zx p = (1,[] ++ qk p.1.flow 3):=λh g=>by unfold Zx;rw [if_neg (λx=>x.1 h),if_pos g]
 have c2 : p.1.flow = 0 -> ¬ p.1.cls = 0 -> Zx p = (2,[p.1.cls]):=λh g=>by unfold Zx;rw [if_neg (λx=>x.2 h),if_neg (λx=>x h),if_pos g]
 have c3 : p.1.flow = 0 -> p.1.cls = 0 -> Zx p = (3,[]):=λh g=>by unfold Zx;rw [if_neg (λx=>x.2 h),if_neg (λx=>x h),if_neg (λx=>x g)]
 obtain ⟨W,eW⟩ : ∃ W,Zx p = W:=⟨_,rfl⟩;have eF : qk (IntKind.u64.wrap p.1.flow) 3 = qk p.1.flow 3:=by rw [w1]
 obtain ⟨B,eB'⟩ : ∃ B,qk p.1.flow 3 = B:=⟨_,rfl⟩;rw [eB'] at eF c0 c1;rw [eW] at c0 c1 c2 c3 ⊢;clear eW w1 eB';refine zG (wd:=1) (by decide) zM (zT zHF) zN Tryz.func50 rfl _ (by show 1 <= _;decide) _ ?_;repeat' (first | (apply And.intro<;>intro hc<;>(first | exact Bool.noConfusion hc | (exfalso;first | exact absurd (by assumption : p.1.flow = 0) hc | exact absurd hc (by assumption : ¬ p.1.flow = 0) | exact absurd (by assumption : p.1.cls = 0) hc | exact absurd hc (by assumption : ¬ p.1.cls = 0)) | (simp only [Zi] at hc<;>first | exact absurd rfl hc | (exfalso;first | exact absurd (by assumption : p.1.flow = 0) hc | exact absurd hc (by assumption : ¬ p.1.flow = 0) | exact absurd (by assumption : p.1.cls = 0) hc | exact absurd hc (by assumption : ¬ p.1.cls = 0)) | skip) | skip)) | (refine And.intro Za ?_) | (apply And.intro) | (intro s hs;(first | (have q : s = [p.1.cls] ++ B:=hs.trans (congrArg ([p.1.cls] ++ ·) eF);clear hs;subst q) | (have q : s = [] ++ B:=hs.trans (congrArg ([] ++ ·) eF);clear hs;subst q))))
 all_goals first
  | exact Nat.zero_le _
  | exact Nat.le_of_ble_eq_true rfl
  | (intro i hi
     rcases i with _ | i
     . exact rfl
     . exact absurd hi (by omega))
  | (rw [c0 ‹_› ‹_›]
     exact Done.mk (zE ⟨zA rfl,ZW rfl rfl,trivial⟩))
  | (rw [c1 ‹_› ‹_›]
     exact Done.mk (zE ⟨zA rfl,ZW rfl rfl,trivial⟩))
  | (rw [c3 ‹_› ‹_›]
     exact Done.mk (zE ⟨zA rfl,zW rfl,trivial⟩))
  | (rw [c2 ‹_› ‹_›]
     refine Done.mk (zE ⟨zA rfl,zX (l:=[p.1.cls]) rfl rfl rfl rfl (Nat.le_of_eq rfl) ⟨λk hk=>?_⟩,trivial⟩);iterate 1 (rcases k with _ | k;exact rfl)
     exact absurd hk (by show ¬ _ < 1;omega))
  | skip
theorem riids_ok (y : Int) (k : Adr) : zY Tryz.prog 84 [(cI .u64).enc y,(cE ZF).enc k] (zEH (QW y k)):=by
 have i3:=λh=>zHq (k:=k) (y:=y) h;have i2:=λh g=>iids_2 (k:=k) (y:=y) h g;have i1:=λh g=>iids_1 (k:=k) (y:=y) h g;obtain ⟨I,eI⟩ : ∃ x,ZJ k = x:=⟨_,rfl⟩;obtain ⟨W,eW⟩ : ∃ x,QW y k = x:=⟨_,rfl⟩;rw [eI,eW] at i1 i2 i3;rw [eW];clear eW;have g1:=trivial;refine zG (wd:=1) (by decide) zM (zT zHF) zN Tryz.func84 rfl _ (by show 2 <= _;decide) _ ?_;repeat' (first | (apply And.intro<;>intro hc<;>(first | exact Bool.noConfusion hc | (simp only [Zi] at hc<;>first | exact absurd rfl hc | skip) | skip)) | (refine And.intro Za ?_) | (apply And.intro) | (intro s hs;(first | (clear g1;have q : I = s:=(hs.trans ((congrArg ZJ (zt k)).trans eI)).symm;clear hs;subst q) | (have q : s = qk y 2:=hs;clear hs;subst q) | (have q : s = qk y 8:=hs;clear hs;subst q))))
 all_goals first
  | exact Nat.zero_le _
  | (rw [i3 (Prod.ext (by assumption : I.1 = y) (by assumption : I.2 = true))]
     exact Done.mk (zE ⟨zA rfl,zW rfl,trivial⟩))
  | (rw [i2 (λh=>Bool.noConfusion ((congrArg Prod.snd h).symm.trans (by assumption : I.2 = false))) ‹_›]
     exact Done.mk (zE ⟨zA rfl,ZW rfl rfl,trivial⟩))
  | (rw [i2 (λh=>(by assumption : ¬ I.1 = y) (congrArg Prod.fst h)) ‹_›]
     exact Done.mk (zE ⟨zA rfl,ZW rfl rfl,trivial⟩))
  | (rw [i1 (λh=>Bool.noConfusion ((congrArg Prod.snd h).symm.trans (by assumption : I.2 = false))) ‹_›]
     exact Done.mk (zE ⟨zA rfl,ZW rfl rfl,trivial⟩))
  | (rw [i1 (λh=>(by assumption : ¬ I.1 = y) (congrArg Prod.fst h)) ‹_›]
     exact Done.mk (zE ⟨zA rfl,ZW rfl rfl,trivial⟩))
  | skip
structure RzS (a : Fin 16 -> Int) (i j : Nat) where
 k : Nat
 hk : i <= k /\ k <= j
 h : ∀ q,i <= q -> q < k -> zQ a q = 0
theorem rzero_ok (a : Fin 16 -> Int) (i j : Nat) (hij : i <= j /\ j <= 16) : zY Tryz.prog 86 [(cE (eA .u8 16)).enc a,(cI .i64).enc (i : Int),(cI .i64).enc (j : Int)] (cB.enc (zr a i j)):=by
 obtain ⟨w,eW⟩ : ∃ w,zr a i j = w:=⟨_,rfl⟩;have w0 : ∀ k,i <= k -> k < j -> zQ a k ≠ 0 -> w = false:=λk h1 h2 h=>by rw [<- eW];exact zr_no h1 h2 (by omega) h
 have w1 : (∀ k,i <= k -> k < j -> zQ a k = 0) -> w = true:=λh=>by rw [<- eW];exact zr_of λk h1 h2 h3=>h k h1 h2
 rw [eW];clear eW;refine zG (wd:=1) (by decide) zM (zT ZG) zN Tryz.func86 rfl _ (by show 3 <= _;decide) _ ?_;refine zp (ZE ZG) (λs : RzS a i j=>(⟨[(2,one (.int .i64 (j : Int))),(3,one (.ptr 0 0 0 false)),(7,one (.int .i64 (s.k : Int)))],[(0,some ⟨24,1,16,true,λ_=>(eA .u8 16).cell a⟩)],5⟩ : Hd)) (λs=>j - s.k) (λ_=>rfl) ?_ ⟨i,by omega,λq h1 h2=>absurd h2 (by omega)⟩ [] ?_
 . rintro ⟨k,hk,h⟩;dsimp only at hk h ⊢;repeat' (first | (apply And.intro<;>intro hc<;>(first | exact Bool.noConfusion hc | (simp only [qm] at hc) | skip)) | (refine And.intro Ql ?_) | (apply And.intro) | (intro s hs))
   . rw [w0 k (by omega) (by omega) (λe=>hc ((congrArg (zQ a) (by omega)).trans e))];exact Done.mk (zC rfl)
   . refine ⟨⟨k + 1,by omega,λq h1 h2=>?_⟩,[],by dsimp only<;>omega,rfl,?_,?_⟩
     . by_cases e : q = k
       . rw [e];exact (congrArg (zQ a) (by omega)).trans hc
       . exact h q h1 (by omega)
     . repeat' (first | exact qH | refine zF ?_ | refine zC ?_ | exact qI | apply And.intro)
       exact zaw
     . exact QI
   . rw [w1 λq h1 h2=>h q h1 (by omega)];exact Done.mk (zC rfl)
 . refine ⟨rfl,?_,?_⟩
   . exact QI
   . exact QI
theorem rzero_okI (a : Fin 16 -> Int) (i j : Int) (h : 0 <= i /\ i <= j /\ j <= 16) : zY Tryz.prog 86 [(cE (eA .u8 16)).enc a,(cI .i64).enc i,(cI .i64).enc j] (cB.enc (zr a i.toNat j.toNat)):=by
 obtain ⟨m,rfl⟩ : ∃ m : Nat,i = m:=⟨i.toNat,by omega⟩;obtain ⟨n,rfl⟩ : ∃ n : Nat,j = n:=⟨j.toNat,by omega⟩;exact rzero_ok a m n (by omega)
abbrev rzeroE : ZD:=ZH (AC.cons (cE (eA .u8 16)) (AC.cons (cI .i64) (AC.cons (cI .i64) AC.nil))) (λa=>0 <= a.2.1 /\ a.2.1 <= a.2.2.1 /\ a.2.2.1 <= 16) (λa=>zr a.1 a.2.1.toNat a.2.2.1.toNat) cB.enc
def LJ1 : Qb:=(86,some rzeroE) :: (84,some (ZH (AC.cons (cI .u64) (AC.cons (cE ZF) AC.nil)) (λ_=>True) (λa=>QW a.1 a.2.1) zEH)) :: LJ0
theorem zFd : ZC Tryz.prog LJ1:=⟨zO ⟨_,Tryz.func86,rfl,by kernel_rfl⟩ λa h=>rzero_okI a.1 a.2.1 a.2.2.1 h,zO ⟨_,Tryz.func84,rfl,by kernel_rfl⟩ λa _=>riids_ok a.1 a.2.1,zHF⟩
theorem rgrp_ok (a : Fin 16 -> Int) : zY Tryz.prog 53 [(cE (eA .u8 16)).enc a] (encFmG (zBH a)):=by
 obtain ⟨z15,e15⟩ : ∃ x,zr a 2 15 = x:=⟨_,rfl⟩;obtain ⟨z13,e13⟩ : ∃ x,zr a 2 13 = x:=⟨_,rfl⟩;obtain ⟨z11,e11⟩ : ∃ x,zr a 2 11 = x:=⟨_,rfl⟩;obtain ⟨W,eW⟩ : ∃ W,zBH a = W:=⟨_,rfl⟩;rw [eW];unfold zBH at eW;rw [e15,e13,e11] at eW;have k1 : zQ a (0 + Int.toNat 1 * 1 + 0) = 2 -> z15 = true -> W = (⟨false,0,3⟩,[zQ a 15]):=λh g=>by rw [<- eW];exact if_pos ⟨h,g⟩
 have k0 : (¬ zQ a (0 + Int.toNat 1 * 1 + 0) = 2 \/ z15 = false) -> ¬ (zQ a 1 = 2 /\ z15 = true):=λh g=>h.elim (λh=>h g.1) (λh=>Bool.noConfusion (h.symm.trans g.2));have k2 : (¬ zQ a (0 + Int.toNat 1 * 1 + 0) = 2 \/ z15 = false) -> z13 = true -> W = (⟨false,0,2⟩,[zQ a 1,zQ a 13,zQ a 14,zQ a 15]):=λh g=>by rw [<- eW,if_neg (k0 h),if_pos g]
 have k3 : (¬ zQ a (0 + Int.toNat 1 * 1 + 0) = 2 \/ z15 = false) -> z13 = false -> z11 = true -> W = (⟨false,0,1⟩,[zQ a 1,zQ a 11,zQ a 12,zQ a 13,zQ a 14,zQ a 15]):=λh g g'=>by rw [<- eW,if_neg (k0 h),if_neg (λf=>Bool.noConfusion (g.symm.trans f)),if_pos g']
 have k4 : (¬ zQ a (0 + Int.toNat 1 * 1 + 0) = 2 \/ z15 = false) -> z13 = false -> z11 = false -> W = (⟨false,0,0⟩,YN a):=λh g g'=>by rw [<- eW,if_neg (k0 h),if_neg (λf=>Bool.noConfusion (g.symm.trans f)),if_neg (λf=>Bool.noConfusion (g'.symm.trans f))]
 clear eW k0;refine zG (wd:=1) (by decide) zM (zT zFd) zN Tryz.func53 rfl _ (by show 1 <= _;decide) _ ?_;repeat' (first | (apply And.intro<;>intro hc<;>(first | exact Bool.noConfusion hc | (simp only [Zi] at hc<;>first | exact absurd rfl hc | skip) | skip)) | (refine And.intro Za ?_) | (apply And.intro) | (intro s hs;(first | (have q : z15 = s:=(hs.trans ((congrArg (λb=>zr b 2 15) (YV a)).trans e15)).symm;clear hs;subst q) | (have q : z13 = s:=(hs.trans ((congrArg (λb=>zr b 2 13) (YV a)).trans e13)).symm;clear hs;subst q) | (have q : z11 = s:=(hs.trans ((congrArg (λb=>zr b 2 11) (YV a)).trans e11)).symm;clear hs;subst q))))
 all_goals first
  | (rw [k1 ‹_› ‹_›]
     refine Done.mk (ZS (zk rfl (λj hj=>?_) (zX (l:=[zQ a 15]) rfl rfl rfl rfl (Nat.le_of_eq rfl) ⟨λk hk=>?_⟩)))
     . iterate 3 (rcases j with _ | j;(first | exact zA rfl | exact zH rfl))
       exact absurd hj (by show ¬ _ < 3;omega)
     . iterate 1 (rcases k with _ | k;exact rfl)
       exact absurd hk (by show ¬ _ < 1;omega))
  | (rw [k2 (.inl ‹_›) ‹_›]
     refine Done.mk (ZS (zk rfl (λj hj=>?_) (zX (l:=[zQ a 1,zQ a 13,zQ a 14,zQ a 15]) rfl rfl rfl rfl (Nat.le_of_eq rfl) ⟨λk hk=>?_⟩)))
     . iterate 3 (rcases j with _ | j;(first | exact zA rfl | exact zH rfl))
       exact absurd hj (by show ¬ _ < 3;omega)
     . iterate 4 (rcases k with _ | k;exact rfl)
       exact absurd hk (by show ¬ _ < 4;omega))
  | (rw [k3 (.inl ‹_›) ‹_› ‹_›]
     refine Done.mk (ZS (zk rfl (λj hj=>?_) (zX (l:=[zQ a 1,zQ a 11,zQ a 12,zQ a 13,zQ a 14,zQ a 15]) rfl rfl rfl rfl (Nat.le_of_eq rfl) ⟨λk hk=>?_⟩)))
     . iterate 3 (rcases j with _ | j;(first | exact zA rfl | exact zH rfl))
       exact absurd hj (by show ¬ _ < 3;omega)
     . iterate 6 (rcases k with _ | k;exact rfl)
       exact absurd hk (by show ¬ _ < 6;omega))
  | (rw [k4 (.inl ‹_›) ‹_› ‹_›]
     refine Done.mk (ZS (zk rfl (λj hj=>?_) (zX (l:=YN a) rfl rfl rfl rfl (Nat.le_of_eq rfl) ⟨λk hk=>?_⟩)))
     . iterate 3 (rcases j with _ | j;(first | exact zA rfl | exact zH rfl))
       exact absurd hj (by show ¬ _ < 3;omega)
     . iterate 16 (rcases k with _ | k;exact rfl)
       exact absurd hk (by show ¬ _ < 16;omega))
  | (rw [k2 (.inr ‹_›) ‹_›]
     refine Done.mk (ZS (zk rfl (λj hj=>?_) (zX (l:=[zQ a 1,zQ a 13,zQ a 14,zQ a 15]) rfl rfl rfl rfl (Nat.le_of_eq rfl) ⟨λk hk=>?_⟩)))
     . iterate 3 (rcases j with _ | j;(first | exact zA rfl | exact zH rfl))
       exact absurd hj (by show ¬ _ < 3;omega)
     . iterate 4 (rcases k with _ | k;exact rfl)
       exact absurd hk (by show ¬ _ < 4;omega))
  | (rw [k3 (.inr ‹_›) ‹_› ‹_›]
     refine Done.mk (ZS (zk rfl (λj hj=>?_) (zX (l:=[zQ a 1,zQ a 11,zQ a 12,zQ a 13,zQ a 14,zQ a 15]) rfl rfl rfl rfl (Nat.le_of_eq rfl) ⟨λk hk=>?_⟩)))
     . iterate 3 (rcases j with _ | j;(first | exact zA rfl | exact zH rfl))
       exact absurd hj (by show ¬ _ < 3;omega)
     . iterate 6 (rcases k with _ | k;exact rfl)
       exact absurd hk (by show ¬ _ < 6;omega))
  | (rw [k4 (.inr ‹_›) ‹_› ‹_›]
     refine Done.mk (ZS (zk rfl (λj hj=>?_) (zX (l:=YN a) rfl rfl rfl rfl (Nat.le_of_eq rfl) ⟨λk hk=>?_⟩)))
     . iterate 3 (rcases j with _ | j;(first | exact zA rfl | exact zH rfl))
       exact absurd hj (by show ¬ _ < 3;omega)
     . iterate 16 (rcases k with _ | k;exact rfl)
       exact absurd hk (by show ¬ _ < 16;omega))
  | skip
theorem Yc {G : Nat -> CV} {a : Fin 16 -> Int} (h : ∀ j,j < 16 -> G j = (eA .u8 16).cell a j) : (eA .u8 16).rd G = a:=by
 funext q
 show qY (G q.1) = a q;rw [h q.1 q.2];show zQ a q.1 = a q;exact ZV _ q.2
theorem zDy {G : Nat -> CV} {p : Pfx} (h : ∀ j,j < 17 -> G j = qS.cell p j) : qS.rd G = p:=by
 have e : qS.rd G = qS.rd (qS.cell p):=by
  show Pfx.mk (λq : Fin 16=>qY (G (0 + q.1))) (qY (G 16)) = Pfx.mk (λq : Fin 16=>qY (qS.cell p (0 + q.1))) (qY (qS.cell p 16));rw [h 16 (by decide),show (λq : Fin 16=>qY (G (0 + q.1))) = (λq : Fin 16=>qY (qS.cell p (0 + q.1))) from funext λq=>congrArg qY (h (0 + q.1) (by omega))]
 exact e.trans (ePfx_rd p)
theorem runi_ok0 (a : Fin 16 -> Int) (k : Adr) (source : Bool) (l : List Ctx) (now : Int) (ha : byteOk a) (hl : bytesL l) (Z : source = true /\ zBk a zI = true) : zY Tryz.prog 52 [(cE (eA .u8 16)).enc a,(cE ZF).enc k,cB.enc source,(qf zb zq).enc l,(cI .i64).enc now] (zEG (QZ a k source l now)):=by
 rw [uni_0 Z];obtain ⟨Z1,Z2⟩:=Z;have Z3:=(zCT a).trans Z2;refine zG (wd:=1) (by decide) zM (zT zFd) zN Tryz.func52 rfl _ (by show 5 <= _;decide) _ ?_;repeat' (first | (apply And.intro<;>intro hc<;>(first | exact Bool.noConfusion hc | (exfalso;first | exact Bool.noConfusion (Z1.symm.trans hc) | exact Bool.noConfusion (Z3.symm.trans hc)) | (simp only [Zi] at hc<;>first | exact absurd rfl hc | (exfalso;first | exact Bool.noConfusion (Z1.symm.trans hc) | exact Bool.noConfusion (Z3.symm.trans hc)) | skip) | skip)) | (refine And.intro Za ?_) | (apply And.intro) | (intro s hs;skip))
 refine Done.mk (ZS (zk rfl (λj hj=>?_) (zW rfl)));iterate 3 (rcases j with _ | j;(first | exact zA rfl | exact zH rfl))
 exact absurd hj (by show ¬ _ < 3;omega)
theorem runi_ok1 (a : Fin 16 -> Int) (k : Adr) (source : Bool) (l : List Ctx) (now : Int) (ha : byteOk a) (hl : bytesL l) (Z : ¬ (source = true /\ zBk a zI = true)) : zY Tryz.prog 52 [(cE (eA .u8 16)).enc a,(cE ZF).enc k,cB.enc source,(qf zb zq).enc l,(cI .i64).enc now] (zEG (QZ a k source l now)):=by
 have u1:=λh=>uni_1 (k:=k) (l:=l) (now:=now) Z h;have u2:=λh g=>uni_2 (k:=k) (l:=l) (now:=now) Z h g;have u3:=λh g=>uni_3 (k:=k) (l:=l) (now:=now) Z h g;have hK : zBj a l now = ((Zc l a now).2 && decide ((Zc l a now).1.bits <= 64) && decide (hiF (Zc l a now).1.ip = hiF a)):=rfl;have hbC : (Zc l a now).2 = true -> byteOk (Zc l a now).1.ip:=λh=>hl.b _ (zDt h).2.2.1;have eS : zBX a = (hiF a,loF a):=rfl;have eS2 : zBX (Zc l a now).1.ip = (hiF (Zc l a now).1.ip,loF (Zc l a now).1.ip):=rfl;have Z3:=zCT a;obtain ⟨W,eW⟩ : ∃ W,QZ a k source l now = W:=⟨_,rfl⟩;rw [eW] at u1 u2 u3 ⊢;obtain ⟨C,eC⟩ : ∃ C,Zc l a now = C:=⟨_,rfl⟩;obtain ⟨Hi,eHi⟩ : ∃ x,hiF a = x:=⟨_,rfl⟩;obtain ⟨Lo,eLo⟩ : ∃ x,loF a = x:=⟨_,rfl⟩;obtain ⟨V,eV⟩ : ∃ x,zBj a l now = x:=⟨_,rfl⟩;obtain ⟨D,eD⟩ : ∃ x,QW (loF a) k = x:=⟨_,rfl⟩;rw [eLo] at eD;rw [eC] at eS2 hbC;obtain ⟨Hc,eHc⟩ : ∃ x,hiF C.1.ip = x:=⟨_,rfl⟩;obtain ⟨Lc,eLc⟩ : ∃ x,loF C.1.ip = x:=⟨_,rfl⟩;rw [eC,eV,eHc,eHi] at hK;rw [eHc,eLc] at eS2;rw [eHi,eLo] at eS;rw [eHi,eLo,eD] at u1;rw [eHi,eLo,eD,eV,eC] at u2;rw [eHi,eV] at u3;clear eW eV;have g1:=trivial;refine zG (wd:=1) (by decide) zM (zT zFd) zN Tryz.func52 rfl _ (by show 5 <= _;decide) _ ?_;repeat' (first | (apply And.intro<;>intro hc<;>(first | exact Bool.noConfusion hc | (exfalso;first | exact Z ⟨‹_›,(Z3.symm.trans hc)⟩ | exact absurd hc (by assumption : ¬ C.1.bits <= 64) | exact absurd (by assumption : C.1.bits <= 64) hc | exact absurd hc (by assumption : ¬ Hc = Hi) | exact absurd (by assumption : Hc = Hi) hc | exact Bool.noConfusion ((by assumption : C.2 = true).symm.trans hc) | exact Bool.noConfusion ((by assumption : C.2 = false).symm.trans hc)) | (simp only [Zi] at hc<;>first | exact absurd rfl hc | (exfalso;first | exact Z ⟨‹_›,(Z3.symm.trans hc)⟩ | exact absurd hc (by assumption : ¬ C.1.bits <= 64) | exact absurd (by assumption : C.1.bits <= 64) hc | exact absurd hc (by assumption : ¬ Hc = Hi) | exact absurd (by assumption : Hc = Hi) hc | exact Bool.noConfusion ((by assumption : C.2 = true).symm.trans hc) | exact Bool.noConfusion ((by assumption : C.2 = false).symm.trans hc)) | skip) | skip)) | (refine And.intro Za ?_) | (apply And.intro) | (intro s hs;(first | (clear g1;have q : (Hi,Lo) = s:=(hs.trans ((congrArg zBX (YV a)).trans eS)).symm;clear hs;subst q) | (have q : D = s:=(hs.trans ((congrArg (QW Lo) (zt k)).trans eD)).symm;clear hs;subst q) | (have q : C = s:=(hs.trans ((congr (congrArg (λl b=>Zc l b now) (zU l)) (YV a)).trans eC)).symm;clear hs;subst q) | (have q : s = (Hc,Lc):=(by (dsimp only at hs;refine hs.trans ((congrArg zBX (Yc (a:=C.1.ip) (λj hj=>?_))).trans eS2);(iterate 16 (rcases j with _ | j;exact rfl));exact absurd hj (by omega)));clear hs;subst q) | skip)))
 all_goals first
  | exact Eq.mp (congrArg byteOk (YV a).symm) ha
  | exact Eq.mp (congrArg bytesL (zU l).symm) hl
  | (dsimp only
     refine Eq.mp (congrArg byteOk (Yc (a:=C.1.ip) (λj hj=>?_)).symm) (hbC ‹_›);iterate 16 (rcases j with _ | j;exact rfl)
     exact absurd hj (by omega))
  | (rw [u1 ‹_›]
     refine Done.mk (ZS (zk rfl (λj hj=>?_) (qh (λ_=>rfl) rfl rfl (λi hi j hj=>qd rfl))));iterate 3 (rcases j with _ | j;(first | exact zA rfl | exact zH rfl))
     exact absurd hj (by show ¬ _ < 3;omega))
  | (rw [u2 ‹_› (hK.trans (by rw [show C.2 = true by assumption,decide_eq_true (show C.1.bits <= 64 by assumption),decide_eq_true (show Hc = Hi by assumption)];rfl))]
     refine Done.mk (ZS (zk rfl (λj hj=>?_) (qh (λ_=>rfl) rfl rfl (λi hi j hj=>qd rfl))));iterate 3 (rcases j with _ | j;(first | exact zA rfl | exact zH rfl))
     exact absurd hj (by show ¬ _ < 3;omega))
  | (rw [u3 ‹_› (hK.trans (by rw [show C.2 = false by assumption];rfl))]
     refine Done.mk (ZS (zk rfl (λj hj=>?_) (zX (l:=YN a) rfl rfl rfl rfl (Nat.le_of_eq rfl) ⟨λk hk=>?_⟩)))
     . iterate 3 (rcases j with _ | j;(first | exact zA rfl | exact zH rfl))
       exact absurd hj (by show ¬ _ < 3;omega)
     . iterate 16 (rcases k with _ | k;exact rfl)
       exact absurd hk (by show ¬ _ < 16;omega))
  | (rw [u3 ‹_› (hK.trans (by rw [show C.2 = true by assumption,decide_eq_false (show ¬ C.1.bits <= 64 by assumption)];rfl))]
     refine Done.mk (ZS (zk rfl (λj hj=>?_) (zX (l:=YN a) rfl rfl rfl rfl (Nat.le_of_eq rfl) ⟨λk hk=>?_⟩)))
     . iterate 3 (rcases j with _ | j;(first | exact zA rfl | exact zH rfl))
       exact absurd hj (by show ¬ _ < 3;omega)
     . iterate 16 (rcases k with _ | k;exact rfl)
       exact absurd hk (by show ¬ _ < 16;omega))
  | (rw [u3 ‹_› (hK.trans (by rw [decide_eq_false (show ¬ Hc = Hi by assumption),Bool.and_false]))]
     refine Done.mk (ZS (zk rfl (λj hj=>?_) (zX (l:=YN a) rfl rfl rfl rfl (Nat.le_of_eq rfl) ⟨λk hk=>?_⟩)))
     . iterate 3 (rcases j with _ | j;(first | exact zA rfl | exact zH rfl))
       exact absurd hj (by show ¬ _ < 3;omega)
     . iterate 16 (rcases k with _ | k;exact rfl)
       exact absurd hk (by show ¬ _ < 16;omega))
  | skip
theorem runi_ok (a : Fin 16 -> Int) (k : Adr) (source : Bool) (l : List Ctx) (now : Int) (ha : byteOk a) (hl : bytesL l) : zY Tryz.prog 52 [(cE (eA .u8 16)).enc a,(cE ZF).enc k,cB.enc source,(qf zb zq).enc l,(cI .i64).enc now] (zEG (QZ a k source l now)):=by
 by_cases Z : source = true /\ zBk a zI = true
 . exact runi_ok0 a k source l now ha hl Z
 . exact runi_ok1 a k source l now ha hl Z
def Yp (sh : Bool) (b : List Int) (q e : Int) : Ent:=⟨144,1,3,true,λ_ j=>bif Nat.beq j 0 then .sl sh b.length 1 (zn eB b) else bif Nat.beq j 1 then .int .i64 q else .int .i64 e⟩
theorem j3 {i j : Nat} (hi : i < 1) (hj : j < 3) : i = 0 /\ (j = 0 \/ j = 1 \/ j = 2):=by omega
theorem Yd {sh : Bool} {b : List Int} {q e : Int} : ∀ i,i < (Yp sh b q e).n -> ∀ j,j < (Yp sh b q e).sz -> NF ((Yp sh b q e).f i j):=by
 intro i hi j hj;obtain ⟨rfl,rfl | rfl | rfl⟩:=j3 hi hj
 . exact zC5
 . exact QS
 . exact QS
def rfE {α R : Type} (only : Bool) (A : AC α) (p : List Int -> Int -> Int -> α -> Prop) (F : List Int -> Int -> Int -> α -> R × Int × Int) (enc : R -> FV) : ZD:=λargs H _ _=>
 match args with
 | .e (.c (.ptr k 0 0 _)) :: rest=>
   match zP H k with
   | some ⟨t,en,es,v,g⟩=>
     match g 0 0,g 0 1,g 0 2 with
     | .sl sh n s f,.int .i64 q,.int .i64 e=>
       match A.dec H rest with
       | some (a,pq,rd)=>bif Nat.beq t 144 && Nat.beq en 1 && Nat.beq es 3 && v && Nat.beq s 1 && !(rd.any (Nat.beq k)) && (sh || !only) then
          some λK=>pAnd pq (∃ b : List Int,(n = b.length /\ f = zn eB b /\ p b q e a) /\ ∀ s,s = F b q e a -> K (enc s.1) [(k,some (Yp sh b s.2.1 s.2.2))] (k :: rd)) else none
       | none=>none
     | _,_,_=>none
   | none=>none
 | _=>none
theorem zEt {α R : Type} {only : Bool} {A : AC α} {p : List Int -> Int -> Int -> α -> Prop} {F : List Int -> Int -> Int -> α -> R × Int × Int} {enc : R -> FV} {P : Program} {f : FuncId} (hb : YS P f) (hfl : only = false -> ∀ r,zBN (enc r))
 (h : ∀ b q e a,p b q e a -> ze P f (A.enc a) (Yp true b q e) (enc (F b q e a).1) (Yp true b (F b q e a).2.1 (F b q e a).2.2)) : EntOk P f (rfE only A p F enc):=by
 refine ⟨λargs H nm wd q _ hq K hK=>?_,λargs H nm wd q hq K K' hKK hK=>?_⟩
 . unfold rfE at hq;split at hq
   . rename_i k s rest;split at hq
     . rename_i t en es v g he;split at hq
       . rename_i sh n s f q0 e0 hg0 hg1 hg2;split at hq
         . rename_i a pr rd hd;obtain ⟨hc,hq⟩:=ZN hq;subst hq;simp only [Bool.and_eq_true,Bool.not_eq_true'] at hc;obtain ⟨⟨⟨⟨⟨⟨c1,c2⟩,c3⟩,c4⟩,c5⟩,c6⟩,c7⟩:=hc;have c1:=Nat.eq_of_beq_eq_true c1;have c2:=Nat.eq_of_beq_eq_true c2;have c3:=Nat.eq_of_beq_eq_true c3;have c5:=Nat.eq_of_beq_eq_true c5;subst c1 c2 c3 c4 c5;have hkr : k ∉ rd:=λhm=>by
            have : rd.any (Nat.beq k) = true:=List.any_eq_true.2 ⟨k,hm,by simp⟩;rw [c6] at this;cases this
           obtain ⟨h1,b,⟨h2,h3,h4⟩,h5⟩:=QD.1 hK;subst h2 h3;have hm:=h b q0 e0 a h4;have hnf : ∀ i,i < 1 -> ∀ j,j < 3 -> NF (g i j):=λi hi j hj=>by
            obtain ⟨rfl,rfl | rfl | rfl⟩:=j3 hi hj
            . rw [hg0];exact zC5
            . rw [hg1];exact QS
            . rw [hg2];exact QS
           cases sh with
           | true=>
             refine ⟨_,_,_,zCl (e:=⟨144,1,3,true,g⟩) hb he rfl hkr hnf (λH' hh=>A.sound H H' rest a pr rd hd h1 hh) (zEw (e:=Yp true b q0 e0) rfl rfl rfl rfl (λi hi j hj=>?_) hm) rfl,h5 _ rfl⟩;obtain ⟨rfl,rfl | rfl | rfl⟩:=j3 hi hj
             . exact hg0
             . exact hg1
             . exact hg2
           | false=>
             have ho : only = false:=by simpa using c7
             refine ⟨_,_,_,zHU (e:=⟨144,1,3,true,g⟩) (eT:=Yp true b q0 e0) (eT':=Yp true b (F b q0 e0 a).2.1 (F b q0 e0 a).2.2) (e':=Yp false b (F b q0 e0 a).2.1 (F b q0 e0 a).2.2) hb he rfl hkr ?_ ?_ (hfl ho _) (λH' hh=>A.sound H H' rest a pr rd hd h1 hh) hm,h5 _ rfl⟩
             . intro r X W w o hp X' W' hX hW hE;refine QJ (e:=⟨144,1,3,true,g⟩) (e':=Yp true b q0 e0) rfl rfl rfl rfl (λi hi j hj u hu=>?_) hE;obtain ⟨rfl,rfl | rfl | rfl⟩:=j3 hi hj
               . have hu' : (CV.sl false b.length 1 (zn eB b)).rel r X W w u:=by rw [<- hg0];exact hu
                 exact sl_in hX hW hu'
               . have hu' : (CV.int .i64 q0).rel r X W w u:=by rw [<- hg1];exact hu
                 exact hu'
               . have hu' : (CV.int .i64 e0).rel r X W w u:=by rw [<- hg2];exact hu
                 exact hu'
             . intro r X X2 W W' w o hp hW hE;refine QJ (e:=Yp true b (F b q0 e0 a).2.1 (F b q0 e0 a).2.2) (e':=Yp false b (F b q0 e0 a).2.1 (F b q0 e0 a).2.2) rfl rfl rfl rfl (λi hi j hj u hu=>?_) hE;obtain ⟨rfl,rfl | rfl | rfl⟩:=j3 hi hj
               . exact sl_out hW hu
               . exact hu
               . exact hu
         . cases hq
       . cases hq
     . cases hq
   . cases hq
 . unfold rfE at hq;split at hq
   . split at hq
     . split at hq
       . split at hq
         . obtain ⟨hc,hq⟩:=ZN hq;subst hq;obtain ⟨h1,b,h2,h3⟩:=QD.1 hK;exact QD.2 ⟨h1,b,h2,λs hs=>hKK _ _ _ (h3 s hs)⟩
         . cases hq
       . cases hq
     . cases hq
   . cases hq
theorem Qd {c : Wc} {b : List Int} {q q' e e' : Int} (h : q = q') (h2 : e = e') : LeN c (Yp true b q e) (Yp true b q' e'):=
 zh ⟨⟨⟨trivial,qh (λ_=>rfl) rfl rfl λi _ j _=>qd rfl⟩,zA h⟩,zA h2⟩
def za (e : Int) (bad : Bool) (c : Int) : Int:=if bad = true /\ e = 0 then c else e
def ZY (b : List Int) (q e n : Int) : List Int × Int × Int:=
 if za e (decide (IntKind.i64.wrap ((b.length : Int) - q) < n)) 4 = 0 then ((b.drop q.toNat).take n.toNat,q + n,0) else (List.replicate n.toNat 0,q,za e (decide (IntKind.i64.wrap ((b.length : Int) - q) < n)) 4)
def ZM (b : List Int) (q e n : Int) : Int × Int × Int:=if e = 0 then ((zB b q n).1.1,(zB b q n).2,(zB b q n).1.2) else (0,q,e)
abbrev encU0 (_ : Unit) : FV:=.tup []
theorem zEu (r : Unit) : zBN (encU0 r):=zBO λx hx=>by cases hx
theorem fail_ok (b : List Int) (q e : Int) (bad : Bool) (c : Int) : ze Tryz.prog 101 [cB.enc bad,(cI .i64).enc c] (Yp true b q e) (encU0 ()) (Yp true b q (za e bad c)):=by
 obtain ⟨W,eW⟩ : ∃ W,za e bad c = W:=⟨_,rfl⟩;rw [eW];unfold za at eW;refine zR (wd:=1) (by decide) zM (zT ZG) zN Tryz.func101 rfl _ (by show 2 + 1 <= _;decide) (zZ (zEu _)) (Yd) ?_;repeat' (first | (apply And.intro<;>intro hc<;>(first | exact Bool.noConfusion hc | (exfalso;first | exact absurd rfl hc) | (simp only [Zi] at hc<;>first | exact absurd rfl hc | (exfalso;first | exact absurd rfl hc) | skip) | skip)) | (refine And.intro Za ?_) | (apply And.intro) | (intro s hs;skip))
 all_goals first
  | (have e : W = c:=by rw [<- eW];exact if_pos ⟨by assumption,by assumption⟩
     exact ⟨zE trivial,zh ⟨⟨⟨trivial,qh (λ_=>rfl) rfl rfl λi _ j _=>qd rfl⟩,zA rfl⟩,zA e.symm⟩⟩)
  | (have e : e = W:=by rw [<- eW];exact (if_neg (λh=>absurd h.2 ‹_›)).symm
     exact ⟨zE trivial,Qd rfl e⟩)
  | (have e : e = W:=by rw [<- eW];exact (if_neg (λh=>Bool.noConfusion (h.1.symm.trans (by assumption : bad = false)))).symm
     exact ⟨zE trivial,Qd rfl e⟩)
  | skip
abbrev failE : ZD:=rfE false (AC.cons cB (AC.cons (cI .i64) AC.nil)) (λ_ _ _ _=>True) (λb q e a=>((),q,za e a.1 a.2.1)) encU0
def LRe0 : Qb:=(101,some failE) :: LJ1
theorem LRe0_ok : ZC Tryz.prog LRe0:=⟨zEt ⟨_,Tryz.func101,rfl,by kernel_rfl⟩ (λ_ r=>zEu r) λb q e a _=>fail_ok b q e a.1 a.2.1,zFd⟩
abbrev encTk (l : List Int) : FV:=.e (.c (slR eB l))
theorem take_ok (b : List Int) (q e n : Int) (hr : RdOk b q) (hn : 0 <= n /\ n <= 16) : ze Tryz.prog 127 [(cI .i64).enc n] (Yp true b q e) (encTk (ZY b q e n).1) (Yp true b (ZY b q e n).2.1 (ZY b q e n).2.2):=by
 have h1:=hr.lo;have h2:=hr.hi;have h3:=hr.len;have w0 : IntKind.i64.wrap ((b.length : Int) - q) = b.length - q:=IntWalk.i64_in _ (by omega);have w1 : IntKind.i64.wrap (q + n) = q + n:=IntWalk.i64_in _ (by omega);have w2 : IntKind.i64.wrap (IntKind.i64.wrap (q + n) - n) = q:=by rw [w1];exact (IntWalk.i64_in _ (by omega)).trans (by omega)
 have hfit : za e (decide (IntKind.i64.wrap ((b.length : Int) - q) < n)) 4 = 0 -> n <= b.length - q:=λh=>by
  unfold za at h;split at h
  . cases h
  . rename_i g;by_cases g2 : IntKind.i64.wrap ((b.length : Int) - q) < n
    . exact absurd ⟨decide_eq_true g2,h⟩ g
    . omega
 obtain ⟨E,eE⟩ : ∃ E,za e (decide (IntKind.i64.wrap ((b.length : Int) - q) < n)) 4 = E:=⟨_,rfl⟩;obtain ⟨W,eW⟩ : ∃ W,ZY b q e n = W:=⟨_,rfl⟩;rw [eW];unfold ZY at eW;rw [eE] at eW hfit;have t1 : E = 0 -> W = ((b.drop q.toNat).take n.toNat,q + n,0):=λh=>by rw [<- eW,if_pos h]
 have t2 : ¬ E = 0 -> W = (List.replicate n.toNat 0,q,E):=λh=>by rw [<- eW,if_neg h]
 clear eW;refine zR (wd:=1) (by decide) zM (zT LRe0_ok) zN Tryz.func127 rfl _ (by show 1 + 1 <= _;decide) (nff_c (zE3 λi _ j _=>(eB.flat _ _).nf)) (Yd) ?_;repeat' (first | (apply And.intro<;>intro hc<;>(first | exact Bool.noConfusion hc | (exfalso;first | exact absurd rfl hc) | (simp only [Zi] at hc<;>first | exact absurd rfl hc | (exfalso;first | exact absurd rfl hc) | skip) | skip)) | (refine And.intro Za ?_) | (apply And.intro) | (refine Exists.intro b (And.intro ⟨rfl,rfl,by first | exact trivial⟩ ?_)) | (intro s hs;(first | (have q : s = ((),q,E):=hs.trans (congrArg (λx=>((),q,x)) eE);clear hs;subst q) | skip)))
 . rw [t2 ‹_›];refine ⟨qM (zX (l:=List.replicate n.toNat 0) rfl rfl rfl (List.length_replicate ..).symm (Nat.le_of_eq rfl) ⟨λk hk=>?_⟩),Qd rfl rfl⟩;rw [List.length_replicate] at hk;rw [List.getD_eq_getElem?_getD,List.getElem?_replicate,if_pos hk];rfl
 . rw [t1 ‹_›];have hf:=hfit ‹_›;refine ⟨qM (zX (l:=(b.drop q.toNat).take n.toNat) rfl rfl rfl ?_ (Nat.le_of_eq rfl) ⟨λk hk=>?_⟩),zh ⟨⟨⟨trivial,qh (λ_=>rfl) rfl rfl λi _ j _=>qd rfl⟩,zA w1⟩,zA ‹_›⟩⟩
   . show 0 + ((IntKind.i64.wrap (q + n)).toNat - (IntKind.i64.wrap (IntKind.i64.wrap (q + n) - n)).toNat) = _;rw [w2,w1,List.length_take,List.length_drop];omega
   . rw [List.length_take,List.length_drop] at hk;refine congrArg (CV.int .u8) (?_ : b.getD ((IntKind.i64.wrap (IntKind.i64.wrap (q + n) - n)).toNat + (0 + k - 0)) default = _);rw [w2,zBd _ _ _ _ (by omega) (by omega)];exact congrArg (λi=>b.getD i default) (by omega)
theorem uint_take {b : List Int} {q e n : Int} (hr : RdOk b q) (hn : 1 <= n /\ n <= 8) : (ZL (ZY b q e n).1 0 n).1 = (ZM b q e n).1 /\ (ZY b q e n).2 = (ZM b q e n).2:=by
 have h1:=hr.lo;have h2:=hr.hi;have h3:=hr.len;have w0 : IntKind.i64.wrap ((b.length : Int) - q) = b.length - q:=IntWalk.i64_in _ (by omega);have hz : ∀ m : Nat,ZT (List.replicate m 0) = 0:=λm=>by
  induction m with
  | zero=>rfl
  | succ m ih=>rw [List.replicate_succ',YJ,ih];rfl
 have hrep : (ZL (List.replicate n.toNat 0) 0 n).1 = 0:=by
  unfold ZL;rw [if_pos (by rw [List.length_replicate];omega)];show ZT (((List.replicate n.toNat 0).drop 0).take n.toNat) = 0;rw [List.drop_zero,List.take_of_length_le (by rw [List.length_replicate];exact Nat.le_refl _)];exact hz _
 unfold ZY ZM;rw [w0];by_cases he : e = 0
 . subst he;rw [if_pos rfl];by_cases hf : (b.length : Int) - q < n
   . have e1 : za 0 (decide ((b.length : Int) - q < n)) 4 = 4:=if_pos ⟨decide_eq_true hf,rfl⟩;have e2 : zB b q n = ((0,4),q):=by
      unfold zB;rw [if_neg];intro h;have:=zBM h;omega
     rw [e1,if_neg (by decide),e2];exact ⟨hrep,rfl⟩
   . have e1 : za 0 (decide ((b.length : Int) - q < n)) 4 = 0:=if_neg (λh=>hf (of_decide_eq_true h.1));have hlen : ((b.drop q.toNat).take n.toNat).length = n.toNat:=by rw [List.length_take,List.length_drop];omega
     have e3 : ZL b q n = (ZT ((b.drop q.toNat).take n.toNat),true):=by
      unfold ZL;rw [if_pos (by omega)]
     have e2 : zB b q n = ((ZT ((b.drop q.toNat).take n.toNat),0),q + n):=by
      unfold zB;rw [e3];exact if_pos rfl
     rw [e1,if_pos rfl,e2];refine ⟨?_,rfl⟩;unfold ZL;rw [if_pos (by rw [hlen];omega)];show ZT ((((b.drop q.toNat).take n.toNat).drop 0).take n.toNat) = ZT ((b.drop q.toNat).take n.toNat);rw [List.drop_zero,List.take_of_length_le (by rw [hlen];exact Nat.le_refl _)]
 . have e1 : za e (decide ((b.length : Int) - q < n)) 4 = e:=if_neg (λh=>he h.2);rw [e1,if_neg he,if_neg he];exact ⟨hrep,rfl⟩
abbrev takeE : ZD:=rfE true (AC.cons (cI .i64) AC.nil) (λb q e a=>RdOk b q /\ 0 <= a.1 /\ a.1 <= 16) (λb q e a=>ZY b q e a.1) encTk
def LRe1 : Qb:=(127,some takeE) :: LRe0
theorem LRe1_ok : ZC Tryz.prog LRe1:=⟨zEt ⟨_,Tryz.func127,rfl,by kernel_rfl⟩ (λh=>by cases h) λb q e a h=>take_ok b q e a.1 h.1 h.2,LRe0_ok⟩
theorem take_BL {b : List Int} {q e n : Int} (hb : BL b) : BL (ZY b q e n).1:=by
 unfold ZY;split
 . exact (hb.drop _).take _
 . exact bl_rep _
theorem take_len {b : List Int} {q e n : Int} (hn : n <= 16) : (ZY b q e n).1.length <= 16:=by
 unfold ZY;split
 . dsimp only;rw [List.length_take];omega
 . dsimp only;rw [List.length_replicate];omega
abbrev encUn (v : Int) : FV:=.e (.c (.int .u64 v))
theorem zIG (b : List Int) (q e n : Int) (hr : RdOk b q) (hn : 1 <= n /\ n <= 8) : ze Tryz.prog 100 [(cI .i64).enc n] (Yp true b q e) (encUn (ZM b q e n).1) (Yp true b (ZM b q e n).2.1 (ZM b q e n).2.2):=by
 obtain ⟨u1,u2⟩:=uint_take (e:=e) hr hn;have hB:=take_BL (q:=q) (e:=e) (n:=n) hr.bl;have hL:=take_len (b:=b) (q:=q) (e:=e) (n:=n) (by omega);obtain ⟨W,eW⟩ : ∃ W,ZM b q e n = W:=⟨_,rfl⟩;obtain ⟨Tk,eT⟩ : ∃ x,ZY b q e n = x:=⟨_,rfl⟩;rw [eW,eT] at u1 u2;rw [eT] at hB hL;rw [eW,<- u2];obtain ⟨U,eU⟩ : ∃ x,ZL Tk.1 0 n = x:=⟨_,rfl⟩;rw [eU] at u1;have g1:=trivial;refine zR (wd:=1) (by decide) zM (zT LRe1_ok) zN Tryz.func100 rfl _ (by show 1 + 1 <= _;decide) (zZ (zET (Yr ZO))) (Yd) ?_;repeat' (first | (apply And.intro<;>intro hc<;>(first | exact Bool.noConfusion hc | (exfalso;first | exact absurd rfl hc) | (simp only [Zi] at hc<;>first | exact absurd rfl hc | (exfalso;first | exact absurd rfl hc) | skip) | skip)) | (refine And.intro Za ?_) | (apply And.intro) | (refine Exists.intro b (And.intro ⟨rfl,rfl,by first | exact ⟨hr,by omega,by omega⟩⟩ ?_)) | (intro s hs;(first | (clear g1;have q : Tk = s:=(hs.trans eT).symm;clear hs;subst q) | (have q : U = s:=(hs.trans ((congrArg (λl=>ZL l 0 n) (zx Tk.1)).trans eU)).symm;clear hs;subst q) | skip)))
 all_goals first
  | exact Eq.mp (congrArg BL (zx Tk.1).symm) hB
  | (show (Zw eB Tk.1.length _).length <= _;rw [zS];omega)
  | exact ⟨zF u1,Qd rfl rfl⟩
  | skip
abbrev ruintE14 : ZD:=rfE false (AC.cons (cI .i64) AC.nil) (λb q e a=>RdOk b q /\ 1 <= a.1 /\ a.1 <= 8) (λb q e a=>ZM b q e a.1) encUn
def LRe2 : Qb:=(100,some ruintE14) :: LRe1
theorem LRe2_ok : ZC Tryz.prog LRe2:=⟨zEt ⟨_,Tryz.func100,rfl,by kernel_rfl⟩ (λ_ r=>zET (Yr ZO)) λb q e a h=>zIG b q e a.1 h.1 h.2,LRe1_ok⟩
def fdI (l : List Ctx) (id now : Int) (i : Nat) : Ctx × Bool:=if Zd l = true /\ vt now = true then qc id now (l.drop i) else (default,false)
theorem zIZ (l : List Ctx) (id now : Int) (hl : bytesL l) : zY Tryz.prog 128 [(qf zb zq).enc l,(cI .i64).enc id,(cI .i64).enc now] (zCg (zK l id now)):=by
 have hn:=hl.n;refine zG (wd:=1) (by decide) zM (zT zFc) zN Tryz.func128 rfl _ (by show 3 <= _;decide) _ ?_;refine zp (ZE zFc) (λi : {i : Nat // i <= l.length /\ zK l id now = fdI l id now i}=>(⟨[(0,one (.sl false l.length zb.sz (zn zb l))),(1,one (.int .i64 id)),(2,one (.int .i64 now)),(6,one (.ptr 0 0 0 false)),(8,one (.int .i64 (i.1 : Int)))],
  [(0,some ⟨60,1,20,true,λ_ _=>.top⟩)],5⟩ : Hd)) (λi=>l.length - i.1) (λ_=>rfl) ?_ ⟨0,by omega,rfl⟩ [] ?_
 . rintro ⟨i,hi,hv⟩;dsimp only at hi hv ⊢;have hV : ∀ s : Bool,s = Zd (Zw zb l.length (zn zb l)) -> s = Zd l:=λs h=>h.trans (congrArg Zd (zU l));repeat' (first | (apply And.intro<;>intro hc<;>(first | exact Bool.noConfusion hc | (simp only [qm] at hc) | skip)) | (refine And.intro Ql ?_) | (apply And.intro) | (intro s hs))
   . show bytesL (Zw zb l.length (zn zb l));rw [zU];exact hl
   . rename_i sv hsv c0 st hst c1 c2 c3;have v1 : Zd l = true:=by rw [<- hV sv hsv];exact c0
     have v2 : vt now = true:=by rw [<- (show st = vt now from hst)];exact c1
     have hd : s = zAt (l.getD i default) now:=hs.trans (by
      show zAt (zb.rd (zb.cell (l.getD i default))) now = _;rw [zAc])
     have e : zK l id now = (l.getD i default,true):=by
      rw [hv,fdI,if_pos ⟨v1,v2⟩,qy (by omega),qc,if_pos ⟨c3,by rw [<- hd];exact hc⟩]
     rw [e];refine Done.mk (zE ?_);repeat' (first | exact zw2 | refine zd ?_ | exact zH ‹_› | apply And.intro)
   . rename_i sv hsv c0 st hst c1 c2 c3;have v1 : Zd l = true:=by rw [<- hV sv hsv];exact c0
     have v2 : vt now = true:=by rw [<- (show st = vt now from hst)];exact c1
     have hd : s = zAt (l.getD i default) now:=hs.trans (by
      show zAt (zb.rd (zb.cell (l.getD i default))) now = _;rw [zAc])
     refine ⟨⟨i + 1,by omega,?_⟩,[],by dsimp only;omega,rfl,?_,?_⟩
     . rw [hv,fdI,fdI,if_pos ⟨v1,v2⟩,if_pos ⟨v1,v2⟩,qy (show i < l.length by omega),qc,if_neg (by rw [<- hd,hc];simp)]
     . repeat' (first | exact qH | refine zF ?_ | refine zC ?_ | exact qI | apply And.intro)
       refine (IntWalk.i64_in _ ?_).trans ?_
       . constructor<;>omega
       . dsimp only;omega
     . exact QI
   . rename_i sv hsv c0 c1 c2 c3;have v1 : Zd l = true:=by rw [<- hV sv hsv];exact c0
     have v2 : vt now = true:=by rw [<- (show s = vt now from hs)];exact c1
     have hne : (l.getD i default).id ≠ id:=c3;refine ⟨⟨i + 1,by omega,?_⟩,[],by dsimp only;omega,rfl,?_,?_⟩
     . rw [hv,fdI,fdI,if_pos ⟨v1,v2⟩,if_pos ⟨v1,v2⟩,qy (show i < l.length by omega),qc,if_neg (λh=>hne h.1)]
     . repeat' (first | exact qH | refine zF ?_ | refine zC ?_ | exact qI | apply And.intro)
       refine (IntWalk.i64_in _ ?_).trans ?_
       . constructor<;>omega
       . dsimp only;omega
     . exact QI
   . have hil : i = l.length:=by omega
     have e : zK l id now = (default,false):=by
      rw [hv,fdI,hil,List.drop_length];split<;>rfl
     rw [e];refine Done.mk (zE ?_);repeat' (first | exact zw2 | refine zd ?_ | exact zH ‹_› | apply And.intro)
   . have v2 : vt now = false:=by rw [<- (show s = vt now from hs)];assumption
     have e : zK l id now = (default,false):=by
      rw [hv,fdI,if_neg (by rw [v2];simp)]
     rw [e];refine Done.mk (zE ?_);repeat' (first | exact zw2 | refine zd ?_ | exact zH ‹_› | apply And.intro)
   . have v1 : Zd l = false:=by rw [<- hV s hs];assumption
     have e : zK l id now = (default,false):=by
      rw [hv,fdI,if_neg (by rw [v1];simp)]
     rw [e];refine Done.mk (zE ?_);repeat' (first | exact zw2 | refine zd ?_ | exact zH ‹_› | apply And.intro)
 . refine ⟨rfl,?_,?_⟩
   . exact QI
   . exact QI
abbrev numE : ZD:=rdE (AC.cons (cI .i64) AC.nil) (λb q a=>RdOk b q /\ 1 <= a.1 /\ a.1 <= 16) (λb q a=>zB b q a.1) encRN
abbrev ripE : ZD:=rdE AC.nil (λb q _=>RdOk b q) (λb q _=>QT b q) Yq
def LRd0 : Qb:=(122,some numE) :: (126,some ripE) :: (109,some (ZH AC.nil (λ_=>True) (λ_=>llP) (cE qS).enc)) :: LOc2
theorem zDY : ZC Tryz.prog LRd0:=⟨zDg ⟨_,Tryz.func122,rfl,by kernel_rfl⟩ (λr=>zEv r) λb q a h=>number_ok b q a.1 h.1 h.2,zDg ⟨_,Tryz.func126,rfl,by kernel_rfl⟩ (λr=>qC r) λb q a h=>rip_ok b q h,zO ⟨_,Tryz.func109,rfl,by kernel_rfl⟩ λ_ _=>llp_ok,zHA⟩
abbrev encR3 (r : I3 × Int) : FV:=.tup [.c (.int .i64 r.1.1),.c (.int .i64 r.1.2.1),.c (.int .i64 r.1.2.2),.c (.int .i64 r.2)]
theorem zFf (r : I3 × Int) : zBN (encR3 r):=zBO λx hx=>by
 rcases List.mem_cons.1 hx with rfl | hx
 . exact Yr ZO
 rcases List.mem_cons.1 hx with rfl | hx
 . exact Yr ZO
 rcases List.mem_cons.1 hx with rfl | hx
 . exact Yr ZO
 rcases List.mem_cons.1 hx with rfl | hx
 . exact Yr ZO
 . cases hx
theorem ZU {b : List Int} {q : Int} (hb : BL b) : 0 <= (zB b q 1).1.1 /\ (zB b q 1).1.1 < 256:=by
 have:=num_v (q:=q) (n:=1) hb;exact this
theorem bad_iff {y : Int} (h : 0 <= y /\ y < 256) : zBW y = true ↔ ¬ bits .and .i64 y 4 = 0 /\ (¬ bits .and .i64 y 8 = 0 \/ bits .and .i64 y 3 = 0):=by
 obtain ⟨m,rfl⟩ : ∃ m : Nat,y = m:=⟨y.toNat,by omega⟩;obtain ⟨a1,a2,_,a3,_⟩:=zHT ⟨m,by omega⟩;unfold zBW;rw [Bool.and_eq_true,Bool.or_eq_true,decide_eq_true_eq];show _ ↔ bits .and .i64 (m : Int) 4 ≠ 0 /\ (bits .and .i64 (m : Int) 8 ≠ 0 \/ bits .and .i64 (m : Int) 3 = 0);rw [a1,a2,show bits .and .i64 (m : Int) 3 = m % 4 from a3]
theorem b128_iff {y : Int} (h : 0 <= y /\ y < 256) : 128 <= y ↔ ¬ bits .and .i64 y 128 = 0:=by
 obtain ⟨m,rfl⟩ : ∃ m : Nat,y = m:=⟨y.toNat,by omega⟩;obtain ⟨_,_,_,_,a,_⟩:=zHT ⟨m,by omega⟩;exact a.symm
theorem start_ok (b : List Int) (q : Int) (hr : RdOk b q) : ze Tryz.prog 91 [] (qW true b q) (encR3 (qR b q).1) (qW true b (qR b q).2):=by
 have v1:=ZU (q:=q) hr.bl;have r1:=zw (n:=1) hr;have v2:=ZU (q:=(zB b q 1).2) hr.bl;have r2:=zw (n:=1) r1;have v3:=ZU (q:=(zB b (zB b q 1).2 1).2) hr.bl;have r3:=zw (n:=1) r2;have eW : qR b q = qR b q:=rfl;conv at eW=>rhs;unfold qR zo
 obtain ⟨W,hW⟩ : ∃ W,qR b q = W:=⟨_,rfl⟩;rw [hW] at eW ⊢;dsimp only at eW;obtain ⟨N1,e1⟩ : ∃ x,zB b q 1 = x:=⟨_,rfl⟩;rw [e1] at v1 r1 v2 r2 v3 r3 eW;obtain ⟨N2,e2⟩ : ∃ x,zB b N1.2 1 = x:=⟨_,rfl⟩;rw [e2] at v2 r2 v3 r3 eW;obtain ⟨N3,e3⟩ : ∃ x,zB b N2.2 1 = x:=⟨_,rfl⟩;rw [e3] at v3 r3 eW;have w1 : IntKind.i64.wrap N1.1.1 = N1.1.1:=IntWalk.i64_in _ (by omega);have w2 : IntKind.i64.wrap N2.1.1 = N2.1.1:=IntWalk.i64_in _ (by omega);have w3 : IntKind.i64.wrap N3.1.1 = N3.1.1:=IntWalk.i64_in _ (by omega);have hbad : zBW N2.1.1 = true ↔ ¬ bits .and .i64 (IntKind.i64.wrap N2.1.1) 4 = 0 /\ (¬ bits .and .i64 (IntKind.i64.wrap N2.1.1) 8 = 0 \/ bits .and .i64 (IntKind.i64.wrap N2.1.1) 3 = 0):=by rw [w2];exact bad_iff v2
 have h128 : 128 <= N2.1.1 ↔ ¬ bits .and .i64 (IntKind.i64.wrap N2.1.1) 128 = 0:=by rw [w2];exact b128_iff v2
 have f1 : ¬ N1.1.2 = 0 -> W = ((z3,N1.1.2),N1.2):=λh=>by rw [eW,if_neg h]
 have f2 : N1.1.2 = 0 -> N1.1.1 < 96 \/ 127 < N1.1.1 -> W = ((z3,5),N1.2):=λh g=>by rw [eW,if_pos h,if_pos g]
 have f3 : N1.1.2 = 0 -> ¬ (N1.1.1 < 96 \/ 127 < N1.1.1) -> ¬ N2.1.2 = 0 -> W = ((z3,N2.1.2),N2.2):=λh g i=>by rw [eW,if_pos h,if_neg g,if_neg i]
 have f4 : N1.1.2 = 0 -> ¬ (N1.1.1 < 96 \/ 127 < N1.1.1) -> N2.1.2 = 0 -> zBW N2.1.1 = true -> W = ((z3,5),N2.2):=λh g i j=>by rw [eW,if_pos h,if_neg g,if_pos i,if_pos j]
 have f5 : N1.1.2 = 0 -> ¬ (N1.1.1 < 96 \/ 127 < N1.1.1) -> N2.1.2 = 0 -> ¬ zBW N2.1.1 = true -> ¬ 128 <= N2.1.1 -> W = (((N1.1.1,N2.1.1,0),0),N2.2):=λh g i j k=>by rw [eW,if_pos h,if_neg g,if_pos i,if_neg j,if_neg k]
 have f6 : N1.1.2 = 0 -> ¬ (N1.1.1 < 96 \/ 127 < N1.1.1) -> N2.1.2 = 0 -> ¬ zBW N2.1.1 = true -> 128 <= N2.1.1 -> ¬ N3.1.2 = 0 -> W = ((z3,N3.1.2),N3.2):=λh g i j k l=>by rw [eW,if_pos h,if_neg g,if_pos i,if_neg j,if_pos k,if_neg l]
 have f7 : N1.1.2 = 0 -> ¬ (N1.1.1 < 96 \/ 127 < N1.1.1) -> N2.1.2 = 0 -> ¬ zBW N2.1.1 = true -> 128 <= N2.1.1 -> N3.1.2 = 0 -> W = (((N1.1.1,N2.1.1,N3.1.1),0),N3.2):=λh g i j k l=>by rw [eW,if_pos h,if_neg g,if_pos i,if_neg j,if_pos k,if_pos l]
 clear eW;clear hW;obtain ⟨g1,g2,g3⟩:=zg3;refine zR (wd:=1) (by decide) zM (zT zDY) zN Tryz.func91 rfl _ (by show 0 + 1 <= _;decide) (zZ (zFf _)) (ZZ) ?_;repeat' (first | (apply And.intro<;>intro hc<;>(first | exact Bool.noConfusion hc | (exfalso;first | exact absurd rfl hc) | (simp only [Zi] at hc<;>first | exact absurd rfl hc | (exfalso;first | exact absurd rfl hc) | skip) | skip)) | (refine And.intro Za ?_) | (apply And.intro) | (refine Exists.intro b (And.intro ⟨rfl,rfl,by first | exact ⟨by assumption,by decide,by decide⟩⟩ ?_)) | (intro s hs;(first | (clear g1;have q : N1 = s:=(hs.trans e1).symm;clear hs;subst q) | (clear g2;have q : N2 = s:=(hs.trans e2).symm;clear hs;subst q) | (clear g3;have q : N3 = s:=(hs.trans e3).symm;clear hs;subst q) | skip)))
 all_goals first
  | ((first | rw [f1 ‹_›] | rw [f2 ‹_› (by omega)] | rw [f3 ‹_› (by omega) ‹_›] | rw [f4 ‹_› (by omega) ‹_› (hbad.2 ⟨by assumption,.inl ‹_›⟩)] | rw [f4 ‹_› (by omega) ‹_› (hbad.2 ⟨by assumption,.inr ‹_›⟩)])
     exact ⟨zE ⟨zA rfl,zA rfl,zA rfl,zA rfl,trivial⟩,ZK rfl⟩)
  | (rw [f5 ‹_› (by omega) ‹_› (λh=>(hbad.1 h).1 ‹_›) (λh=>absurd ‹_› (h128.1 h))]
     exact ⟨zE ⟨zA w1,zA w2,zA rfl,zA rfl,trivial⟩,ZK rfl⟩)
  | (rw [f6 ‹_› (by omega) ‹_› (λh=>(hbad.1 h).1 ‹_›) (h128.2 ‹_›) ‹_›]
     exact ⟨zE ⟨zA rfl,zA rfl,zA rfl,zA rfl,trivial⟩,ZK rfl⟩)
  | (rw [f7 ‹_› (by omega) ‹_› (λh=>(hbad.1 h).1 ‹_›) (h128.2 ‹_›) ‹_›]
     exact ⟨zE ⟨zA w1,zA w2,zA w3,zA rfl,trivial⟩,ZK rfl⟩)
  | (rw [f5 ‹_› (by omega) ‹_› (λh=>(hbad.1 h).2.elim (λg=>g ‹_›) (λg=>absurd g ‹_›)) (λh=>absurd ‹_› (h128.1 h))]
     exact ⟨zE ⟨zA w1,zA w2,zA rfl,zA rfl,trivial⟩,ZK rfl⟩)
  | (rw [f6 ‹_› (by omega) ‹_› (λh=>(hbad.1 h).2.elim (λg=>g ‹_›) (λg=>absurd g ‹_›)) (h128.2 ‹_›) ‹_›]
     exact ⟨zE ⟨zA rfl,zA rfl,zA rfl,zA rfl,trivial⟩,ZK rfl⟩)
  | (rw [f7 ‹_› (by omega) ‹_› (λh=>(hbad.1 h).2.elim (λg=>g ‹_›) (λg=>absurd g ‹_›)) (h128.2 ‹_›) ‹_›]
     exact ⟨zE ⟨zA w1,zA w2,zA w3,zA rfl,trivial⟩,ZK rfl⟩)
  | skip
def tkE : ZD:=inlE T (mkQ LRd0) 1 Tryz.f123.ntmps Tryz.f123.results.toList (Tryz.f123.body.getD Code.ret)
theorem tkE_ok : EntOk Tryz.prog 123 tkE:=zGw (by decide) zM (zT zDY) (ZE zDY) zN Tryz.func123 rfl rfl
def LRd1 : Qb:=(123,some tkE) :: LRd0
theorem Zk : ZC Tryz.prog LRd1:=⟨tkE_ok,zDY⟩
abbrev qj (r : Hdr × Int) : FV:=.tup [.agg 39 (QH Yv r.1 .nils),.c (.int .i64 r.2)]
theorem flat_nils : zA5 .nils:=λ_ _ _ _ _ _ _ _ _ h=>h
theorem ZA (r : Hdr × Int) : zBN (qj r):=zBO λx hx=>by
 rcases List.mem_cons.1 hx with rfl | hx
 . refine zDf λi=>?_;unfold QH;cases Nat.blt i Yv.sz with
   | true=>exact Yv.flat _ _
   | false=>exact flat_nils
 rcases List.mem_cons.1 hx with rfl | hx
 . exact Yr ZO
 . cases hx
theorem Qy {b : List Int} {q : Int} (hb : BL b) : 0 <= (zB b q 3).1.1 /\ (zB b q 3).1.1 < 16777216:=by
 have:=num_v (q:=q) (n:=3) hb;exact this
theorem qF {c : Wc} {g : Nat -> CV} {h : Hdr} (hc : ∀ j,j < 38 -> LeC c (g j) (Yv.cell h j)) (hl : LeC c (g 38) .nils) : LeE c (.agg 39 g) (.agg 39 (QH Yv h .nils)):=zk (E:=Yv) (last:=.nils) rfl hc hl
theorem fields_96 (b : List Int) (q : Int) (hr : RdOk b q) : ze Tryz.prog 92 [(cI .i64).enc 96] (qW true b q) (qj (zL b 96 q).1) (qW true b (zL b 96 q).2):=by
 obtain ⟨W,hW⟩ : ∃ W,zL b 96 q = W:=⟨_,rfl⟩;have eW : W = (if (zB b q 1).1.2 = 0 then (if (zB b (zB b q 1).2 3).1.2 = 0 then (if 1048575 < (zB b (zB b q 1).2 3).1.1 then ((zJ,5),(zB b (zB b q 1).2 3).2) else (if (zB b (zB b (zB b q 1).2 3).2 1).1.2 = 0 then (if (zB b (zB b (zB b q 1).2 3).2 1).1.1 = 17 then ((zJ,5),(zB b (zB b (zB b q 1).2 3).2 1).2) else (if (zB b (zB b (zB b (zB b q 1).2 3).2 1).2 1).1.2 = 0 then ((⟨(zB b q 1).1.1,(zB b (zB b q 1).2 3).1.1,(zB b (zB b (zB b q 1).2 3).2 1).1.1,(zB b (zB b (zB b (zB b q 1).2 3).2 1).2 1).1.1,zI,zI,0,0⟩,0),(zB b (zB b (zB b (zB b q 1).2 3).2 1).2 1).2) else ((zJ,(zB b (zB b (zB b (zB b q 1).2 3).2 1).2 1).1.2),(zB b (zB b (zB b (zB b q 1).2 3).2 1).2 1).2))) else ((zJ,(zB b (zB b (zB b q 1).2 3).2 1).1.2),(zB b (zB b (zB b q 1).2 3).2 1).2))) else ((zJ,(zB b (zB b q 1).2 3).1.2),(zB b (zB b q 1).2 3).2)) else ((zJ,(zB b q 1).1.2),(zB b q 1).2)):=by
  rw [<- hW];simp (decide:=true) only [zL,zo,Qr,if_true,if_false,true_and,and_true,false_and]
 rw [hW];clear hW;have v1:=ZU (q:=q) hr.bl;have r1:=zw (n:=1) hr;obtain ⟨N1,e1⟩ : ∃ x,zB b q 1 = x:=⟨_,rfl⟩;rw [e1] at v1 r1 eW;have v2:=Qy (q:=N1.2) hr.bl;have r2:=zw (n:=3) r1;obtain ⟨N2,e2⟩ : ∃ x,zB b N1.2 3 = x:=⟨_,rfl⟩;rw [e2] at v2 r2 eW;have v3:=ZU (q:=N2.2) hr.bl;have r3:=zw (n:=1) r2;obtain ⟨N3,e3⟩ : ∃ x,zB b N2.2 1 = x:=⟨_,rfl⟩;rw [e3] at v3 r3 eW;have v4:=ZU (q:=N3.2) hr.bl;have r4:=zw (n:=1) r3;obtain ⟨N4,e4⟩ : ∃ x,zB b N3.2 1 = x:=⟨_,rfl⟩;rw [e4] at v4 r4 eW;have wc : IntKind.u8.wrap N1.1.1 = N1.1.1:=IntWalk.u8_in _ (by omega);have wf : IntKind.u32.wrap N2.1.1 = N2.1.1:=IntWalk.u32_in _ (by omega);have wn : IntKind.u8.wrap N3.1.1 = N3.1.1:=IntWalk.u8_in _ (by omega);have wh : IntKind.u8.wrap N4.1.1 = N4.1.1:=IntWalk.u8_in _ (by omega);have f0 : (¬ N1.1.2 = 0) -> W = ((zJ,N1.1.2),N1.2):=λh0=>by rw [eW,if_neg h0]
 have f1 : (N1.1.2 = 0) -> (¬ N2.1.2 = 0) -> W = ((zJ,N2.1.2),N2.2):=λh0 h1=>by rw [eW,if_pos h0,if_neg h1]
 have f2 : (N1.1.2 = 0) -> (N2.1.2 = 0) -> (1048575 < N2.1.1) -> W = ((zJ,5),N2.2):=λh0 h1 h2=>by rw [eW,if_pos h0,if_pos h1,if_pos h2]
 have f3 : (N1.1.2 = 0) -> (N2.1.2 = 0) -> (¬ 1048575 < N2.1.1) -> (¬ N3.1.2 = 0) -> W = ((zJ,N3.1.2),N3.2):=λh0 h1 h2 h3=>by rw [eW,if_pos h0,if_pos h1,if_neg h2,if_neg h3]
 have f4 : (N1.1.2 = 0) -> (N2.1.2 = 0) -> (¬ 1048575 < N2.1.1) -> (N3.1.2 = 0) -> (N3.1.1 = 17) -> W = ((zJ,5),N3.2):=λh0 h1 h2 h3 h4=>by rw [eW,if_pos h0,if_pos h1,if_neg h2,if_pos h3,if_pos h4]
 have f5 : (N1.1.2 = 0) -> (N2.1.2 = 0) -> (¬ 1048575 < N2.1.1) -> (N3.1.2 = 0) -> (¬ N3.1.1 = 17) -> (¬ N4.1.2 = 0) -> W = ((zJ,N4.1.2),N4.2):=λh0 h1 h2 h3 h4 h5=>by rw [eW,if_pos h0,if_pos h1,if_neg h2,if_pos h3,if_neg h4,if_neg h5]
 have f6 : (N1.1.2 = 0) -> (N2.1.2 = 0) -> (¬ 1048575 < N2.1.1) -> (N3.1.2 = 0) -> (¬ N3.1.1 = 17) -> (N4.1.2 = 0) -> W = ((⟨N1.1.1,N2.1.1,N3.1.1,N4.1.1,zI,zI,0,0⟩,0),N4.2):=λh0 h1 h2 h3 h4 h5=>by rw [eW,if_pos h0,if_pos h1,if_neg h2,if_pos h3,if_neg h4,if_pos h5]
 clear eW;obtain ⟨g1,g2,g3,g4⟩:=zg4;refine zR (wd:=64) (by decide) zM (zT Zk) zN Tryz.func92 rfl _ (by show 1 + 1 <= _;decide) (zZ (ZA _)) (ZZ) ?_;repeat' (first | (apply And.intro<;>intro hc<;>(first | exact Bool.noConfusion hc | exact QA hc | (simp only [Zi] at hc<;>first | exact absurd rfl hc | exact QA hc | skip) | skip)) | (refine And.intro (by exact Za) ?_) | (apply And.intro) | (refine Exists.intro b (And.intro ⟨rfl,rfl,by first | exact ⟨by assumption,by decide,by decide⟩⟩ ?_)) | (intro s hs;(first | (clear g1;have q : N1 = s:=(hs.trans e1).symm;clear hs;subst q) | (clear g2;have q : N2 = s:=(hs.trans e2).symm;clear hs;subst q) | (clear g3;have q : N3 = s:=(hs.trans e3).symm;clear hs;subst q) | (clear g4;have q : N4 = s:=(hs.trans e4).symm;clear hs;subst q) | skip)))
 all_goals try (first | exact rfl | exact Nat.le_of_ble_eq_true rfl)
 all_goals first
  | (rw [f0 ‹_›]
     exact QP)
  | (rw [f1 ‹_› ‹_›]
     exact QP)
  | (rw [f2 ‹_› ‹_› (by rw [<- wf];assumption)]
     exact QP)
  | (rw [f3 ‹_› ‹_› (by rw [<- wf];assumption) ‹_›]
     exact QP)
  | (rw [f4 ‹_› ‹_› (by rw [<- wf];assumption) ‹_› (by rw [<- wn];assumption)]
     exact QP)
  | (rw [f5 ‹_› ‹_› (by rw [<- wf];assumption) ‹_› (by rw [<- wn];assumption) ‹_›]
     exact QP)
  | (rw [f6 ‹_› ‹_› (by rw [<- wf];assumption) ‹_› (by rw [<- wn];assumption) ‹_›]
     exact ⟨zE ⟨qF (λj hj=>by (rcases j with _ | j;exact zA wc);(rcases j with _ | j;exact zA wf);(rcases j with _ | j;exact zA wn);(rcases j with _ | j;exact zA wh);(iterate 34 (rcases j with _ | j;exact zA rfl));exact absurd hj (by omega)) zm,zA rfl,trivial⟩,ZK rfl⟩)
  | skip
theorem zIc (b : List Int) (q : Int) (hr : RdOk b q) : ze Tryz.prog 92 [(cI .i64).enc 100] (qW true b q) (qj (zL b 100 q).1) (qW true b (zL b 100 q).2):=by
 obtain ⟨W,hW⟩ : ∃ W,zL b 100 q = W:=⟨_,rfl⟩;have eW : W = (if (zB b q 1).1.2 = 0 then (if (zB b (zB b q 1).2 3).1.2 = 0 then (if 1048575 < (zB b (zB b q 1).2 3).1.1 then ((zJ,5),(zB b (zB b q 1).2 3).2) else (if (zB b (zB b (zB b q 1).2 3).2 1).1.2 = 0 then ((⟨(zB b q 1).1.1,(zB b (zB b q 1).2 3).1.1,17,(zB b (zB b (zB b q 1).2 3).2 1).1.1,zI,zI,0,0⟩,0),(zB b (zB b (zB b q 1).2 3).2 1).2) else ((zJ,(zB b (zB b (zB b q 1).2 3).2 1).1.2),(zB b (zB b (zB b q 1).2 3).2 1).2))) else ((zJ,(zB b (zB b q 1).2 3).1.2),(zB b (zB b q 1).2 3).2)) else ((zJ,(zB b q 1).1.2),(zB b q 1).2)):=by
  rw [<- hW];simp (decide:=true) only [zL,zo,Qr,if_true,if_false,true_and,and_true,false_and]
 rw [hW];clear hW;have v1:=ZU (q:=q) hr.bl;have r1:=zw (n:=1) hr;obtain ⟨N1,e1⟩ : ∃ x,zB b q 1 = x:=⟨_,rfl⟩;rw [e1] at v1 r1 eW;have v2:=Qy (q:=N1.2) hr.bl;have r2:=zw (n:=3) r1;obtain ⟨N2,e2⟩ : ∃ x,zB b N1.2 3 = x:=⟨_,rfl⟩;rw [e2] at v2 r2 eW;have v3:=ZU (q:=N2.2) hr.bl;have r3:=zw (n:=1) r2;obtain ⟨N3,e3⟩ : ∃ x,zB b N2.2 1 = x:=⟨_,rfl⟩;rw [e3] at v3 r3 eW;have wc : IntKind.u8.wrap N1.1.1 = N1.1.1:=IntWalk.u8_in _ (by omega);have wf : IntKind.u32.wrap N2.1.1 = N2.1.1:=IntWalk.u32_in _ (by omega);have wh : IntKind.u8.wrap N3.1.1 = N3.1.1:=IntWalk.u8_in _ (by omega);have f0 : (¬ N1.1.2 = 0) -> W = ((zJ,N1.1.2),N1.2):=λh0=>by rw [eW,if_neg h0]
 have f1 : (N1.1.2 = 0) -> (¬ N2.1.2 = 0) -> W = ((zJ,N2.1.2),N2.2):=λh0 h1=>by rw [eW,if_pos h0,if_neg h1]
 have f2 : (N1.1.2 = 0) -> (N2.1.2 = 0) -> (1048575 < N2.1.1) -> W = ((zJ,5),N2.2):=λh0 h1 h2=>by rw [eW,if_pos h0,if_pos h1,if_pos h2]
 have f3 : (N1.1.2 = 0) -> (N2.1.2 = 0) -> (¬ 1048575 < N2.1.1) -> (¬ N3.1.2 = 0) -> W = ((zJ,N3.1.2),N3.2):=λh0 h1 h2 h3=>by rw [eW,if_pos h0,if_pos h1,if_neg h2,if_neg h3]
 have f4 : (N1.1.2 = 0) -> (N2.1.2 = 0) -> (¬ 1048575 < N2.1.1) -> (N3.1.2 = 0) -> W = ((⟨N1.1.1,N2.1.1,17,N3.1.1,zI,zI,0,0⟩,0),N3.2):=λh0 h1 h2 h3=>by rw [eW,if_pos h0,if_pos h1,if_neg h2,if_pos h3]
 clear eW;obtain ⟨g1,g2,g3⟩:=zg3;refine zR (wd:=64) (by decide) zM (zT Zk) zN Tryz.func92 rfl _ (by show 1 + 1 <= _;decide) (zZ (ZA _)) (ZZ) ?_;repeat' (first | (apply And.intro<;>intro hc<;>(first | exact Bool.noConfusion hc | exact QA hc | (simp only [Zi] at hc<;>first | exact absurd rfl hc | exact QA hc | skip) | skip)) | (refine And.intro (by exact Za) ?_) | (apply And.intro) | (refine Exists.intro b (And.intro ⟨rfl,rfl,by first | exact ⟨by assumption,by decide,by decide⟩⟩ ?_)) | (intro s hs;(first | (clear g1;have q : N1 = s:=(hs.trans e1).symm;clear hs;subst q) | (clear g2;have q : N2 = s:=(hs.trans e2).symm;clear hs;subst q) | (clear g3;have q : N3 = s:=(hs.trans e3).symm;clear hs;subst q) | skip)))
 all_goals try (first | exact rfl | exact Nat.le_of_ble_eq_true rfl)
 all_goals first
  | (rw [f0 ‹_›]
     exact QP)
  | (rw [f1 ‹_› ‹_›]
     exact QP)
  | (rw [f2 ‹_› ‹_› (by rw [<- wf];assumption)]
     exact QP)
  | (rw [f3 ‹_› ‹_› (by rw [<- wf];assumption) ‹_›]
     exact QP)
  | (rw [f4 ‹_› ‹_› (by rw [<- wf];assumption) ‹_›]
     exact ⟨zE ⟨qF (λj hj=>by (rcases j with _ | j;exact zA wc);(rcases j with _ | j;exact zA wf);(rcases j with _ | j;exact zA rfl);(rcases j with _ | j;exact zA wh);(iterate 34 (rcases j with _ | j;exact zA rfl));exact absurd hj (by omega)) zm,zA rfl,trivial⟩,ZK rfl⟩)
  | skip
theorem zId (b : List Int) (q : Int) (hr : RdOk b q) : ze Tryz.prog 92 [(cI .i64).enc 104] (qW true b q) (qj (zL b 104 q).1) (qW true b (zL b 104 q).2):=by
 obtain ⟨W,hW⟩ : ∃ W,zL b 104 q = W:=⟨_,rfl⟩;have eW : W = (if (zB b q 3).1.2 = 0 then (if 1048575 < (zB b q 3).1.1 then ((zJ,5),(zB b q 3).2) else (if (zB b (zB b q 3).2 1).1.2 = 0 then (if (zB b (zB b q 3).2 1).1.1 = 17 then ((zJ,5),(zB b (zB b q 3).2 1).2) else (if (zB b (zB b (zB b q 3).2 1).2 1).1.2 = 0 then ((⟨0,(zB b q 3).1.1,(zB b (zB b q 3).2 1).1.1,(zB b (zB b (zB b q 3).2 1).2 1).1.1,zI,zI,0,0⟩,0),(zB b (zB b (zB b q 3).2 1).2 1).2) else ((zJ,(zB b (zB b (zB b q 3).2 1).2 1).1.2),(zB b (zB b (zB b q 3).2 1).2 1).2))) else ((zJ,(zB b (zB b q 3).2 1).1.2),(zB b (zB b q 3).2 1).2))) else ((zJ,(zB b q 3).1.2),(zB b q 3).2)):=by
  rw [<- hW];simp (decide:=true) only [zL,zo,Qr,if_true,if_false,true_and,and_true,false_and]
 rw [hW];clear hW;have v1:=Qy (q:=q) hr.bl;have r1:=zw (n:=3) hr;obtain ⟨N1,e1⟩ : ∃ x,zB b q 3 = x:=⟨_,rfl⟩;rw [e1] at v1 r1 eW;have v2:=ZU (q:=N1.2) hr.bl;have r2:=zw (n:=1) r1;obtain ⟨N2,e2⟩ : ∃ x,zB b N1.2 1 = x:=⟨_,rfl⟩;rw [e2] at v2 r2 eW;have v3:=ZU (q:=N2.2) hr.bl;have r3:=zw (n:=1) r2;obtain ⟨N3,e3⟩ : ∃ x,zB b N2.2 1 = x:=⟨_,rfl⟩;rw [e3] at v3 r3 eW;have wf : IntKind.u32.wrap N1.1.1 = N1.1.1:=IntWalk.u32_in _ (by omega);have wn : IntKind.u8.wrap N2.1.1 = N2.1.1:=IntWalk.u8_in _ (by omega);have wh : IntKind.u8.wrap N3.1.1 = N3.1.1:=IntWalk.u8_in _ (by omega);have f0 : (¬ N1.1.2 = 0) -> W = ((zJ,N1.1.2),N1.2):=λh0=>by rw [eW,if_neg h0]
 have f1 : (N1.1.2 = 0) -> (1048575 < N1.1.1) -> W = ((zJ,5),N1.2):=λh0 h1=>by rw [eW,if_pos h0,if_pos h1]
 have f2 : (N1.1.2 = 0) -> (¬ 1048575 < N1.1.1) -> (¬ N2.1.2 = 0) -> W = ((zJ,N2.1.2),N2.2):=λh0 h1 h2=>by rw [eW,if_pos h0,if_neg h1,if_neg h2]
 have f3 : (N1.1.2 = 0) -> (¬ 1048575 < N1.1.1) -> (N2.1.2 = 0) -> (N2.1.1 = 17) -> W = ((zJ,5),N2.2):=λh0 h1 h2 h3=>by rw [eW,if_pos h0,if_neg h1,if_pos h2,if_pos h3]
 have f4 : (N1.1.2 = 0) -> (¬ 1048575 < N1.1.1) -> (N2.1.2 = 0) -> (¬ N2.1.1 = 17) -> (¬ N3.1.2 = 0) -> W = ((zJ,N3.1.2),N3.2):=λh0 h1 h2 h3 h4=>by rw [eW,if_pos h0,if_neg h1,if_pos h2,if_neg h3,if_neg h4]
 have f5 : (N1.1.2 = 0) -> (¬ 1048575 < N1.1.1) -> (N2.1.2 = 0) -> (¬ N2.1.1 = 17) -> (N3.1.2 = 0) -> W = ((⟨0,N1.1.1,N2.1.1,N3.1.1,zI,zI,0,0⟩,0),N3.2):=λh0 h1 h2 h3 h4=>by rw [eW,if_pos h0,if_neg h1,if_pos h2,if_neg h3,if_pos h4]
 clear eW;obtain ⟨g1,g2,g3⟩:=zg3;refine zR (wd:=64) (by decide) zM (zT Zk) zN Tryz.func92 rfl _ (by show 1 + 1 <= _;decide) (zZ (ZA _)) (ZZ) ?_;repeat' (first | (apply And.intro<;>intro hc<;>(first | exact Bool.noConfusion hc | exact QA hc | (simp only [Zi] at hc<;>first | exact absurd rfl hc | exact QA hc | skip) | skip)) | (refine And.intro (by exact Za) ?_) | (apply And.intro) | (refine Exists.intro b (And.intro ⟨rfl,rfl,by first | exact ⟨by assumption,by decide,by decide⟩⟩ ?_)) | (intro s hs;(first | (clear g1;have q : N1 = s:=(hs.trans e1).symm;clear hs;subst q) | (clear g2;have q : N2 = s:=(hs.trans e2).symm;clear hs;subst q) | (clear g3;have q : N3 = s:=(hs.trans e3).symm;clear hs;subst q) | skip)))
 all_goals try (first | exact rfl | exact Nat.le_of_ble_eq_true rfl)
 all_goals first
  | (rw [f0 ‹_›]
     exact QP)
  | (rw [f1 ‹_› (by rw [<- wf];assumption)]
     exact QP)
  | (rw [f2 ‹_› (by rw [<- wf];assumption) ‹_›]
     exact QP)
  | (rw [f3 ‹_› (by rw [<- wf];assumption) ‹_› (by rw [<- wn];assumption)]
     exact QP)
  | (rw [f4 ‹_› (by rw [<- wf];assumption) ‹_› (by rw [<- wn];assumption) ‹_›]
     exact QP)
  | (rw [f5 ‹_› (by rw [<- wf];assumption) ‹_› (by rw [<- wn];assumption) ‹_›]
     exact ⟨zE ⟨qF (λj hj=>by (rcases j with _ | j;exact zA rfl);(rcases j with _ | j;exact zA wf);(rcases j with _ | j;exact zA wn);(rcases j with _ | j;exact zA wh);(iterate 34 (rcases j with _ | j;exact zA rfl));exact absurd hj (by omega)) zm,zA rfl,trivial⟩,ZK rfl⟩)
  | skip
theorem zIe (b : List Int) (q : Int) (hr : RdOk b q) : ze Tryz.prog 92 [(cI .i64).enc 108] (qW true b q) (qj (zL b 108 q).1) (qW true b (zL b 108 q).2):=by
 obtain ⟨W,hW⟩ : ∃ W,zL b 108 q = W:=⟨_,rfl⟩;have eW : W = (if (zB b q 3).1.2 = 0 then (if 1048575 < (zB b q 3).1.1 then ((zJ,5),(zB b q 3).2) else (if (zB b (zB b q 3).2 1).1.2 = 0 then ((⟨0,(zB b q 3).1.1,17,(zB b (zB b q 3).2 1).1.1,zI,zI,0,0⟩,0),(zB b (zB b q 3).2 1).2) else ((zJ,(zB b (zB b q 3).2 1).1.2),(zB b (zB b q 3).2 1).2))) else ((zJ,(zB b q 3).1.2),(zB b q 3).2)):=by
  rw [<- hW];simp (decide:=true) only [zL,zo,Qr,if_true,if_false,true_and,and_true,false_and]
 rw [hW];clear hW;have v1:=Qy (q:=q) hr.bl;have r1:=zw (n:=3) hr;obtain ⟨N1,e1⟩ : ∃ x,zB b q 3 = x:=⟨_,rfl⟩;rw [e1] at v1 r1 eW;have v2:=ZU (q:=N1.2) hr.bl;have r2:=zw (n:=1) r1;obtain ⟨N2,e2⟩ : ∃ x,zB b N1.2 1 = x:=⟨_,rfl⟩;rw [e2] at v2 r2 eW;have wf : IntKind.u32.wrap N1.1.1 = N1.1.1:=IntWalk.u32_in _ (by omega);have wh : IntKind.u8.wrap N2.1.1 = N2.1.1:=IntWalk.u8_in _ (by omega);have f0 : (¬ N1.1.2 = 0) -> W = ((zJ,N1.1.2),N1.2):=λh0=>by rw [eW,if_neg h0]
 have f1 : (N1.1.2 = 0) -> (1048575 < N1.1.1) -> W = ((zJ,5),N1.2):=λh0 h1=>by rw [eW,if_pos h0,if_pos h1]
 have f2 : (N1.1.2 = 0) -> (¬ 1048575 < N1.1.1) -> (¬ N2.1.2 = 0) -> W = ((zJ,N2.1.2),N2.2):=λh0 h1 h2=>by rw [eW,if_pos h0,if_neg h1,if_neg h2]
 have f3 : (N1.1.2 = 0) -> (¬ 1048575 < N1.1.1) -> (N2.1.2 = 0) -> W = ((⟨0,N1.1.1,17,N2.1.1,zI,zI,0,0⟩,0),N2.2):=λh0 h1 h2=>by rw [eW,if_pos h0,if_neg h1,if_pos h2]
 clear eW;obtain ⟨g1,g2⟩:=zg2;refine zR (wd:=64) (by decide) zM (zT Zk) zN Tryz.func92 rfl _ (by show 1 + 1 <= _;decide) (zZ (ZA _)) (ZZ) ?_;repeat' (first | (apply And.intro<;>intro hc<;>(first | exact Bool.noConfusion hc | exact QA hc | (simp only [Zi] at hc<;>first | exact absurd rfl hc | exact QA hc | skip) | skip)) | (refine And.intro (by exact Za) ?_) | (apply And.intro) | (refine Exists.intro b (And.intro ⟨rfl,rfl,by first | exact ⟨by assumption,by decide,by decide⟩⟩ ?_)) | (intro s hs;(first | (clear g1;have q : N1 = s:=(hs.trans e1).symm;clear hs;subst q) | (clear g2;have q : N2 = s:=(hs.trans e2).symm;clear hs;subst q) | skip)))
 all_goals try (first | exact rfl | exact Nat.le_of_ble_eq_true rfl)
 all_goals first
  | (rw [f0 ‹_›]
     exact QP)
  | (rw [f1 ‹_› (by rw [<- wf];assumption)]
     exact QP)
  | (rw [f2 ‹_› (by rw [<- wf];assumption) ‹_›]
     exact QP)
  | (rw [f3 ‹_› (by rw [<- wf];assumption) ‹_›]
     exact ⟨zE ⟨qF (λj hj=>by (rcases j with _ | j;exact zA rfl);(rcases j with _ | j;exact zA wf);(rcases j with _ | j;exact zA rfl);(rcases j with _ | j;exact zA wh);(iterate 34 (rcases j with _ | j;exact zA rfl));exact absurd hj (by omega)) zm,zA rfl,trivial⟩,ZK rfl⟩)
  | skip
theorem zIf (b : List Int) (q : Int) (hr : RdOk b q) : ze Tryz.prog 92 [(cI .i64).enc 112] (qW true b q) (qj (zL b 112 q).1) (qW true b (zL b 112 q).2):=by
 obtain ⟨W,hW⟩ : ∃ W,zL b 112 q = W:=⟨_,rfl⟩;have eW : W = (if (zB b q 1).1.2 = 0 then (if (zB b (zB b q 1).2 1).1.2 = 0 then (if (zB b (zB b q 1).2 1).1.1 = 17 then ((zJ,5),(zB b (zB b q 1).2 1).2) else (if (zB b (zB b (zB b q 1).2 1).2 1).1.2 = 0 then ((⟨(zB b q 1).1.1,0,(zB b (zB b q 1).2 1).1.1,(zB b (zB b (zB b q 1).2 1).2 1).1.1,zI,zI,0,0⟩,0),(zB b (zB b (zB b q 1).2 1).2 1).2) else ((zJ,(zB b (zB b (zB b q 1).2 1).2 1).1.2),(zB b (zB b (zB b q 1).2 1).2 1).2))) else ((zJ,(zB b (zB b q 1).2 1).1.2),(zB b (zB b q 1).2 1).2)) else ((zJ,(zB b q 1).1.2),(zB b q 1).2)):=by
  rw [<- hW];simp (decide:=true) only [zL,zo,Qr,if_true,if_false,true_and,and_true,false_and]
 rw [hW];clear hW;have v1:=ZU (q:=q) hr.bl;have r1:=zw (n:=1) hr;obtain ⟨N1,e1⟩ : ∃ x,zB b q 1 = x:=⟨_,rfl⟩;rw [e1] at v1 r1 eW;have v2:=ZU (q:=N1.2) hr.bl;have r2:=zw (n:=1) r1;obtain ⟨N2,e2⟩ : ∃ x,zB b N1.2 1 = x:=⟨_,rfl⟩;rw [e2] at v2 r2 eW;have v3:=ZU (q:=N2.2) hr.bl;have r3:=zw (n:=1) r2;obtain ⟨N3,e3⟩ : ∃ x,zB b N2.2 1 = x:=⟨_,rfl⟩;rw [e3] at v3 r3 eW;have wc : IntKind.u8.wrap N1.1.1 = N1.1.1:=IntWalk.u8_in _ (by omega);have wn : IntKind.u8.wrap N2.1.1 = N2.1.1:=IntWalk.u8_in _ (by omega);have wh : IntKind.u8.wrap N3.1.1 = N3.1.1:=IntWalk.u8_in _ (by omega);have f0 : (¬ N1.1.2 = 0) -> W = ((zJ,N1.1.2),N1.2):=λh0=>by rw [eW,if_neg h0]
 have f1 : (N1.1.2 = 0) -> (¬ N2.1.2 = 0) -> W = ((zJ,N2.1.2),N2.2):=λh0 h1=>by rw [eW,if_pos h0,if_neg h1]
 have f2 : (N1.1.2 = 0) -> (N2.1.2 = 0) -> (N2.1.1 = 17) -> W = ((zJ,5),N2.2):=λh0 h1 h2=>by rw [eW,if_pos h0,if_pos h1,if_pos h2]
 have f3 : (N1.1.2 = 0) -> (N2.1.2 = 0) -> (¬ N2.1.1 = 17) -> (¬ N3.1.2 = 0) -> W = ((zJ,N3.1.2),N3.2):=λh0 h1 h2 h3=>by rw [eW,if_pos h0,if_pos h1,if_neg h2,if_neg h3]
 have f4 : (N1.1.2 = 0) -> (N2.1.2 = 0) -> (¬ N2.1.1 = 17) -> (N3.1.2 = 0) -> W = ((⟨N1.1.1,0,N2.1.1,N3.1.1,zI,zI,0,0⟩,0),N3.2):=λh0 h1 h2 h3=>by rw [eW,if_pos h0,if_pos h1,if_neg h2,if_pos h3]
 clear eW;obtain ⟨g1,g2,g3⟩:=zg3;refine zR (wd:=64) (by decide) zM (zT Zk) zN Tryz.func92 rfl _ (by show 1 + 1 <= _;decide) (zZ (ZA _)) (ZZ) ?_;repeat' (first | (apply And.intro<;>intro hc<;>(first | exact Bool.noConfusion hc | exact QA hc | (simp only [Zi] at hc<;>first | exact absurd rfl hc | exact QA hc | skip) | skip)) | (refine And.intro (by exact Za) ?_) | (apply And.intro) | (refine Exists.intro b (And.intro ⟨rfl,rfl,by first | exact ⟨by assumption,by decide,by decide⟩⟩ ?_)) | (intro s hs;(first | (clear g1;have q : N1 = s:=(hs.trans e1).symm;clear hs;subst q) | (clear g2;have q : N2 = s:=(hs.trans e2).symm;clear hs;subst q) | (clear g3;have q : N3 = s:=(hs.trans e3).symm;clear hs;subst q) | skip)))
 all_goals try (first | exact rfl | exact Nat.le_of_ble_eq_true rfl)
 all_goals first
  | (rw [f0 ‹_›]
     exact QP)
  | (rw [f1 ‹_› ‹_›]
     exact QP)
  | (rw [f2 ‹_› ‹_› (by rw [<- wn];assumption)]
     exact QP)
  | (rw [f3 ‹_› ‹_› (by rw [<- wn];assumption) ‹_›]
     exact QP)
  | (rw [f4 ‹_› ‹_› (by rw [<- wn];assumption) ‹_›]
     exact ⟨zE ⟨qF (λj hj=>by (rcases j with _ | j;exact zA wc);(rcases j with _ | j;exact zA rfl);(rcases j with _ | j;exact zA wn);(rcases j with _ | j;exact zA wh);(iterate 34 (rcases j with _ | j;exact zA rfl));exact absurd hj (by omega)) zm,zA rfl,trivial⟩,ZK rfl⟩)
  | skip
theorem zIg (b : List Int) (q : Int) (hr : RdOk b q) : ze Tryz.prog 92 [(cI .i64).enc 116] (qW true b q) (qj (zL b 116 q).1) (qW true b (zL b 116 q).2):=by
 obtain ⟨W,hW⟩ : ∃ W,zL b 116 q = W:=⟨_,rfl⟩;have eW : W = (if (zB b q 1).1.2 = 0 then (if (zB b (zB b q 1).2 1).1.2 = 0 then ((⟨(zB b q 1).1.1,0,17,(zB b (zB b q 1).2 1).1.1,zI,zI,0,0⟩,0),(zB b (zB b q 1).2 1).2) else ((zJ,(zB b (zB b q 1).2 1).1.2),(zB b (zB b q 1).2 1).2)) else ((zJ,(zB b q 1).1.2),(zB b q 1).2)):=by
  rw [<- hW];simp (decide:=true) only [zL,zo,Qr,if_true,if_false,true_and,and_true,false_and]
 rw [hW];clear hW;have v1:=ZU (q:=q) hr.bl;have r1:=zw (n:=1) hr;obtain ⟨N1,e1⟩ : ∃ x,zB b q 1 = x:=⟨_,rfl⟩;rw [e1] at v1 r1 eW;have v2:=ZU (q:=N1.2) hr.bl;have r2:=zw (n:=1) r1;obtain ⟨N2,e2⟩ : ∃ x,zB b N1.2 1 = x:=⟨_,rfl⟩;rw [e2] at v2 r2 eW;have wc : IntKind.u8.wrap N1.1.1 = N1.1.1:=IntWalk.u8_in _ (by omega);have wh : IntKind.u8.wrap N2.1.1 = N2.1.1:=IntWalk.u8_in _ (by omega);have f0 : (¬ N1.1.2 = 0) -> W = ((zJ,N1.1.2),N1.2):=λh0=>by rw [eW,if_neg h0]
 have f1 : (N1.1.2 = 0) -> (¬ N2.1.2 = 0) -> W = ((zJ,N2.1.2),N2.2):=λh0 h1=>by rw [eW,if_pos h0,if_neg h1]
 have f2 : (N1.1.2 = 0) -> (N2.1.2 = 0) -> W = ((⟨N1.1.1,0,17,N2.1.1,zI,zI,0,0⟩,0),N2.2):=λh0 h1=>by rw [eW,if_pos h0,if_pos h1]
 clear eW;obtain ⟨g1,g2⟩:=zg2;refine zR (wd:=64) (by decide) zM (zT Zk) zN Tryz.func92 rfl _ (by show 1 + 1 <= _;decide) (zZ (ZA _)) (ZZ) ?_;repeat' (first | (apply And.intro<;>intro hc<;>(first | exact Bool.noConfusion hc | exact QA hc | (simp only [Zi] at hc<;>first | exact absurd rfl hc | exact QA hc | skip) | skip)) | (refine And.intro (by exact Za) ?_) | (apply And.intro) | (refine Exists.intro b (And.intro ⟨rfl,rfl,by first | exact ⟨by assumption,by decide,by decide⟩⟩ ?_)) | (intro s hs;(first | (clear g1;have q : N1 = s:=(hs.trans e1).symm;clear hs;subst q) | (clear g2;have q : N2 = s:=(hs.trans e2).symm;clear hs;subst q) | skip)))
 all_goals try (first | exact rfl | exact Nat.le_of_ble_eq_true rfl)
 all_goals first
  | (rw [f0 ‹_›]
     exact QP)
  | (rw [f1 ‹_› ‹_›]
     exact QP)
  | (rw [f2 ‹_› ‹_›]
     exact ⟨zE ⟨qF (λj hj=>by (rcases j with _ | j;exact zA wc);(rcases j with _ | j;exact zA rfl);(rcases j with _ | j;exact zA rfl);(rcases j with _ | j;exact zA wh);(iterate 34 (rcases j with _ | j;exact zA rfl));exact absurd hj (by omega)) zm,zA rfl,trivial⟩,ZK rfl⟩)
  | skip
theorem zIh (b : List Int) (q : Int) (hr : RdOk b q) : ze Tryz.prog 92 [(cI .i64).enc 120] (qW true b q) (qj (zL b 120 q).1) (qW true b (zL b 120 q).2):=by
 obtain ⟨W,hW⟩ : ∃ W,zL b 120 q = W:=⟨_,rfl⟩;have eW : W = (if (zB b q 1).1.2 = 0 then (if (zB b q 1).1.1 = 17 then ((zJ,5),(zB b q 1).2) else (if (zB b (zB b q 1).2 1).1.2 = 0 then ((⟨0,0,(zB b q 1).1.1,(zB b (zB b q 1).2 1).1.1,zI,zI,0,0⟩,0),(zB b (zB b q 1).2 1).2) else ((zJ,(zB b (zB b q 1).2 1).1.2),(zB b (zB b q 1).2 1).2))) else ((zJ,(zB b q 1).1.2),(zB b q 1).2)):=by
  rw [<- hW];simp (decide:=true) only [zL,zo,Qr,if_true,if_false,true_and,and_true,false_and]
 rw [hW];clear hW;have v1:=ZU (q:=q) hr.bl;have r1:=zw (n:=1) hr;obtain ⟨N1,e1⟩ : ∃ x,zB b q 1 = x:=⟨_,rfl⟩;rw [e1] at v1 r1 eW;have v2:=ZU (q:=N1.2) hr.bl;have r2:=zw (n:=1) r1;obtain ⟨N2,e2⟩ : ∃ x,zB b N1.2 1 = x:=⟨_,rfl⟩;rw [e2] at v2 r2 eW;have wn : IntKind.u8.wrap N1.1.1 = N1.1.1:=IntWalk.u8_in _ (by omega);have wh : IntKind.u8.wrap N2.1.1 = N2.1.1:=IntWalk.u8_in _ (by omega);have f0 : (¬ N1.1.2 = 0) -> W = ((zJ,N1.1.2),N1.2):=λh0=>by rw [eW,if_neg h0]
 have f1 : (N1.1.2 = 0) -> (N1.1.1 = 17) -> W = ((zJ,5),N1.2):=λh0 h1=>by rw [eW,if_pos h0,if_pos h1]
 have f2 : (N1.1.2 = 0) -> (¬ N1.1.1 = 17) -> (¬ N2.1.2 = 0) -> W = ((zJ,N2.1.2),N2.2):=λh0 h1 h2=>by rw [eW,if_pos h0,if_neg h1,if_neg h2]
 have f3 : (N1.1.2 = 0) -> (¬ N1.1.1 = 17) -> (N2.1.2 = 0) -> W = ((⟨0,0,N1.1.1,N2.1.1,zI,zI,0,0⟩,0),N2.2):=λh0 h1 h2=>by rw [eW,if_pos h0,if_neg h1,if_pos h2]
 clear eW;obtain ⟨g1,g2⟩:=zg2;refine zR (wd:=64) (by decide) zM (zT Zk) zN Tryz.func92 rfl _ (by show 1 + 1 <= _;decide) (zZ (ZA _)) (ZZ) ?_;repeat' (first | (apply And.intro<;>intro hc<;>(first | exact Bool.noConfusion hc | exact QA hc | (simp only [Zi] at hc<;>first | exact absurd rfl hc | exact QA hc | skip) | skip)) | (refine And.intro (by exact Za) ?_) | (apply And.intro) | (refine Exists.intro b (And.intro ⟨rfl,rfl,by first | exact ⟨by assumption,by decide,by decide⟩⟩ ?_)) | (intro s hs;(first | (clear g1;have q : N1 = s:=(hs.trans e1).symm;clear hs;subst q) | (clear g2;have q : N2 = s:=(hs.trans e2).symm;clear hs;subst q) | skip)))
 all_goals try (first | exact rfl | exact Nat.le_of_ble_eq_true rfl)
 all_goals first
  | (rw [f0 ‹_›]
     exact QP)
  | (rw [f1 ‹_› (by rw [<- wn];assumption)]
     exact QP)
  | (rw [f2 ‹_› (by rw [<- wn];assumption) ‹_›]
     exact QP)
  | (rw [f3 ‹_› (by rw [<- wn];assumption) ‹_›]
     exact ⟨zE ⟨qF (λj hj=>by (rcases j with _ | j;exact zA rfl);(rcases j with _ | j;exact zA rfl);(rcases j with _ | j;exact zA wn);(rcases j with _ | j;exact zA wh);(iterate 34 (rcases j with _ | j;exact zA rfl));exact absurd hj (by omega)) zm,zA rfl,trivial⟩,ZK rfl⟩)
  | skip
theorem zIi (b : List Int) (q : Int) (hr : RdOk b q) : ze Tryz.prog 92 [(cI .i64).enc 124] (qW true b q) (qj (zL b 124 q).1) (qW true b (zL b 124 q).2):=by
 obtain ⟨W,hW⟩ : ∃ W,zL b 124 q = W:=⟨_,rfl⟩;have eW : W = (if (zB b q 1).1.2 = 0 then ((⟨0,0,17,(zB b q 1).1.1,zI,zI,0,0⟩,0),(zB b q 1).2) else ((zJ,(zB b q 1).1.2),(zB b q 1).2)):=by
  rw [<- hW];simp (decide:=true) only [zL,zo,Qr,if_true,if_false,true_and,and_true,false_and]
 rw [hW];clear hW;have v1:=ZU (q:=q) hr.bl;have r1:=zw (n:=1) hr;obtain ⟨N1,e1⟩ : ∃ x,zB b q 1 = x:=⟨_,rfl⟩;rw [e1] at v1 r1 eW;have wh : IntKind.u8.wrap N1.1.1 = N1.1.1:=IntWalk.u8_in _ (by omega);have f0 : (¬ N1.1.2 = 0) -> W = ((zJ,N1.1.2),N1.2):=λh0=>by rw [eW,if_neg h0]
 have f1 : (N1.1.2 = 0) -> W = ((⟨0,0,17,N1.1.1,zI,zI,0,0⟩,0),N1.2):=λh0=>by rw [eW,if_pos h0]
 clear eW;have g1:=trivial;refine zR (wd:=64) (by decide) zM (zT Zk) zN Tryz.func92 rfl _ (by show 1 + 1 <= _;decide) (zZ (ZA _)) (ZZ) ?_;repeat' (first | (apply And.intro<;>intro hc<;>(first | exact Bool.noConfusion hc | exact QA hc | (simp only [Zi] at hc<;>first | exact absurd rfl hc | exact QA hc | skip) | skip)) | (refine And.intro (by exact Za) ?_) | (apply And.intro) | (refine Exists.intro b (And.intro ⟨rfl,rfl,by first | exact ⟨by assumption,by decide,by decide⟩⟩ ?_)) | (intro s hs;(first | (clear g1;have q : N1 = s:=(hs.trans e1).symm;clear hs;subst q) | skip)))
 all_goals try (first | exact rfl | exact Nat.le_of_ble_eq_true rfl)
 all_goals first
  | (rw [f0 ‹_›]
     exact QP)
  | (rw [f1 ‹_›]
     exact ⟨zE ⟨qF (λj hj=>by (rcases j with _ | j;exact zA rfl);(rcases j with _ | j;exact zA rfl);(rcases j with _ | j;exact zA rfl);(rcases j with _ | j;exact zA wh);(iterate 34 (rcases j with _ | j;exact zA rfl));exact absurd hj (by omega)) zm,zA rfl,trivial⟩,ZK rfl⟩)
  | skip
theorem fields_97 (b : List Int) (q : Int) (hr : RdOk b q) : ze Tryz.prog 92 [(cI .i64).enc 97] (qW true b q) (qj (zL b 97 q).1) (qW true b (zL b 97 q).2):=by
 obtain ⟨W,hW⟩ : ∃ W,zL b 97 q = W:=⟨_,rfl⟩;have eW : W = (if (zB b q 1).1.2 = 0 then (if (zB b (zB b q 1).2 3).1.2 = 0 then (if 1048575 < (zB b (zB b q 1).2 3).1.1 then ((zJ,5),(zB b (zB b q 1).2 3).2) else (if (zB b (zB b (zB b q 1).2 3).2 1).1.2 = 0 then (if (zB b (zB b (zB b q 1).2 3).2 1).1.1 = 17 then ((zJ,5),(zB b (zB b (zB b q 1).2 3).2 1).2) else ((⟨(zB b q 1).1.1,(zB b (zB b q 1).2 3).1.1,(zB b (zB b (zB b q 1).2 3).2 1).1.1,1,zI,zI,0,0⟩,0),(zB b (zB b (zB b q 1).2 3).2 1).2)) else ((zJ,(zB b (zB b (zB b q 1).2 3).2 1).1.2),(zB b (zB b (zB b q 1).2 3).2 1).2))) else ((zJ,(zB b (zB b q 1).2 3).1.2),(zB b (zB b q 1).2 3).2)) else ((zJ,(zB b q 1).1.2),(zB b q 1).2)):=by
  rw [<- hW];simp (decide:=true) only [zL,zo,Qr,if_true,if_false,true_and,and_true,false_and]
 rw [hW];clear hW;have v1:=ZU (q:=q) hr.bl;have r1:=zw (n:=1) hr;obtain ⟨N1,e1⟩ : ∃ x,zB b q 1 = x:=⟨_,rfl⟩;rw [e1] at v1 r1 eW;have v2:=Qy (q:=N1.2) hr.bl;have r2:=zw (n:=3) r1;obtain ⟨N2,e2⟩ : ∃ x,zB b N1.2 3 = x:=⟨_,rfl⟩;rw [e2] at v2 r2 eW;have v3:=ZU (q:=N2.2) hr.bl;have r3:=zw (n:=1) r2;obtain ⟨N3,e3⟩ : ∃ x,zB b N2.2 1 = x:=⟨_,rfl⟩;rw [e3] at v3 r3 eW;have wc : IntKind.u8.wrap N1.1.1 = N1.1.1:=IntWalk.u8_in _ (by omega);have wf : IntKind.u32.wrap N2.1.1 = N2.1.1:=IntWalk.u32_in _ (by omega);have wn : IntKind.u8.wrap N3.1.1 = N3.1.1:=IntWalk.u8_in _ (by omega);have f0 : (¬ N1.1.2 = 0) -> W = ((zJ,N1.1.2),N1.2):=λh0=>by rw [eW,if_neg h0]
 have f1 : (N1.1.2 = 0) -> (¬ N2.1.2 = 0) -> W = ((zJ,N2.1.2),N2.2):=λh0 h1=>by rw [eW,if_pos h0,if_neg h1]
 have f2 : (N1.1.2 = 0) -> (N2.1.2 = 0) -> (1048575 < N2.1.1) -> W = ((zJ,5),N2.2):=λh0 h1 h2=>by rw [eW,if_pos h0,if_pos h1,if_pos h2]
 have f3 : (N1.1.2 = 0) -> (N2.1.2 = 0) -> (¬ 1048575 < N2.1.1) -> (¬ N3.1.2 = 0) -> W = ((zJ,N3.1.2),N3.2):=λh0 h1 h2 h3=>by rw [eW,if_pos h0,if_pos h1,if_neg h2,if_neg h3]
 have f4 : (N1.1.2 = 0) -> (N2.1.2 = 0) -> (¬ 1048575 < N2.1.1) -> (N3.1.2 = 0) -> (N3.1.1 = 17) -> W = ((zJ,5),N3.2):=λh0 h1 h2 h3 h4=>by rw [eW,if_pos h0,if_pos h1,if_neg h2,if_pos h3,if_pos h4]
 have f5 : (N1.1.2 = 0) -> (N2.1.2 = 0) -> (¬ 1048575 < N2.1.1) -> (N3.1.2 = 0) -> (¬ N3.1.1 = 17) -> W = ((⟨N1.1.1,N2.1.1,N3.1.1,1,zI,zI,0,0⟩,0),N3.2):=λh0 h1 h2 h3 h4=>by rw [eW,if_pos h0,if_pos h1,if_neg h2,if_pos h3,if_neg h4]
 clear eW;obtain ⟨g1,g2,g3⟩:=zg3;refine zR (wd:=64) (by decide) zM (zT Zk) zN Tryz.func92 rfl _ (by show 1 + 1 <= _;decide) (zZ (ZA _)) (ZZ) ?_;repeat' (first | (apply And.intro<;>intro hc<;>(first | exact Bool.noConfusion hc | exact QA hc | (simp only [Zi] at hc<;>first | exact absurd rfl hc | exact QA hc | skip) | skip)) | (refine And.intro (by exact Za) ?_) | (apply And.intro) | (refine Exists.intro b (And.intro ⟨rfl,rfl,by first | exact ⟨by assumption,by decide,by decide⟩⟩ ?_)) | (intro s hs;(first | (clear g1;have q : N1 = s:=(hs.trans e1).symm;clear hs;subst q) | (clear g2;have q : N2 = s:=(hs.trans e2).symm;clear hs;subst q) | (clear g3;have q : N3 = s:=(hs.trans e3).symm;clear hs;subst q) | skip)))
 all_goals try (first | exact rfl | exact Nat.le_of_ble_eq_true rfl)
 all_goals first
  | (rw [f0 ‹_›]
     exact QP)
  | (rw [f1 ‹_› ‹_›]
     exact QP)
  | (rw [f2 ‹_› ‹_› (by rw [<- wf];assumption)]
     exact QP)
  | (rw [f3 ‹_› ‹_› (by rw [<- wf];assumption) ‹_›]
     exact QP)
  | (rw [f4 ‹_› ‹_› (by rw [<- wf];assumption) ‹_› (by rw [<- wn];assumption)]
     exact QP)
  | (rw [f5 ‹_› ‹_› (by rw [<- wf];assumption) ‹_› (by rw [<- wn];assumption)]
     exact ⟨zE ⟨qF (λj hj=>by (rcases j with _ | j;exact zA wc);(rcases j with _ | j;exact zA wf);(rcases j with _ | j;exact zA wn);(rcases j with _ | j;exact zA rfl);(iterate 34 (rcases j with _ | j;exact zA rfl));exact absurd hj (by omega)) zm,zA rfl,trivial⟩,ZK rfl⟩)
  | skip
theorem zIj (b : List Int) (q : Int) (hr : RdOk b q) : ze Tryz.prog 92 [(cI .i64).enc 101] (qW true b q) (qj (zL b 101 q).1) (qW true b (zL b 101 q).2):=by
 obtain ⟨W,hW⟩ : ∃ W,zL b 101 q = W:=⟨_,rfl⟩;have eW : W = (if (zB b q 1).1.2 = 0 then (if (zB b (zB b q 1).2 3).1.2 = 0 then (if 1048575 < (zB b (zB b q 1).2 3).1.1 then ((zJ,5),(zB b (zB b q 1).2 3).2) else ((⟨(zB b q 1).1.1,(zB b (zB b q 1).2 3).1.1,17,1,zI,zI,0,0⟩,0),(zB b (zB b q 1).2 3).2)) else ((zJ,(zB b (zB b q 1).2 3).1.2),(zB b (zB b q 1).2 3).2)) else ((zJ,(zB b q 1).1.2),(zB b q 1).2)):=by
  rw [<- hW];simp (decide:=true) only [zL,zo,Qr,if_true,if_false,true_and,and_true,false_and]
 rw [hW];clear hW;have v1:=ZU (q:=q) hr.bl;have r1:=zw (n:=1) hr;obtain ⟨N1,e1⟩ : ∃ x,zB b q 1 = x:=⟨_,rfl⟩;rw [e1] at v1 r1 eW;have v2:=Qy (q:=N1.2) hr.bl;have r2:=zw (n:=3) r1;obtain ⟨N2,e2⟩ : ∃ x,zB b N1.2 3 = x:=⟨_,rfl⟩;rw [e2] at v2 r2 eW;have wc : IntKind.u8.wrap N1.1.1 = N1.1.1:=IntWalk.u8_in _ (by omega);have wf : IntKind.u32.wrap N2.1.1 = N2.1.1:=IntWalk.u32_in _ (by omega);have f0 : (¬ N1.1.2 = 0) -> W = ((zJ,N1.1.2),N1.2):=λh0=>by rw [eW,if_neg h0]
 have f1 : (N1.1.2 = 0) -> (¬ N2.1.2 = 0) -> W = ((zJ,N2.1.2),N2.2):=λh0 h1=>by rw [eW,if_pos h0,if_neg h1]
 have f2 : (N1.1.2 = 0) -> (N2.1.2 = 0) -> (1048575 < N2.1.1) -> W = ((zJ,5),N2.2):=λh0 h1 h2=>by rw [eW,if_pos h0,if_pos h1,if_pos h2]
 have f3 : (N1.1.2 = 0) -> (N2.1.2 = 0) -> (¬ 1048575 < N2.1.1) -> W = ((⟨N1.1.1,N2.1.1,17,1,zI,zI,0,0⟩,0),N2.2):=λh0 h1 h2=>by rw [eW,if_pos h0,if_pos h1,if_neg h2]
 clear eW;obtain ⟨g1,g2⟩:=zg2;refine zR (wd:=64) (by decide) zM (zT Zk) zN Tryz.func92 rfl _ (by show 1 + 1 <= _;decide) (zZ (ZA _)) (ZZ) ?_;repeat' (first | (apply And.intro<;>intro hc<;>(first | exact Bool.noConfusion hc | exact QA hc | (simp only [Zi] at hc<;>first | exact absurd rfl hc | exact QA hc | skip) | skip)) | (refine And.intro (by exact Za) ?_) | (apply And.intro) | (refine Exists.intro b (And.intro ⟨rfl,rfl,by first | exact ⟨by assumption,by decide,by decide⟩⟩ ?_)) | (intro s hs;(first | (clear g1;have q : N1 = s:=(hs.trans e1).symm;clear hs;subst q) | (clear g2;have q : N2 = s:=(hs.trans e2).symm;clear hs;subst q) | skip)))
 all_goals try (first | exact rfl | exact Nat.le_of_ble_eq_true rfl)
 all_goals first
  | (rw [f0 ‹_›]
     exact QP)
  | (rw [f1 ‹_› ‹_›]
     exact QP)
  | (rw [f2 ‹_› ‹_› (by rw [<- wf];assumption)]
     exact QP)
  | (rw [f3 ‹_› ‹_› (by rw [<- wf];assumption)]
     exact ⟨zE ⟨qF (λj hj=>by (rcases j with _ | j;exact zA wc);(rcases j with _ | j;exact zA wf);(rcases j with _ | j;exact zA rfl);(rcases j with _ | j;exact zA rfl);(iterate 34 (rcases j with _ | j;exact zA rfl));exact absurd hj (by omega)) zm,zA rfl,trivial⟩,ZK rfl⟩)
  | skip
theorem zIk (b : List Int) (q : Int) (hr : RdOk b q) : ze Tryz.prog 92 [(cI .i64).enc 105] (qW true b q) (qj (zL b 105 q).1) (qW true b (zL b 105 q).2):=by
 obtain ⟨W,hW⟩ : ∃ W,zL b 105 q = W:=⟨_,rfl⟩;have eW : W = (if (zB b q 3).1.2 = 0 then (if 1048575 < (zB b q 3).1.1 then ((zJ,5),(zB b q 3).2) else (if (zB b (zB b q 3).2 1).1.2 = 0 then (if (zB b (zB b q 3).2 1).1.1 = 17 then ((zJ,5),(zB b (zB b q 3).2 1).2) else ((⟨0,(zB b q 3).1.1,(zB b (zB b q 3).2 1).1.1,1,zI,zI,0,0⟩,0),(zB b (zB b q 3).2 1).2)) else ((zJ,(zB b (zB b q 3).2 1).1.2),(zB b (zB b q 3).2 1).2))) else ((zJ,(zB b q 3).1.2),(zB b q 3).2)):=by
  rw [<- hW];simp (decide:=true) only [zL,zo,Qr,if_true,if_false,true_and,and_true,false_and]
 rw [hW];clear hW;have v1:=Qy (q:=q) hr.bl;have r1:=zw (n:=3) hr;obtain ⟨N1,e1⟩ : ∃ x,zB b q 3 = x:=⟨_,rfl⟩;rw [e1] at v1 r1 eW;have v2:=ZU (q:=N1.2) hr.bl;have r2:=zw (n:=1) r1;obtain ⟨N2,e2⟩ : ∃ x,zB b N1.2 1 = x:=⟨_,rfl⟩;rw [e2] at v2 r2 eW;have wf : IntKind.u32.wrap N1.1.1 = N1.1.1:=IntWalk.u32_in _ (by omega);have wn : IntKind.u8.wrap N2.1.1 = N2.1.1:=IntWalk.u8_in _ (by omega);have f0 : (¬ N1.1.2 = 0) -> W = ((zJ,N1.1.2),N1.2):=λh0=>by rw [eW,if_neg h0]
 have f1 : (N1.1.2 = 0) -> (1048575 < N1.1.1) -> W = ((zJ,5),N1.2):=λh0 h1=>by rw [eW,if_pos h0,if_pos h1]
 have f2 : (N1.1.2 = 0) -> (¬ 1048575 < N1.1.1) -> (¬ N2.1.2 = 0) -> W = ((zJ,N2.1.2),N2.2):=λh0 h1 h2=>by rw [eW,if_pos h0,if_neg h1,if_neg h2]
 have f3 : (N1.1.2 = 0) -> (¬ 1048575 < N1.1.1) -> (N2.1.2 = 0) -> (N2.1.1 = 17) -> W = ((zJ,5),N2.2):=λh0 h1 h2 h3=>by rw [eW,if_pos h0,if_neg h1,if_pos h2,if_pos h3]
 have f4 : (N1.1.2 = 0) -> (¬ 1048575 < N1.1.1) -> (N2.1.2 = 0) -> (¬ N2.1.1 = 17) -> W = ((⟨0,N1.1.1,N2.1.1,1,zI,zI,0,0⟩,0),N2.2):=λh0 h1 h2 h3=>by rw [eW,if_pos h0,if_neg h1,if_pos h2,if_neg h3]
 clear eW;obtain ⟨g1,g2⟩:=zg2;refine zR (wd:=64) (by decide) zM (zT Zk) zN Tryz.func92 rfl _ (by show 1 + 1 <= _;decide) (zZ (ZA _)) (ZZ) ?_;repeat' (first | (apply And.intro<;>intro hc<;>(first | exact Bool.noConfusion hc | exact QA hc | (simp only [Zi] at hc<;>first | exact absurd rfl hc | exact QA hc | skip) | skip)) | (refine And.intro (by exact Za) ?_) | (apply And.intro) | (refine Exists.intro b (And.intro ⟨rfl,rfl,by first | exact ⟨by assumption,by decide,by decide⟩⟩ ?_)) | (intro s hs;(first | (clear g1;have q : N1 = s:=(hs.trans e1).symm;clear hs;subst q) | (clear g2;have q : N2 = s:=(hs.trans e2).symm;clear hs;subst q) | skip)))
 all_goals try (first | exact rfl | exact Nat.le_of_ble_eq_true rfl)
 all_goals first
  | (rw [f0 ‹_›]
     exact QP)
  | (rw [f1 ‹_› (by rw [<- wf];assumption)]
     exact QP)
  | (rw [f2 ‹_› (by rw [<- wf];assumption) ‹_›]
     exact QP)
  | (rw [f3 ‹_› (by rw [<- wf];assumption) ‹_› (by rw [<- wn];assumption)]
     exact QP)
  | (rw [f4 ‹_› (by rw [<- wf];assumption) ‹_› (by rw [<- wn];assumption)]
     exact ⟨zE ⟨qF (λj hj=>by (rcases j with _ | j;exact zA rfl);(rcases j with _ | j;exact zA wf);(rcases j with _ | j;exact zA wn);(rcases j with _ | j;exact zA rfl);(iterate 34 (rcases j with _ | j;exact zA rfl));exact absurd hj (by omega)) zm,zA rfl,trivial⟩,ZK rfl⟩)
  | skip
theorem zIl (b : List Int) (q : Int) (hr : RdOk b q) : ze Tryz.prog 92 [(cI .i64).enc 109] (qW true b q) (qj (zL b 109 q).1) (qW true b (zL b 109 q).2):=by
 obtain ⟨W,hW⟩ : ∃ W,zL b 109 q = W:=⟨_,rfl⟩;have eW : W = (if (zB b q 3).1.2 = 0 then (if 1048575 < (zB b q 3).1.1 then ((zJ,5),(zB b q 3).2) else ((⟨0,(zB b q 3).1.1,17,1,zI,zI,0,0⟩,0),(zB b q 3).2)) else ((zJ,(zB b q 3).1.2),(zB b q 3).2)):=by
  rw [<- hW];simp (decide:=true) only [zL,zo,Qr,if_true,if_false,true_and,and_true,false_and]
 rw [hW];clear hW;have v1:=Qy (q:=q) hr.bl;have r1:=zw (n:=3) hr;obtain ⟨N1,e1⟩ : ∃ x,zB b q 3 = x:=⟨_,rfl⟩;rw [e1] at v1 r1 eW;have wf : IntKind.u32.wrap N1.1.1 = N1.1.1:=IntWalk.u32_in _ (by omega);have f0 : (¬ N1.1.2 = 0) -> W = ((zJ,N1.1.2),N1.2):=λh0=>by rw [eW,if_neg h0]
 have f1 : (N1.1.2 = 0) -> (1048575 < N1.1.1) -> W = ((zJ,5),N1.2):=λh0 h1=>by rw [eW,if_pos h0,if_pos h1]
 have f2 : (N1.1.2 = 0) -> (¬ 1048575 < N1.1.1) -> W = ((⟨0,N1.1.1,17,1,zI,zI,0,0⟩,0),N1.2):=λh0 h1=>by rw [eW,if_pos h0,if_neg h1]
 clear eW;have g1:=trivial;refine zR (wd:=64) (by decide) zM (zT Zk) zN Tryz.func92 rfl _ (by show 1 + 1 <= _;decide) (zZ (ZA _)) (ZZ) ?_;repeat' (first | (apply And.intro<;>intro hc<;>(first | exact Bool.noConfusion hc | exact QA hc | (simp only [Zi] at hc<;>first | exact absurd rfl hc | exact QA hc | skip) | skip)) | (refine And.intro (by exact Za) ?_) | (apply And.intro) | (refine Exists.intro b (And.intro ⟨rfl,rfl,by first | exact ⟨by assumption,by decide,by decide⟩⟩ ?_)) | (intro s hs;(first | (clear g1;have q : N1 = s:=(hs.trans e1).symm;clear hs;subst q) | skip)))
 all_goals try (first | exact rfl | exact Nat.le_of_ble_eq_true rfl)
 all_goals first
  | (rw [f0 ‹_›]
     exact QP)
  | (rw [f1 ‹_› (by rw [<- wf];assumption)]
     exact QP)
  | (rw [f2 ‹_› (by rw [<- wf];assumption)]
     exact ⟨zE ⟨qF (λj hj=>by (rcases j with _ | j;exact zA rfl);(rcases j with _ | j;exact zA wf);(rcases j with _ | j;exact zA rfl);(rcases j with _ | j;exact zA rfl);(iterate 34 (rcases j with _ | j;exact zA rfl));exact absurd hj (by omega)) zm,zA rfl,trivial⟩,ZK rfl⟩)
  | skip
theorem zIm (b : List Int) (q : Int) (hr : RdOk b q) : ze Tryz.prog 92 [(cI .i64).enc 113] (qW true b q) (qj (zL b 113 q).1) (qW true b (zL b 113 q).2):=by
 obtain ⟨W,hW⟩ : ∃ W,zL b 113 q = W:=⟨_,rfl⟩;have eW : W = (if (zB b q 1).1.2 = 0 then (if (zB b (zB b q 1).2 1).1.2 = 0 then (if (zB b (zB b q 1).2 1).1.1 = 17 then ((zJ,5),(zB b (zB b q 1).2 1).2) else ((⟨(zB b q 1).1.1,0,(zB b (zB b q 1).2 1).1.1,1,zI,zI,0,0⟩,0),(zB b (zB b q 1).2 1).2)) else ((zJ,(zB b (zB b q 1).2 1).1.2),(zB b (zB b q 1).2 1).2)) else ((zJ,(zB b q 1).1.2),(zB b q 1).2)):=by
  rw [<- hW];simp (decide:=true) only [zL,zo,Qr,if_true,if_false,true_and,and_true,false_and]
 rw [hW];clear hW;have v1:=ZU (q:=q) hr.bl;have r1:=zw (n:=1) hr;obtain ⟨N1,e1⟩ : ∃ x,zB b q 1 = x:=⟨_,rfl⟩;rw [e1] at v1 r1 eW;have v2:=ZU (q:=N1.2) hr.bl;have r2:=zw (n:=1) r1;obtain ⟨N2,e2⟩ : ∃ x,zB b N1.2 1 = x:=⟨_,rfl⟩;rw [e2] at v2 r2 eW;have wc : IntKind.u8.wrap N1.1.1 = N1.1.1:=IntWalk.u8_in _ (by omega);have wn : IntKind.u8.wrap N2.1.1 = N2.1.1:=IntWalk.u8_in _ (by omega);have f0 : (¬ N1.1.2 = 0) -> W = ((zJ,N1.1.2),N1.2):=λh0=>by rw [eW,if_neg h0]
 have f1 : (N1.1.2 = 0) -> (¬ N2.1.2 = 0) -> W = ((zJ,N2.1.2),N2.2):=λh0 h1=>by rw [eW,if_pos h0,if_neg h1]
 have f2 : (N1.1.2 = 0) -> (N2.1.2 = 0) -> (N2.1.1 = 17) -> W = ((zJ,5),N2.2):=λh0 h1 h2=>by rw [eW,if_pos h0,if_pos h1,if_pos h2]
 have f3 : (N1.1.2 = 0) -> (N2.1.2 = 0) -> (¬ N2.1.1 = 17) -> W = ((⟨N1.1.1,0,N2.1.1,1,zI,zI,0,0⟩,0),N2.2):=λh0 h1 h2=>by rw [eW,if_pos h0,if_pos h1,if_neg h2]
 clear eW;obtain ⟨g1,g2⟩:=zg2;refine zR (wd:=64) (by decide) zM (zT Zk) zN Tryz.func92 rfl _ (by show 1 + 1 <= _;decide) (zZ (ZA _)) (ZZ) ?_;repeat' (first | (apply And.intro<;>intro hc<;>(first | exact Bool.noConfusion hc | exact QA hc | (simp only [Zi] at hc<;>first | exact absurd rfl hc | exact QA hc | skip) | skip)) | (refine And.intro (by exact Za) ?_) | (apply And.intro) | (refine Exists.intro b (And.intro ⟨rfl,rfl,by first | exact ⟨by assumption,by decide,by decide⟩⟩ ?_)) | (intro s hs;(first | (clear g1;have q : N1 = s:=(hs.trans e1).symm;clear hs;subst q) | (clear g2;have q : N2 = s:=(hs.trans e2).symm;clear hs;subst q) | skip)))
 all_goals try (first | exact rfl | exact Nat.le_of_ble_eq_true rfl)
 all_goals first
  | (rw [f0 ‹_›]
     exact QP)
  | (rw [f1 ‹_› ‹_›]
     exact QP)
  | (rw [f2 ‹_› ‹_› (by rw [<- wn];assumption)]
     exact QP)
  | (rw [f3 ‹_› ‹_› (by rw [<- wn];assumption)]
     exact ⟨zE ⟨qF (λj hj=>by (rcases j with _ | j;exact zA wc);(rcases j with _ | j;exact zA rfl);(rcases j with _ | j;exact zA wn);(rcases j with _ | j;exact zA rfl);(iterate 34 (rcases j with _ | j;exact zA rfl));exact absurd hj (by omega)) zm,zA rfl,trivial⟩,ZK rfl⟩)
  | skip
theorem zIn (b : List Int) (q : Int) (hr : RdOk b q) : ze Tryz.prog 92 [(cI .i64).enc 117] (qW true b q) (qj (zL b 117 q).1) (qW true b (zL b 117 q).2):=by
 obtain ⟨W,hW⟩ : ∃ W,zL b 117 q = W:=⟨_,rfl⟩;have eW : W = (if (zB b q 1).1.2 = 0 then ((⟨(zB b q 1).1.1,0,17,1,zI,zI,0,0⟩,0),(zB b q 1).2) else ((zJ,(zB b q 1).1.2),(zB b q 1).2)):=by
  rw [<- hW];simp (decide:=true) only [zL,zo,Qr,if_true,if_false,true_and,and_true,false_and]
 rw [hW];clear hW;have v1:=ZU (q:=q) hr.bl;have r1:=zw (n:=1) hr;obtain ⟨N1,e1⟩ : ∃ x,zB b q 1 = x:=⟨_,rfl⟩;rw [e1] at v1 r1 eW;have wc : IntKind.u8.wrap N1.1.1 = N1.1.1:=IntWalk.u8_in _ (by omega);have f0 : (¬ N1.1.2 = 0) -> W = ((zJ,N1.1.2),N1.2):=λh0=>by rw [eW,if_neg h0]
 have f1 : (N1.1.2 = 0) -> W = ((⟨N1.1.1,0,17,1,zI,zI,0,0⟩,0),N1.2):=λh0=>by rw [eW,if_pos h0]
 clear eW;have g1:=trivial;refine zR (wd:=64) (by decide) zM (zT Zk) zN Tryz.func92 rfl _ (by show 1 + 1 <= _;decide) (zZ (ZA _)) (ZZ) ?_;repeat' (first | (apply And.intro<;>intro hc<;>(first | exact Bool.noConfusion hc | exact QA hc | (simp only [Zi] at hc<;>first | exact absurd rfl hc | exact QA hc | skip) | skip)) | (refine And.intro (by exact Za) ?_) | (apply And.intro) | (refine Exists.intro b (And.intro ⟨rfl,rfl,by first | exact ⟨by assumption,by decide,by decide⟩⟩ ?_)) | (intro s hs;(first | (clear g1;have q : N1 = s:=(hs.trans e1).symm;clear hs;subst q) | skip)))
 all_goals try (first | exact rfl | exact Nat.le_of_ble_eq_true rfl)
 all_goals first
  | (rw [f0 ‹_›]
     exact QP)
  | (rw [f1 ‹_›]
     exact ⟨zE ⟨qF (λj hj=>by (rcases j with _ | j;exact zA wc);(rcases j with _ | j;exact zA rfl);(rcases j with _ | j;exact zA rfl);(rcases j with _ | j;exact zA rfl);(iterate 34 (rcases j with _ | j;exact zA rfl));exact absurd hj (by omega)) zm,zA rfl,trivial⟩,ZK rfl⟩)
  | skip
theorem zIo (b : List Int) (q : Int) (hr : RdOk b q) : ze Tryz.prog 92 [(cI .i64).enc 121] (qW true b q) (qj (zL b 121 q).1) (qW true b (zL b 121 q).2):=by
 obtain ⟨W,hW⟩ : ∃ W,zL b 121 q = W:=⟨_,rfl⟩;have eW : W = (if (zB b q 1).1.2 = 0 then (if (zB b q 1).1.1 = 17 then ((zJ,5),(zB b q 1).2) else ((⟨0,0,(zB b q 1).1.1,1,zI,zI,0,0⟩,0),(zB b q 1).2)) else ((zJ,(zB b q 1).1.2),(zB b q 1).2)):=by
  rw [<- hW];simp (decide:=true) only [zL,zo,Qr,if_true,if_false,true_and,and_true,false_and]
 rw [hW];clear hW;have v1:=ZU (q:=q) hr.bl;have r1:=zw (n:=1) hr;obtain ⟨N1,e1⟩ : ∃ x,zB b q 1 = x:=⟨_,rfl⟩;rw [e1] at v1 r1 eW;have wn : IntKind.u8.wrap N1.1.1 = N1.1.1:=IntWalk.u8_in _ (by omega);have f0 : (¬ N1.1.2 = 0) -> W = ((zJ,N1.1.2),N1.2):=λh0=>by rw [eW,if_neg h0]
 have f1 : (N1.1.2 = 0) -> (N1.1.1 = 17) -> W = ((zJ,5),N1.2):=λh0 h1=>by rw [eW,if_pos h0,if_pos h1]
 have f2 : (N1.1.2 = 0) -> (¬ N1.1.1 = 17) -> W = ((⟨0,0,N1.1.1,1,zI,zI,0,0⟩,0),N1.2):=λh0 h1=>by rw [eW,if_pos h0,if_neg h1]
 clear eW;have g1:=trivial;refine zR (wd:=64) (by decide) zM (zT Zk) zN Tryz.func92 rfl _ (by show 1 + 1 <= _;decide) (zZ (ZA _)) (ZZ) ?_;repeat' (first | (apply And.intro<;>intro hc<;>(first | exact Bool.noConfusion hc | exact QA hc | (simp only [Zi] at hc<;>first | exact absurd rfl hc | exact QA hc | skip) | skip)) | (refine And.intro (by exact Za) ?_) | (apply And.intro) | (refine Exists.intro b (And.intro ⟨rfl,rfl,by first | exact ⟨by assumption,by decide,by decide⟩⟩ ?_)) | (intro s hs;(first | (clear g1;have q : N1 = s:=(hs.trans e1).symm;clear hs;subst q) | skip)))
 all_goals try (first | exact rfl | exact Nat.le_of_ble_eq_true rfl)
 all_goals first
  | (rw [f0 ‹_›]
     exact QP)
  | (rw [f1 ‹_› (by rw [<- wn];assumption)]
     exact QP)
  | (rw [f2 ‹_› (by rw [<- wn];assumption)]
     exact ⟨zE ⟨qF (λj hj=>by (rcases j with _ | j;exact zA rfl);(rcases j with _ | j;exact zA rfl);(rcases j with _ | j;exact zA wn);(rcases j with _ | j;exact zA rfl);(iterate 34 (rcases j with _ | j;exact zA rfl));exact absurd hj (by omega)) zm,zA rfl,trivial⟩,ZK rfl⟩)
  | skip
theorem zIp (b : List Int) (q : Int) (hr : RdOk b q) : ze Tryz.prog 92 [(cI .i64).enc 125] (qW true b q) (qj (zL b 125 q).1) (qW true b (zL b 125 q).2):=by
 obtain ⟨W,hW⟩ : ∃ W,zL b 125 q = W:=⟨_,rfl⟩;have eW : W = ((⟨0,0,17,1,zI,zI,0,0⟩,0),q):=by
  rw [<- hW];simp (decide:=true) only [zL,zo,Qr,if_true,if_false,true_and,and_true,false_and]
 rw [hW];clear hW;have f0 : W = ((⟨0,0,17,1,zI,zI,0,0⟩,0),q):=eW;clear eW;refine zR (wd:=64) (by decide) zM (zT Zk) zN Tryz.func92 rfl _ (by show 1 + 1 <= _;decide) (zZ (ZA _)) (ZZ) ?_;repeat' (first | (apply And.intro<;>intro hc<;>(first | exact Bool.noConfusion hc | exact QA hc | (simp only [Zi] at hc<;>first | exact absurd rfl hc | exact QA hc | skip) | skip)) | (refine And.intro (by exact Za) ?_) | (apply And.intro) | (refine Exists.intro b (And.intro ⟨rfl,rfl,by first | exact ⟨by assumption,by decide,by decide⟩⟩ ?_)) | (intro s hs;(first  | skip)))
 all_goals try (first | exact rfl | exact Nat.le_of_ble_eq_true rfl)
 all_goals first
  | (rw [f0 ]
     exact ⟨zE ⟨qF (λj hj=>by (rcases j with _ | j;exact zA rfl);(rcases j with _ | j;exact zA rfl);(rcases j with _ | j;exact zA rfl);(rcases j with _ | j;exact zA rfl);(iterate 34 (rcases j with _ | j;exact zA rfl));exact absurd hj (by omega)) zm,zA rfl,trivial⟩,ZK rfl⟩)
  | skip
theorem fields_98 (b : List Int) (q : Int) (hr : RdOk b q) : ze Tryz.prog 92 [(cI .i64).enc 98] (qW true b q) (qj (zL b 98 q).1) (qW true b (zL b 98 q).2):=by
 obtain ⟨W,hW⟩ : ∃ W,zL b 98 q = W:=⟨_,rfl⟩;have eW : W = (if (zB b q 1).1.2 = 0 then (if (zB b (zB b q 1).2 3).1.2 = 0 then (if 1048575 < (zB b (zB b q 1).2 3).1.1 then ((zJ,5),(zB b (zB b q 1).2 3).2) else (if (zB b (zB b (zB b q 1).2 3).2 1).1.2 = 0 then (if (zB b (zB b (zB b q 1).2 3).2 1).1.1 = 17 then ((zJ,5),(zB b (zB b (zB b q 1).2 3).2 1).2) else ((⟨(zB b q 1).1.1,(zB b (zB b q 1).2 3).1.1,(zB b (zB b (zB b q 1).2 3).2 1).1.1,64,zI,zI,0,0⟩,0),(zB b (zB b (zB b q 1).2 3).2 1).2)) else ((zJ,(zB b (zB b (zB b q 1).2 3).2 1).1.2),(zB b (zB b (zB b q 1).2 3).2 1).2))) else ((zJ,(zB b (zB b q 1).2 3).1.2),(zB b (zB b q 1).2 3).2)) else ((zJ,(zB b q 1).1.2),(zB b q 1).2)):=by
  rw [<- hW];simp (decide:=true) only [zL,zo,Qr,if_true,if_false,true_and,and_true,false_and]
 rw [hW];clear hW;have v1:=ZU (q:=q) hr.bl;have r1:=zw (n:=1) hr;obtain ⟨N1,e1⟩ : ∃ x,zB b q 1 = x:=⟨_,rfl⟩;rw [e1] at v1 r1 eW;have v2:=Qy (q:=N1.2) hr.bl;have r2:=zw (n:=3) r1;obtain ⟨N2,e2⟩ : ∃ x,zB b N1.2 3 = x:=⟨_,rfl⟩;rw [e2] at v2 r2 eW;have v3:=ZU (q:=N2.2) hr.bl;have r3:=zw (n:=1) r2;obtain ⟨N3,e3⟩ : ∃ x,zB b N2.2 1 = x:=⟨_,rfl⟩;rw [e3] at v3 r3 eW;have wc : IntKind.u8.wrap N1.1.1 = N1.1.1:=IntWalk.u8_in _ (by omega);have wf : IntKind.u32.wrap N2.1.1 = N2.1.1:=IntWalk.u32_in _ (by omega);have wn : IntKind.u8.wrap N3.1.1 = N3.1.1:=IntWalk.u8_in _ (by omega);have f0 : (¬ N1.1.2 = 0) -> W = ((zJ,N1.1.2),N1.2):=λh0=>by rw [eW,if_neg h0]
 have f1 : (N1.1.2 = 0) -> (¬ N2.1.2 = 0) -> W = ((zJ,N2.1.2),N2.2):=λh0 h1=>by rw [eW,if_pos h0,if_neg h1]
 have f2 : (N1.1.2 = 0) -> (N2.1.2 = 0) -> (1048575 < N2.1.1) -> W = ((zJ,5),N2.2):=λh0 h1 h2=>by rw [eW,if_pos h0,if_pos h1,if_pos h2]
 have f3 : (N1.1.2 = 0) -> (N2.1.2 = 0) -> (¬ 1048575 < N2.1.1) -> (¬ N3.1.2 = 0) -> W = ((zJ,N3.1.2),N3.2):=λh0 h1 h2 h3=>by rw [eW,if_pos h0,if_pos h1,if_neg h2,if_neg h3]
 have f4 : (N1.1.2 = 0) -> (N2.1.2 = 0) -> (¬ 1048575 < N2.1.1) -> (N3.1.2 = 0) -> (N3.1.1 = 17) -> W = ((zJ,5),N3.2):=λh0 h1 h2 h3 h4=>by rw [eW,if_pos h0,if_pos h1,if_neg h2,if_pos h3,if_pos h4]
 have f5 : (N1.1.2 = 0) -> (N2.1.2 = 0) -> (¬ 1048575 < N2.1.1) -> (N3.1.2 = 0) -> (¬ N3.1.1 = 17) -> W = ((⟨N1.1.1,N2.1.1,N3.1.1,64,zI,zI,0,0⟩,0),N3.2):=λh0 h1 h2 h3 h4=>by rw [eW,if_pos h0,if_pos h1,if_neg h2,if_pos h3,if_neg h4]
 clear eW;obtain ⟨g1,g2,g3⟩:=zg3;refine zR (wd:=64) (by decide) zM (zT Zk) zN Tryz.func92 rfl _ (by show 1 + 1 <= _;decide) (zZ (ZA _)) (ZZ) ?_;repeat' (first | (apply And.intro<;>intro hc<;>(first | exact Bool.noConfusion hc | exact QA hc | (simp only [Zi] at hc<;>first | exact absurd rfl hc | exact QA hc | skip) | skip)) | (refine And.intro (by exact Za) ?_) | (apply And.intro) | (refine Exists.intro b (And.intro ⟨rfl,rfl,by first | exact ⟨by assumption,by decide,by decide⟩⟩ ?_)) | (intro s hs;(first | (clear g1;have q : N1 = s:=(hs.trans e1).symm;clear hs;subst q) | (clear g2;have q : N2 = s:=(hs.trans e2).symm;clear hs;subst q) | (clear g3;have q : N3 = s:=(hs.trans e3).symm;clear hs;subst q) | skip)))
 all_goals try (first | exact rfl | exact Nat.le_of_ble_eq_true rfl)
 all_goals first
  | (rw [f0 ‹_›]
     exact QP)
  | (rw [f1 ‹_› ‹_›]
     exact QP)
  | (rw [f2 ‹_› ‹_› (by rw [<- wf];assumption)]
     exact QP)
  | (rw [f3 ‹_› ‹_› (by rw [<- wf];assumption) ‹_›]
     exact QP)
  | (rw [f4 ‹_› ‹_› (by rw [<- wf];assumption) ‹_› (by rw [<- wn];assumption)]
     exact QP)
  | (rw [f5 ‹_› ‹_› (by rw [<- wf];assumption) ‹_› (by rw [<- wn];assumption)]
     exact ⟨zE ⟨qF (λj hj=>by (rcases j with _ | j;exact zA wc);(rcases j with _ | j;exact zA wf);(rcases j with _ | j;exact zA wn);(rcases j with _ | j;exact zA rfl);(iterate 34 (rcases j with _ | j;exact zA rfl));exact absurd hj (by omega)) zm,zA rfl,trivial⟩,ZK rfl⟩)
  | skip
theorem zIq (b : List Int) (q : Int) (hr : RdOk b q) : ze Tryz.prog 92 [(cI .i64).enc 102] (qW true b q) (qj (zL b 102 q).1) (qW true b (zL b 102 q).2):=by
 obtain ⟨W,hW⟩ : ∃ W,zL b 102 q = W:=⟨_,rfl⟩;have eW : W = (if (zB b q 1).1.2 = 0 then (if (zB b (zB b q 1).2 3).1.2 = 0 then (if 1048575 < (zB b (zB b q 1).2 3).1.1 then ((zJ,5),(zB b (zB b q 1).2 3).2) else ((⟨(zB b q 1).1.1,(zB b (zB b q 1).2 3).1.1,17,64,zI,zI,0,0⟩,0),(zB b (zB b q 1).2 3).2)) else ((zJ,(zB b (zB b q 1).2 3).1.2),(zB b (zB b q 1).2 3).2)) else ((zJ,(zB b q 1).1.2),(zB b q 1).2)):=by
  rw [<- hW];simp (decide:=true) only [zL,zo,Qr,if_true,if_false,true_and,and_true,false_and]
 rw [hW];clear hW;have v1:=ZU (q:=q) hr.bl;have r1:=zw (n:=1) hr;obtain ⟨N1,e1⟩ : ∃ x,zB b q 1 = x:=⟨_,rfl⟩;rw [e1] at v1 r1 eW;have v2:=Qy (q:=N1.2) hr.bl;have r2:=zw (n:=3) r1;obtain ⟨N2,e2⟩ : ∃ x,zB b N1.2 3 = x:=⟨_,rfl⟩;rw [e2] at v2 r2 eW;have wc : IntKind.u8.wrap N1.1.1 = N1.1.1:=IntWalk.u8_in _ (by omega);have wf : IntKind.u32.wrap N2.1.1 = N2.1.1:=IntWalk.u32_in _ (by omega);have f0 : (¬ N1.1.2 = 0) -> W = ((zJ,N1.1.2),N1.2):=λh0=>by rw [eW,if_neg h0]
 have f1 : (N1.1.2 = 0) -> (¬ N2.1.2 = 0) -> W = ((zJ,N2.1.2),N2.2):=λh0 h1=>by rw [eW,if_pos h0,if_neg h1]
 have f2 : (N1.1.2 = 0) -> (N2.1.2 = 0) -> (1048575 < N2.1.1) -> W = ((zJ,5),N2.2):=λh0 h1 h2=>by rw [eW,if_pos h0,if_pos h1,if_pos h2]
 have f3 : (N1.1.2 = 0) -> (N2.1.2 = 0) -> (¬ 1048575 < N2.1.1) -> W = ((⟨N1.1.1,N2.1.1,17,64,zI,zI,0,0⟩,0),N2.2):=λh0 h1 h2=>by rw [eW,if_pos h0,if_pos h1,if_neg h2]
 clear eW;obtain ⟨g1,g2⟩:=zg2;refine zR (wd:=64) (by decide) zM (zT Zk) zN Tryz.func92 rfl _ (by show 1 + 1 <= _;decide) (zZ (ZA _)) (ZZ) ?_;repeat' (first | (apply And.intro<;>intro hc<;>(first | exact Bool.noConfusion hc | exact QA hc | (simp only [Zi] at hc<;>first | exact absurd rfl hc | exact QA hc | skip) | skip)) | (refine And.intro (by exact Za) ?_) | (apply And.intro) | (refine Exists.intro b (And.intro ⟨rfl,rfl,by first | exact ⟨by assumption,by decide,by decide⟩⟩ ?_)) | (intro s hs;(first | (clear g1;have q : N1 = s:=(hs.trans e1).symm;clear hs;subst q) | (clear g2;have q : N2 = s:=(hs.trans e2).symm;clear hs;subst q) | skip)))
 all_goals try (first | exact rfl | exact Nat.le_of_ble_eq_true rfl)
 all_goals first
  | (rw [f0 ‹_›]
     exact QP)
  | (rw [f1 ‹_› ‹_›]
     exact QP)
  | (rw [f2 ‹_› ‹_› (by rw [<- wf];assumption)]
     exact QP)
  | (rw [f3 ‹_› ‹_› (by rw [<- wf];assumption)]
     exact ⟨zE ⟨qF (λj hj=>by (rcases j with _ | j;exact zA wc);(rcases j with _ | j;exact zA wf);(rcases j with _ | j;exact zA rfl);(rcases j with _ | j;exact zA rfl);(iterate 34 (rcases j with _ | j;exact zA rfl));exact absurd hj (by omega)) zm,zA rfl,trivial⟩,ZK rfl⟩)
  | skip
theorem zIr (b : List Int) (q : Int) (hr : RdOk b q) : ze Tryz.prog 92 [(cI .i64).enc 106] (qW true b q) (qj (zL b 106 q).1) (qW true b (zL b 106 q).2):=by
 obtain ⟨W,hW⟩ : ∃ W,zL b 106 q = W:=⟨_,rfl⟩;have eW : W = (if (zB b q 3).1.2 = 0 then (if 1048575 < (zB b q 3).1.1 then ((zJ,5),(zB b q 3).2) else (if (zB b (zB b q 3).2 1).1.2 = 0 then (if (zB b (zB b q 3).2 1).1.1 = 17 then ((zJ,5),(zB b (zB b q 3).2 1).2) else ((⟨0,(zB b q 3).1.1,(zB b (zB b q 3).2 1).1.1,64,zI,zI,0,0⟩,0),(zB b (zB b q 3).2 1).2)) else ((zJ,(zB b (zB b q 3).2 1).1.2),(zB b (zB b q 3).2 1).2))) else ((zJ,(zB b q 3).1.2),(zB b q 3).2)):=by
  rw [<- hW];simp (decide:=true) only [zL,zo,Qr,if_true,if_false,true_and,and_true,false_and]
 rw [hW];clear hW;have v1:=Qy (q:=q) hr.bl;have r1:=zw (n:=3) hr;obtain ⟨N1,e1⟩ : ∃ x,zB b q 3 = x:=⟨_,rfl⟩;rw [e1] at v1 r1 eW;have v2:=ZU (q:=N1.2) hr.bl;have r2:=zw (n:=1) r1;obtain ⟨N2,e2⟩ : ∃ x,zB b N1.2 1 = x:=⟨_,rfl⟩;rw [e2] at v2 r2 eW;have wf : IntKind.u32.wrap N1.1.1 = N1.1.1:=IntWalk.u32_in _ (by omega);have wn : IntKind.u8.wrap N2.1.1 = N2.1.1:=IntWalk.u8_in _ (by omega);have f0 : (¬ N1.1.2 = 0) -> W = ((zJ,N1.1.2),N1.2):=λh0=>by rw [eW,if_neg h0]
 have f1 : (N1.1.2 = 0) -> (1048575 < N1.1.1) -> W = ((zJ,5),N1.2):=λh0 h1=>by rw [eW,if_pos h0,if_pos h1]
 have f2 : (N1.1.2 = 0) -> (¬ 1048575 < N1.1.1) -> (¬ N2.1.2 = 0) -> W = ((zJ,N2.1.2),N2.2):=λh0 h1 h2=>by rw [eW,if_pos h0,if_neg h1,if_neg h2]
 have f3 : (N1.1.2 = 0) -> (¬ 1048575 < N1.1.1) -> (N2.1.2 = 0) -> (N2.1.1 = 17) -> W = ((zJ,5),N2.2):=λh0 h1 h2 h3=>by rw [eW,if_pos h0,if_neg h1,if_pos h2,if_pos h3]
 have f4 : (N1.1.2 = 0) -> (¬ 1048575 < N1.1.1) -> (N2.1.2 = 0) -> (¬ N2.1.1 = 17) -> W = ((⟨0,N1.1.1,N2.1.1,64,zI,zI,0,0⟩,0),N2.2):=λh0 h1 h2 h3=>by rw [eW,if_pos h0,if_neg h1,if_pos h2,if_neg h3]
 clear eW;obtain ⟨g1,g2⟩:=zg2;refine zR (wd:=64) (by decide) zM (zT Zk) zN Tryz.func92 rfl _ (by show 1 + 1 <= _;decide) (zZ (ZA _)) (ZZ) ?_;repeat' (first | (apply And.intro<;>intro hc<;>(first | exact Bool.noConfusion hc | exact QA hc | (simp only [Zi] at hc<;>first | exact absurd rfl hc | exact QA hc | skip) | skip)) | (refine And.intro (by exact Za) ?_) | (apply And.intro) | (refine Exists.intro b (And.intro ⟨rfl,rfl,by first | exact ⟨by assumption,by decide,by decide⟩⟩ ?_)) | (intro s hs;(first | (clear g1;have q : N1 = s:=(hs.trans e1).symm;clear hs;subst q) | (clear g2;have q : N2 = s:=(hs.trans e2).symm;clear hs;subst q) | skip)))
 all_goals try (first | exact rfl | exact Nat.le_of_ble_eq_true rfl)
 all_goals first
  | (rw [f0 ‹_›]
     exact QP)
  | (rw [f1 ‹_› (by rw [<- wf];assumption)]
     exact QP)
  | (rw [f2 ‹_› (by rw [<- wf];assumption) ‹_›]
     exact QP)
  | (rw [f3 ‹_› (by rw [<- wf];assumption) ‹_› (by rw [<- wn];assumption)]
     exact QP)
  | (rw [f4 ‹_› (by rw [<- wf];assumption) ‹_› (by rw [<- wn];assumption)]
     exact ⟨zE ⟨qF (λj hj=>by (rcases j with _ | j;exact zA rfl);(rcases j with _ | j;exact zA wf);(rcases j with _ | j;exact zA wn);(rcases j with _ | j;exact zA rfl);(iterate 34 (rcases j with _ | j;exact zA rfl));exact absurd hj (by omega)) zm,zA rfl,trivial⟩,ZK rfl⟩)
  | skip
theorem zIs (b : List Int) (q : Int) (hr : RdOk b q) : ze Tryz.prog 92 [(cI .i64).enc 110] (qW true b q) (qj (zL b 110 q).1) (qW true b (zL b 110 q).2):=by
 obtain ⟨W,hW⟩ : ∃ W,zL b 110 q = W:=⟨_,rfl⟩;have eW : W = (if (zB b q 3).1.2 = 0 then (if 1048575 < (zB b q 3).1.1 then ((zJ,5),(zB b q 3).2) else ((⟨0,(zB b q 3).1.1,17,64,zI,zI,0,0⟩,0),(zB b q 3).2)) else ((zJ,(zB b q 3).1.2),(zB b q 3).2)):=by
  rw [<- hW];simp (decide:=true) only [zL,zo,Qr,if_true,if_false,true_and,and_true,false_and]
 rw [hW];clear hW;have v1:=Qy (q:=q) hr.bl;have r1:=zw (n:=3) hr;obtain ⟨N1,e1⟩ : ∃ x,zB b q 3 = x:=⟨_,rfl⟩;rw [e1] at v1 r1 eW;have wf : IntKind.u32.wrap N1.1.1 = N1.1.1:=IntWalk.u32_in _ (by omega);have f0 : (¬ N1.1.2 = 0) -> W = ((zJ,N1.1.2),N1.2):=λh0=>by rw [eW,if_neg h0]
 have f1 : (N1.1.2 = 0) -> (1048575 < N1.1.1) -> W = ((zJ,5),N1.2):=λh0 h1=>by rw [eW,if_pos h0,if_pos h1]
 have f2 : (N1.1.2 = 0) -> (¬ 1048575 < N1.1.1) -> W = ((⟨0,N1.1.1,17,64,zI,zI,0,0⟩,0),N1.2):=λh0 h1=>by rw [eW,if_pos h0,if_neg h1]
 clear eW;have g1:=trivial;refine zR (wd:=64) (by decide) zM (zT Zk) zN Tryz.func92 rfl _ (by show 1 + 1 <= _;decide) (zZ (ZA _)) (ZZ) ?_;repeat' (first | (apply And.intro<;>intro hc<;>(first | exact Bool.noConfusion hc | exact QA hc | (simp only [Zi] at hc<;>first | exact absurd rfl hc | exact QA hc | skip) | skip)) | (refine And.intro (by exact Za) ?_) | (apply And.intro) | (refine Exists.intro b (And.intro ⟨rfl,rfl,by first | exact ⟨by assumption,by decide,by decide⟩⟩ ?_)) | (intro s hs;(first | (clear g1;have q : N1 = s:=(hs.trans e1).symm;clear hs;subst q) | skip)))
 all_goals try (first | exact rfl | exact Nat.le_of_ble_eq_true rfl)
 all_goals first
  | (rw [f0 ‹_›]
     exact QP)
  | (rw [f1 ‹_› (by rw [<- wf];assumption)]
     exact QP)
  | (rw [f2 ‹_› (by rw [<- wf];assumption)]
     exact ⟨zE ⟨qF (λj hj=>by (rcases j with _ | j;exact zA rfl);(rcases j with _ | j;exact zA wf);(rcases j with _ | j;exact zA rfl);(rcases j with _ | j;exact zA rfl);(iterate 34 (rcases j with _ | j;exact zA rfl));exact absurd hj (by omega)) zm,zA rfl,trivial⟩,ZK rfl⟩)
  | skip
theorem zIt (b : List Int) (q : Int) (hr : RdOk b q) : ze Tryz.prog 92 [(cI .i64).enc 114] (qW true b q) (qj (zL b 114 q).1) (qW true b (zL b 114 q).2):=by
 obtain ⟨W,hW⟩ : ∃ W,zL b 114 q = W:=⟨_,rfl⟩;have eW : W = (if (zB b q 1).1.2 = 0 then (if (zB b (zB b q 1).2 1).1.2 = 0 then (if (zB b (zB b q 1).2 1).1.1 = 17 then ((zJ,5),(zB b (zB b q 1).2 1).2) else ((⟨(zB b q 1).1.1,0,(zB b (zB b q 1).2 1).1.1,64,zI,zI,0,0⟩,0),(zB b (zB b q 1).2 1).2)) else ((zJ,(zB b (zB b q 1).2 1).1.2),(zB b (zB b q 1).2 1).2)) else ((zJ,(zB b q 1).1.2),(zB b q 1).2)):=by
  rw [<- hW];simp (decide:=true) only [zL,zo,Qr,if_true,if_false,true_and,and_true,false_and]
 rw [hW];clear hW;have v1:=ZU (q:=q) hr.bl;have r1:=zw (n:=1) hr;obtain ⟨N1,e1⟩ : ∃ x,zB b q 1 = x:=⟨_,rfl⟩;rw [e1] at v1 r1 eW;have v2:=ZU (q:=N1.2) hr.bl;have r2:=zw (n:=1) r1;obtain ⟨N2,e2⟩ : ∃ x,zB b N1.2 1 = x:=⟨_,rfl⟩;rw [e2] at v2 r2 eW;have wc : IntKind.u8.wrap N1.1.1 = N1.1.1:=IntWalk.u8_in _ (by omega);have wn : IntKind.u8.wrap N2.1.1 = N2.1.1:=IntWalk.u8_in _ (by omega);have f0 : (¬ N1.1.2 = 0) -> W = ((zJ,N1.1.2),N1.2):=λh0=>by rw [eW,if_neg h0]
 have f1 : (N1.1.2 = 0) -> (¬ N2.1.2 = 0) -> W = ((zJ,N2.1.2),N2.2):=λh0 h1=>by rw [eW,if_pos h0,if_neg h1]
 have f2 : (N1.1.2 = 0) -> (N2.1.2 = 0) -> (N2.1.1 = 17) -> W = ((zJ,5),N2.2):=λh0 h1 h2=>by rw [eW,if_pos h0,if_pos h1,if_pos h2]
 have f3 : (N1.1.2 = 0) -> (N2.1.2 = 0) -> (¬ N2.1.1 = 17) -> W = ((⟨N1.1.1,0,N2.1.1,64,zI,zI,0,0⟩,0),N2.2):=λh0 h1 h2=>by rw [eW,if_pos h0,if_pos h1,if_neg h2]
 clear eW;obtain ⟨g1,g2⟩:=zg2;refine zR (wd:=64) (by decide) zM (zT Zk) zN Tryz.func92 rfl _ (by show 1 + 1 <= _;decide) (zZ (ZA _)) (ZZ) ?_;repeat' (first | (apply And.intro<;>intro hc<;>(first | exact Bool.noConfusion hc | exact QA hc | (simp only [Zi] at hc<;>first | exact absurd rfl hc | exact QA hc | skip) | skip)) | (refine And.intro (by exact Za) ?_) | (apply And.intro) | (refine Exists.intro b (And.intro ⟨rfl,rfl,by first | exact ⟨by assumption,by decide,by decide⟩⟩ ?_)) | (intro s hs;(first | (clear g1;have q : N1 = s:=(hs.trans e1).symm;clear hs;subst q) | (clear g2;have q : N2 = s:=(hs.trans e2).symm;clear hs;subst q) | skip)))
 all_goals try (first | exact rfl | exact Nat.le_of_ble_eq_true rfl)
 all_goals first
  | (rw [f0 ‹_›]
     exact QP)
  | (rw [f1 ‹_› ‹_›]
     exact QP)
  | (rw [f2 ‹_› ‹_› (by rw [<- wn];assumption)]
     exact QP)
  | (rw [f3 ‹_› ‹_› (by rw [<- wn];assumption)]
     exact ⟨zE ⟨qF (λj hj=>by (rcases j with _ | j;exact zA wc);(rcases j with _ | j;exact zA rfl);(rcases j with _ | j;exact zA wn);(rcases j with _ | j;exact zA rfl);(iterate 34 (rcases j with _ | j;exact zA rfl));exact absurd hj (by omega)) zm,zA rfl,trivial⟩,ZK rfl⟩)
  | skip
theorem zIu (b : List Int) (q : Int) (hr : RdOk b q) : ze Tryz.prog 92 [(cI .i64).enc 118] (qW true b q) (qj (zL b 118 q).1) (qW true b (zL b 118 q).2):=by
 obtain ⟨W,hW⟩ : ∃ W,zL b 118 q = W:=⟨_,rfl⟩;have eW : W = (if (zB b q 1).1.2 = 0 then ((⟨(zB b q 1).1.1,0,17,64,zI,zI,0,0⟩,0),(zB b q 1).2) else ((zJ,(zB b q 1).1.2),(zB b q 1).2)):=by
  rw [<- hW];simp (decide:=true) only [zL,zo,Qr,if_true,if_false,true_and,and_true,false_and]
 rw [hW];clear hW;have v1:=ZU (q:=q) hr.bl;have r1:=zw (n:=1) hr;obtain ⟨N1,e1⟩ : ∃ x,zB b q 1 = x:=⟨_,rfl⟩;rw [e1] at v1 r1 eW;have wc : IntKind.u8.wrap N1.1.1 = N1.1.1:=IntWalk.u8_in _ (by omega);have f0 : (¬ N1.1.2 = 0) -> W = ((zJ,N1.1.2),N1.2):=λh0=>by rw [eW,if_neg h0]
 have f1 : (N1.1.2 = 0) -> W = ((⟨N1.1.1,0,17,64,zI,zI,0,0⟩,0),N1.2):=λh0=>by rw [eW,if_pos h0]
 clear eW;have g1:=trivial;refine zR (wd:=64) (by decide) zM (zT Zk) zN Tryz.func92 rfl _ (by show 1 + 1 <= _;decide) (zZ (ZA _)) (ZZ) ?_;repeat' (first | (apply And.intro<;>intro hc<;>(first | exact Bool.noConfusion hc | exact QA hc | (simp only [Zi] at hc<;>first | exact absurd rfl hc | exact QA hc | skip) | skip)) | (refine And.intro (by exact Za) ?_) | (apply And.intro) | (refine Exists.intro b (And.intro ⟨rfl,rfl,by first | exact ⟨by assumption,by decide,by decide⟩⟩ ?_)) | (intro s hs;(first | (clear g1;have q : N1 = s:=(hs.trans e1).symm;clear hs;subst q) | skip)))
 all_goals try (first | exact rfl | exact Nat.le_of_ble_eq_true rfl)
 all_goals first
  | (rw [f0 ‹_›]
     exact QP)
  | (rw [f1 ‹_›]
     exact ⟨zE ⟨qF (λj hj=>by (rcases j with _ | j;exact zA wc);(rcases j with _ | j;exact zA rfl);(rcases j with _ | j;exact zA rfl);(rcases j with _ | j;exact zA rfl);(iterate 34 (rcases j with _ | j;exact zA rfl));exact absurd hj (by omega)) zm,zA rfl,trivial⟩,ZK rfl⟩)
  | skip
theorem zIv (b : List Int) (q : Int) (hr : RdOk b q) : ze Tryz.prog 92 [(cI .i64).enc 122] (qW true b q) (qj (zL b 122 q).1) (qW true b (zL b 122 q).2):=by
 obtain ⟨W,hW⟩ : ∃ W,zL b 122 q = W:=⟨_,rfl⟩;have eW : W = (if (zB b q 1).1.2 = 0 then (if (zB b q 1).1.1 = 17 then ((zJ,5),(zB b q 1).2) else ((⟨0,0,(zB b q 1).1.1,64,zI,zI,0,0⟩,0),(zB b q 1).2)) else ((zJ,(zB b q 1).1.2),(zB b q 1).2)):=by
  rw [<- hW];simp (decide:=true) only [zL,zo,Qr,if_true,if_false,true_and,and_true,false_and]
 rw [hW];clear hW;have v1:=ZU (q:=q) hr.bl;have r1:=zw (n:=1) hr;obtain ⟨N1,e1⟩ : ∃ x,zB b q 1 = x:=⟨_,rfl⟩;rw [e1] at v1 r1 eW;have wn : IntKind.u8.wrap N1.1.1 = N1.1.1:=IntWalk.u8_in _ (by omega);have f0 : (¬ N1.1.2 = 0) -> W = ((zJ,N1.1.2),N1.2):=λh0=>by rw [eW,if_neg h0]
 have f1 : (N1.1.2 = 0) -> (N1.1.1 = 17) -> W = ((zJ,5),N1.2):=λh0 h1=>by rw [eW,if_pos h0,if_pos h1]
 have f2 : (N1.1.2 = 0) -> (¬ N1.1.1 = 17) -> W = ((⟨0,0,N1.1.1,64,zI,zI,0,0⟩,0),N1.2):=λh0 h1=>by rw [eW,if_pos h0,if_neg h1]
 clear eW;have g1:=trivial;refine zR (wd:=64) (by decide) zM (zT Zk) zN Tryz.func92 rfl _ (by show 1 + 1 <= _;decide) (zZ (ZA _)) (ZZ) ?_;repeat' (first | (apply And.intro<;>intro hc<;>(first | exact Bool.noConfusion hc | exact QA hc | (simp only [Zi] at hc<;>first | exact absurd rfl hc | exact QA hc | skip) | skip)) | (refine And.intro (by exact Za) ?_) | (apply And.intro) | (refine Exists.intro b (And.intro ⟨rfl,rfl,by first | exact ⟨by assumption,by decide,by decide⟩⟩ ?_)) | (intro s hs;(first | (clear g1;have q : N1 = s:=(hs.trans e1).symm;clear hs;subst q) | skip)))
 all_goals try (first | exact rfl | exact Nat.le_of_ble_eq_true rfl)
 all_goals first
  | (rw [f0 ‹_›]
     exact QP)
  | (rw [f1 ‹_› (by rw [<- wn];assumption)]
     exact QP)
  | (rw [f2 ‹_› (by rw [<- wn];assumption)]
     exact ⟨zE ⟨qF (λj hj=>by (rcases j with _ | j;exact zA rfl);(rcases j with _ | j;exact zA rfl);(rcases j with _ | j;exact zA wn);(rcases j with _ | j;exact zA rfl);(iterate 34 (rcases j with _ | j;exact zA rfl));exact absurd hj (by omega)) zm,zA rfl,trivial⟩,ZK rfl⟩)
  | skip
theorem zIw (b : List Int) (q : Int) (hr : RdOk b q) : ze Tryz.prog 92 [(cI .i64).enc 126] (qW true b q) (qj (zL b 126 q).1) (qW true b (zL b 126 q).2):=by
 obtain ⟨W,hW⟩ : ∃ W,zL b 126 q = W:=⟨_,rfl⟩;have eW : W = ((⟨0,0,17,64,zI,zI,0,0⟩,0),q):=by
  rw [<- hW];simp (decide:=true) only [zL,zo,Qr,if_true,if_false,true_and,and_true,false_and]
 rw [hW];clear hW;have f0 : W = ((⟨0,0,17,64,zI,zI,0,0⟩,0),q):=eW;clear eW;refine zR (wd:=64) (by decide) zM (zT Zk) zN Tryz.func92 rfl _ (by show 1 + 1 <= _;decide) (zZ (ZA _)) (ZZ) ?_;repeat' (first | (apply And.intro<;>intro hc<;>(first | exact Bool.noConfusion hc | exact QA hc | (simp only [Zi] at hc<;>first | exact absurd rfl hc | exact QA hc | skip) | skip)) | (refine And.intro (by exact Za) ?_) | (apply And.intro) | (refine Exists.intro b (And.intro ⟨rfl,rfl,by first | exact ⟨by assumption,by decide,by decide⟩⟩ ?_)) | (intro s hs;(first  | skip)))
 all_goals try (first | exact rfl | exact Nat.le_of_ble_eq_true rfl)
 all_goals first
  | (rw [f0 ]
     exact ⟨zE ⟨qF (λj hj=>by (rcases j with _ | j;exact zA rfl);(rcases j with _ | j;exact zA rfl);(rcases j with _ | j;exact zA rfl);(rcases j with _ | j;exact zA rfl);(iterate 34 (rcases j with _ | j;exact zA rfl));exact absurd hj (by omega)) zm,zA rfl,trivial⟩,ZK rfl⟩)
  | skip
theorem fields_99 (b : List Int) (q : Int) (hr : RdOk b q) : ze Tryz.prog 92 [(cI .i64).enc 99] (qW true b q) (qj (zL b 99 q).1) (qW true b (zL b 99 q).2):=by
 obtain ⟨W,hW⟩ : ∃ W,zL b 99 q = W:=⟨_,rfl⟩;have eW : W = (if (zB b q 1).1.2 = 0 then (if (zB b (zB b q 1).2 3).1.2 = 0 then (if 1048575 < (zB b (zB b q 1).2 3).1.1 then ((zJ,5),(zB b (zB b q 1).2 3).2) else (if (zB b (zB b (zB b q 1).2 3).2 1).1.2 = 0 then (if (zB b (zB b (zB b q 1).2 3).2 1).1.1 = 17 then ((zJ,5),(zB b (zB b (zB b q 1).2 3).2 1).2) else ((⟨(zB b q 1).1.1,(zB b (zB b q 1).2 3).1.1,(zB b (zB b (zB b q 1).2 3).2 1).1.1,255,zI,zI,0,0⟩,0),(zB b (zB b (zB b q 1).2 3).2 1).2)) else ((zJ,(zB b (zB b (zB b q 1).2 3).2 1).1.2),(zB b (zB b (zB b q 1).2 3).2 1).2))) else ((zJ,(zB b (zB b q 1).2 3).1.2),(zB b (zB b q 1).2 3).2)) else ((zJ,(zB b q 1).1.2),(zB b q 1).2)):=by
  rw [<- hW];simp (decide:=true) only [zL,zo,Qr,if_true,if_false,true_and,and_true,false_and]
 rw [hW];clear hW;have v1:=ZU (q:=q) hr.bl;have r1:=zw (n:=1) hr;obtain ⟨N1,e1⟩ : ∃ x,zB b q 1 = x:=⟨_,rfl⟩;rw [e1] at v1 r1 eW;have v2:=Qy (q:=N1.2) hr.bl;have r2:=zw (n:=3) r1;obtain ⟨N2,e2⟩ : ∃ x,zB b N1.2 3 = x:=⟨_,rfl⟩;rw [e2] at v2 r2 eW;have v3:=ZU (q:=N2.2) hr.bl;have r3:=zw (n:=1) r2;obtain ⟨N3,e3⟩ : ∃ x,zB b N2.2 1 = x:=⟨_,rfl⟩;rw [e3] at v3 r3 eW;have wc : IntKind.u8.wrap N1.1.1 = N1.1.1:=IntWalk.u8_in _ (by omega);have wf : IntKind.u32.wrap N2.1.1 = N2.1.1:=IntWalk.u32_in _ (by omega);have wn : IntKind.u8.wrap N3.1.1 = N3.1.1:=IntWalk.u8_in _ (by omega);have f0 : (¬ N1.1.2 = 0) -> W = ((zJ,N1.1.2),N1.2):=λh0=>by rw [eW,if_neg h0]
 have f1 : (N1.1.2 = 0) -> (¬ N2.1.2 = 0) -> W = ((zJ,N2.1.2),N2.2):=λh0 h1=>by rw [eW,if_pos h0,if_neg h1]
 have f2 : (N1.1.2 = 0) -> (N2.1.2 = 0) -> (1048575 < N2.1.1) -> W = ((zJ,5),N2.2):=λh0 h1 h2=>by rw [eW,if_pos h0,if_pos h1,if_pos h2]
 have f3 : (N1.1.2 = 0) -> (N2.1.2 = 0) -> (¬ 1048575 < N2.1.1) -> (¬ N3.1.2 = 0) -> W = ((zJ,N3.1.2),N3.2):=λh0 h1 h2 h3=>by rw [eW,if_pos h0,if_pos h1,if_neg h2,if_neg h3]
 have f4 : (N1.1.2 = 0) -> (N2.1.2 = 0) -> (¬ 1048575 < N2.1.1) -> (N3.1.2 = 0) -> (N3.1.1 = 17) -> W = ((zJ,5),N3.2):=λh0 h1 h2 h3 h4=>by rw [eW,if_pos h0,if_pos h1,if_neg h2,if_pos h3,if_pos h4]
 have f5 : (N1.1.2 = 0) -> (N2.1.2 = 0) -> (¬ 1048575 < N2.1.1) -> (N3.1.2 = 0) -> (¬ N3.1.1 = 17) -> W = ((⟨N1.1.1,N2.1.1,N3.1.1,255,zI,zI,0,0⟩,0),N3.2):=λh0 h1 h2 h3 h4=>by rw [eW,if_pos h0,if_pos h1,if_neg h2,if_pos h3,if_neg h4]
 clear eW;obtain ⟨g1,g2,g3⟩:=zg3;refine zR (wd:=64) (by decide) zM (zT Zk) zN Tryz.func92 rfl _ (by show 1 + 1 <= _;decide) (zZ (ZA _)) (ZZ) ?_;repeat' (first | (apply And.intro<;>intro hc<;>(first | exact Bool.noConfusion hc | exact QA hc | (simp only [Zi] at hc<;>first | exact absurd rfl hc | exact QA hc | skip) | skip)) | (refine And.intro (by exact Za) ?_) | (apply And.intro) | (refine Exists.intro b (And.intro ⟨rfl,rfl,by first | exact ⟨by assumption,by decide,by decide⟩⟩ ?_)) | (intro s hs;(first | (clear g1;have q : N1 = s:=(hs.trans e1).symm;clear hs;subst q) | (clear g2;have q : N2 = s:=(hs.trans e2).symm;clear hs;subst q) | (clear g3;have q : N3 = s:=(hs.trans e3).symm;clear hs;subst q) | skip)))
 all_goals try (first | exact rfl | exact Nat.le_of_ble_eq_true rfl)
 all_goals first
  | (rw [f0 ‹_›]
     exact QP)
  | (rw [f1 ‹_› ‹_›]
     exact QP)
  | (rw [f2 ‹_› ‹_› (by rw [<- wf];assumption)]
     exact QP)
  | (rw [f3 ‹_› ‹_› (by rw [<- wf];assumption) ‹_›]
     exact QP)
  | (rw [f4 ‹_› ‹_› (by rw [<- wf];assumption) ‹_› (by rw [<- wn];assumption)]
     exact QP)
  | (rw [f5 ‹_› ‹_› (by rw [<- wf];assumption) ‹_› (by rw [<- wn];assumption)]
     exact ⟨zE ⟨qF (λj hj=>by (rcases j with _ | j;exact zA wc);(rcases j with _ | j;exact zA wf);(rcases j with _ | j;exact zA wn);(rcases j with _ | j;exact zA rfl);(iterate 34 (rcases j with _ | j;exact zA rfl));exact absurd hj (by omega)) zm,zA rfl,trivial⟩,ZK rfl⟩)
  | skip
theorem zIx (b : List Int) (q : Int) (hr : RdOk b q) : ze Tryz.prog 92 [(cI .i64).enc 103] (qW true b q) (qj (zL b 103 q).1) (qW true b (zL b 103 q).2):=by
 obtain ⟨W,hW⟩ : ∃ W,zL b 103 q = W:=⟨_,rfl⟩;have eW : W = (if (zB b q 1).1.2 = 0 then (if (zB b (zB b q 1).2 3).1.2 = 0 then (if 1048575 < (zB b (zB b q 1).2 3).1.1 then ((zJ,5),(zB b (zB b q 1).2 3).2) else ((⟨(zB b q 1).1.1,(zB b (zB b q 1).2 3).1.1,17,255,zI,zI,0,0⟩,0),(zB b (zB b q 1).2 3).2)) else ((zJ,(zB b (zB b q 1).2 3).1.2),(zB b (zB b q 1).2 3).2)) else ((zJ,(zB b q 1).1.2),(zB b q 1).2)):=by
  rw [<- hW];simp (decide:=true) only [zL,zo,Qr,if_true,if_false,true_and,and_true,false_and]
 rw [hW];clear hW;have v1:=ZU (q:=q) hr.bl;have r1:=zw (n:=1) hr;obtain ⟨N1,e1⟩ : ∃ x,zB b q 1 = x:=⟨_,rfl⟩;rw [e1] at v1 r1 eW;have v2:=Qy (q:=N1.2) hr.bl;have r2:=zw (n:=3) r1;obtain ⟨N2,e2⟩ : ∃ x,zB b N1.2 3 = x:=⟨_,rfl⟩;rw [e2] at v2 r2 eW;have wc : IntKind.u8.wrap N1.1.1 = N1.1.1:=IntWalk.u8_in _ (by omega);have wf : IntKind.u32.wrap N2.1.1 = N2.1.1:=IntWalk.u32_in _ (by omega);have f0 : (¬ N1.1.2 = 0) -> W = ((zJ,N1.1.2),N1.2):=λh0=>by rw [eW,if_neg h0]
 have f1 : (N1.1.2 = 0) -> (¬ N2.1.2 = 0) -> W = ((zJ,N2.1.2),N2.2):=λh0 h1=>by rw [eW,if_pos h0,if_neg h1]
 have f2 : (N1.1.2 = 0) -> (N2.1.2 = 0) -> (1048575 < N2.1.1) -> W = ((zJ,5),N2.2):=λh0 h1 h2=>by rw [eW,if_pos h0,if_pos h1,if_pos h2]
 have f3 : (N1.1.2 = 0) -> (N2.1.2 = 0) -> (¬ 1048575 < N2.1.1) -> W = ((⟨N1.1.1,N2.1.1,17,255,zI,zI,0,0⟩,0),N2.2):=λh0 h1 h2=>by rw [eW,if_pos h0,if_pos h1,if_neg h2]
 clear eW;obtain ⟨g1,g2⟩:=zg2;refine zR (wd:=64) (by decide) zM (zT Zk) zN Tryz.func92 rfl _ (by show 1 + 1 <= _;decide) (zZ (ZA _)) (ZZ) ?_;repeat' (first | (apply And.intro<;>intro hc<;>(first | exact Bool.noConfusion hc | exact QA hc | (simp only [Zi] at hc<;>first | exact absurd rfl hc | exact QA hc | skip) | skip)) | (refine And.intro (by exact Za) ?_) | (apply And.intro) | (refine Exists.intro b (And.intro ⟨rfl,rfl,by first | exact ⟨by assumption,by decide,by decide⟩⟩ ?_)) | (intro s hs;(first | (clear g1;have q : N1 = s:=(hs.trans e1).symm;clear hs;subst q) | (clear g2;have q : N2 = s:=(hs.trans e2).symm;clear hs;subst q) | skip)))
 all_goals try (first | exact rfl | exact Nat.le_of_ble_eq_true rfl)
 all_goals first
  | (rw [f0 ‹_›]
     exact QP)
  | (rw [f1 ‹_› ‹_›]
     exact QP)
  | (rw [f2 ‹_› ‹_› (by rw [<- wf];assumption)]
     exact QP)
  | (rw [f3 ‹_› ‹_› (by rw [<- wf];assumption)]
     exact ⟨zE ⟨qF (λj hj=>by (rcases j with _ | j;exact zA wc);(rcases j with _ | j;exact zA wf);(rcases j with _ | j;exact zA rfl);(rcases j with _ | j;exact zA rfl);(iterate 34 (rcases j with _ | j;exact zA rfl));exact absurd hj (by omega)) zm,zA rfl,trivial⟩,ZK rfl⟩)
  | skip
theorem zIy (b : List Int) (q : Int) (hr : RdOk b q) : ze Tryz.prog 92 [(cI .i64).enc 107] (qW true b q) (qj (zL b 107 q).1) (qW true b (zL b 107 q).2):=by
 obtain ⟨W,hW⟩ : ∃ W,zL b 107 q = W:=⟨_,rfl⟩;have eW : W = (if (zB b q 3).1.2 = 0 then (if 1048575 < (zB b q 3).1.1 then ((zJ,5),(zB b q 3).2) else (if (zB b (zB b q 3).2 1).1.2 = 0 then (if (zB b (zB b q 3).2 1).1.1 = 17 then ((zJ,5),(zB b (zB b q 3).2 1).2) else ((⟨0,(zB b q 3).1.1,(zB b (zB b q 3).2 1).1.1,255,zI,zI,0,0⟩,0),(zB b (zB b q 3).2 1).2)) else ((zJ,(zB b (zB b q 3).2 1).1.2),(zB b (zB b q 3).2 1).2))) else ((zJ,(zB b q 3).1.2),(zB b q 3).2)):=by
  rw [<- hW];simp (decide:=true) only [zL,zo,Qr,if_true,if_false,true_and,and_true,false_and]
 rw [hW];clear hW;have v1:=Qy (q:=q) hr.bl;have r1:=zw (n:=3) hr;obtain ⟨N1,e1⟩ : ∃ x,zB b q 3 = x:=⟨_,rfl⟩;rw [e1] at v1 r1 eW;have v2:=ZU (q:=N1.2) hr.bl;have r2:=zw (n:=1) r1;obtain ⟨N2,e2⟩ : ∃ x,zB b N1.2 1 = x:=⟨_,rfl⟩;rw [e2] at v2 r2 eW;have wf : IntKind.u32.wrap N1.1.1 = N1.1.1:=IntWalk.u32_in _ (by omega);have wn : IntKind.u8.wrap N2.1.1 = N2.1.1:=IntWalk.u8_in _ (by omega);have f0 : (¬ N1.1.2 = 0) -> W = ((zJ,N1.1.2),N1.2):=λh0=>by rw [eW,if_neg h0]
 have f1 : (N1.1.2 = 0) -> (1048575 < N1.1.1) -> W = ((zJ,5),N1.2):=λh0 h1=>by rw [eW,if_pos h0,if_pos h1]
 have f2 : (N1.1.2 = 0) -> (¬ 1048575 < N1.1.1) -> (¬ N2.1.2 = 0) -> W = ((zJ,N2.1.2),N2.2):=λh0 h1 h2=>by rw [eW,if_pos h0,if_neg h1,if_neg h2]
 have f3 : (N1.1.2 = 0) -> (¬ 1048575 < N1.1.1) -> (N2.1.2 = 0) -> (N2.1.1 = 17) -> W = ((zJ,5),N2.2):=λh0 h1 h2 h3=>by rw [eW,if_pos h0,if_neg h1,if_pos h2,if_pos h3]
 have f4 : (N1.1.2 = 0) -> (¬ 1048575 < N1.1.1) -> (N2.1.2 = 0) -> (¬ N2.1.1 = 17) -> W = ((⟨0,N1.1.1,N2.1.1,255,zI,zI,0,0⟩,0),N2.2):=λh0 h1 h2 h3=>by rw [eW,if_pos h0,if_neg h1,if_pos h2,if_neg h3]
 clear eW;obtain ⟨g1,g2⟩:=zg2;refine zR (wd:=64) (by decide) zM (zT Zk) zN Tryz.func92 rfl _ (by show 1 + 1 <= _;decide) (zZ (ZA _)) (ZZ) ?_;repeat' (first | (apply And.intro<;>intro hc<;>(first | exact Bool.noConfusion hc | exact QA hc | (simp only [Zi] at hc<;>first | exact absurd rfl hc | exact QA hc | skip) | skip)) | (refine And.intro (by exact Za) ?_) | (apply And.intro) | (refine Exists.intro b (And.intro ⟨rfl,rfl,by first | exact ⟨by assumption,by decide,by decide⟩⟩ ?_)) | (intro s hs;(first | (clear g1;have q : N1 = s:=(hs.trans e1).symm;clear hs;subst q) | (clear g2;have q : N2 = s:=(hs.trans e2).symm;clear hs;subst q) | skip)))
 all_goals try (first | exact rfl | exact Nat.le_of_ble_eq_true rfl)
 all_goals first
  | (rw [f0 ‹_›]
     exact QP)
  | (rw [f1 ‹_› (by rw [<- wf];assumption)]
     exact QP)
  | (rw [f2 ‹_› (by rw [<- wf];assumption) ‹_›]
     exact QP)
  | (rw [f3 ‹_› (by rw [<- wf];assumption) ‹_› (by rw [<- wn];assumption)]
     exact QP)
  | (rw [f4 ‹_› (by rw [<- wf];assumption) ‹_› (by rw [<- wn];assumption)]
     exact ⟨zE ⟨qF (λj hj=>by (rcases j with _ | j;exact zA rfl);(rcases j with _ | j;exact zA wf);(rcases j with _ | j;exact zA wn);(rcases j with _ | j;exact zA rfl);(iterate 34 (rcases j with _ | j;exact zA rfl));exact absurd hj (by omega)) zm,zA rfl,trivial⟩,ZK rfl⟩)
  | skip
theorem zIz (b : List Int) (q : Int) (hr : RdOk b q) : ze Tryz.prog 92 [(cI .i64).enc 111] (qW true b q) (qj (zL b 111 q).1) (qW true b (zL b 111 q).2):=by
 obtain ⟨W,hW⟩ : ∃ W,zL b 111 q = W:=⟨_,rfl⟩;have eW : W = (if (zB b q 3).1.2 = 0 then (if 1048575 < (zB b q 3).1.1 then ((zJ,5),(zB b q 3).2) else ((⟨0,(zB b q 3).1.1,17,255,zI,zI,0,0⟩,0),(zB b q 3).2)) else ((zJ,(zB b q 3).1.2),(zB b q 3).2)):=by
  rw [<- hW];simp (decide:=true) only [zL,zo,Qr,if_true,if_false,true_and,and_true,false_and]
 rw [hW];clear hW;have v1:=Qy (q:=q) hr.bl;have r1:=zw (n:=3) hr;obtain ⟨N1,e1⟩ : ∃ x,zB b q 3 = x:=⟨_,rfl⟩;rw [e1] at v1 r1 eW;have wf : IntKind.u32.wrap N1.1.1 = N1.1.1:=IntWalk.u32_in _ (by omega);have f0 : (¬ N1.1.2 = 0) -> W = ((zJ,N1.1.2),N1.2):=λh0=>by rw [eW,if_neg h0]
 have f1 : (N1.1.2 = 0) -> (1048575 < N1.1.1) -> W = ((zJ,5),N1.2):=λh0 h1=>by rw [eW,if_pos h0,if_pos h1]
 have f2 : (N1.1.2 = 0) -> (¬ 1048575 < N1.1.1) -> W = ((⟨0,N1.1.1,17,255,zI,zI,0,0⟩,0),N1.2):=λh0 h1=>by rw [eW,if_pos h0,if_neg h1]
 clear eW;have g1:=trivial;refine zR (wd:=64) (by decide) zM (zT Zk) zN Tryz.func92 rfl _ (by show 1 + 1 <= _;decide) (zZ (ZA _)) (ZZ) ?_;repeat' (first | (apply And.intro<;>intro hc<;>(first | exact Bool.noConfusion hc | exact QA hc | (simp only [Zi] at hc<;>first | exact absurd rfl hc | exact QA hc | skip) | skip)) | (refine And.intro (by exact Za) ?_) | (apply And.intro) | (refine Exists.intro b (And.intro ⟨rfl,rfl,by first | exact ⟨by assumption,by decide,by decide⟩⟩ ?_)) | (intro s hs;(first | (clear g1;have q : N1 = s:=(hs.trans e1).symm;clear hs;subst q) | skip)))
 all_goals try (first | exact rfl | exact Nat.le_of_ble_eq_true rfl)
 all_goals first
  | (rw [f0 ‹_›]
     exact QP)
  | (rw [f1 ‹_› (by rw [<- wf];assumption)]
     exact QP)
  | (rw [f2 ‹_› (by rw [<- wf];assumption)]
     exact ⟨zE ⟨qF (λj hj=>by (rcases j with _ | j;exact zA rfl);(rcases j with _ | j;exact zA wf);(rcases j with _ | j;exact zA rfl);(rcases j with _ | j;exact zA rfl);(iterate 34 (rcases j with _ | j;exact zA rfl));exact absurd hj (by omega)) zm,zA rfl,trivial⟩,ZK rfl⟩)
  | skip
theorem zI0 (b : List Int) (q : Int) (hr : RdOk b q) : ze Tryz.prog 92 [(cI .i64).enc 115] (qW true b q) (qj (zL b 115 q).1) (qW true b (zL b 115 q).2):=by
 obtain ⟨W,hW⟩ : ∃ W,zL b 115 q = W:=⟨_,rfl⟩;have eW : W = (if (zB b q 1).1.2 = 0 then (if (zB b (zB b q 1).2 1).1.2 = 0 then (if (zB b (zB b q 1).2 1).1.1 = 17 then ((zJ,5),(zB b (zB b q 1).2 1).2) else ((⟨(zB b q 1).1.1,0,(zB b (zB b q 1).2 1).1.1,255,zI,zI,0,0⟩,0),(zB b (zB b q 1).2 1).2)) else ((zJ,(zB b (zB b q 1).2 1).1.2),(zB b (zB b q 1).2 1).2)) else ((zJ,(zB b q 1).1.2),(zB b q 1).2)):=by
  rw [<- hW];simp (decide:=true) only [zL,zo,Qr,if_true,if_false,true_and,and_true,false_and]
 rw [hW];clear hW;have v1:=ZU (q:=q) hr.bl;have r1:=zw (n:=1) hr;obtain ⟨N1,e1⟩ : ∃ x,zB b q 1 = x:=⟨_,rfl⟩;rw [e1] at v1 r1 eW;have v2:=ZU (q:=N1.2) hr.bl;have r2:=zw (n:=1) r1;obtain ⟨N2,e2⟩ : ∃ x,zB b N1.2 1 = x:=⟨_,rfl⟩;rw [e2] at v2 r2 eW;have wc : IntKind.u8.wrap N1.1.1 = N1.1.1:=IntWalk.u8_in _ (by omega);have wn : IntKind.u8.wrap N2.1.1 = N2.1.1:=IntWalk.u8_in _ (by omega);have f0 : (¬ N1.1.2 = 0) -> W = ((zJ,N1.1.2),N1.2):=λh0=>by rw [eW,if_neg h0]
 have f1 : (N1.1.2 = 0) -> (¬ N2.1.2 = 0) -> W = ((zJ,N2.1.2),N2.2):=λh0 h1=>by rw [eW,if_pos h0,if_neg h1]
 have f2 : (N1.1.2 = 0) -> (N2.1.2 = 0) -> (N2.1.1 = 17) -> W = ((zJ,5),N2.2):=λh0 h1 h2=>by rw [eW,if_pos h0,if_pos h1,if_pos h2]
 have f3 : (N1.1.2 = 0) -> (N2.1.2 = 0) -> (¬ N2.1.1 = 17) -> W = ((⟨N1.1.1,0,N2.1.1,255,zI,zI,0,0⟩,0),N2.2):=λh0 h1 h2=>by rw [eW,if_pos h0,if_pos h1,if_neg h2]
 clear eW;obtain ⟨g1,g2⟩:=zg2;refine zR (wd:=64) (by decide) zM (zT Zk) zN Tryz.func92 rfl _ (by show 1 + 1 <= _;decide) (zZ (ZA _)) (ZZ) ?_;repeat' (first | (apply And.intro<;>intro hc<;>(first | exact Bool.noConfusion hc | exact QA hc | (simp only [Zi] at hc<;>first | exact absurd rfl hc | exact QA hc | skip) | skip)) | (refine And.intro (by exact Za) ?_) | (apply And.intro) | (refine Exists.intro b (And.intro ⟨rfl,rfl,by first | exact ⟨by assumption,by decide,by decide⟩⟩ ?_)) | (intro s hs;(first | (clear g1;have q : N1 = s:=(hs.trans e1).symm;clear hs;subst q) | (clear g2;have q : N2 = s:=(hs.trans e2).symm;clear hs;subst q) | skip)))
 all_goals try (first | exact rfl | exact Nat.le_of_ble_eq_true rfl)
 all_goals first
  | (rw [f0 ‹_›]
     exact QP)
  | (rw [f1 ‹_› ‹_›]
     exact QP)
  | (rw [f2 ‹_› ‹_› (by rw [<- wn];assumption)]
     exact QP)
  | (rw [f3 ‹_› ‹_› (by rw [<- wn];assumption)]
     exact ⟨zE ⟨qF (λj hj=>by (rcases j with _ | j;exact zA wc);(rcases j with _ | j;exact zA rfl);(rcases j with _ | j;exact zA wn);(rcases j with _ | j;exact zA rfl);(iterate 34 (rcases j with _ | j;exact zA rfl));exact absurd hj (by omega)) zm,zA rfl,trivial⟩,ZK rfl⟩)
  | skip
theorem zI1 (b : List Int) (q : Int) (hr : RdOk b q) : ze Tryz.prog 92 [(cI .i64).enc 119] (qW true b q) (qj (zL b 119 q).1) (qW true b (zL b 119 q).2):=by
 obtain ⟨W,hW⟩ : ∃ W,zL b 119 q = W:=⟨_,rfl⟩;have eW : W = (if (zB b q 1).1.2 = 0 then ((⟨(zB b q 1).1.1,0,17,255,zI,zI,0,0⟩,0),(zB b q 1).2) else ((zJ,(zB b q 1).1.2),(zB b q 1).2)):=by
  rw [<- hW];simp (decide:=true) only [zL,zo,Qr,if_true,if_false,true_and,and_true,false_and]
 rw [hW];clear hW;have v1:=ZU (q:=q) hr.bl;have r1:=zw (n:=1) hr;obtain ⟨N1,e1⟩ : ∃ x,zB b q 1 = x:=⟨_,rfl⟩;rw [e1] at v1 r1 eW;have wc : IntKind.u8.wrap N1.1.1 = N1.1.1:=IntWalk.u8_in _ (by omega);have f0 : (¬ N1.1.2 = 0) -> W = ((zJ,N1.1.2),N1.2):=λh0=>by rw [eW,if_neg h0]
 have f1 : (N1.1.2 = 0) -> W = ((⟨N1.1.1,0,17,255,zI,zI,0,0⟩,0),N1.2):=λh0=>by rw [eW,if_pos h0]
 clear eW;have g1:=trivial;refine zR (wd:=64) (by decide) zM (zT Zk) zN Tryz.func92 rfl _ (by show 1 + 1 <= _;decide) (zZ (ZA _)) (ZZ) ?_;repeat' (first | (apply And.intro<;>intro hc<;>(first | exact Bool.noConfusion hc | exact QA hc | (simp only [Zi] at hc<;>first | exact absurd rfl hc | exact QA hc | skip) | skip)) | (refine And.intro (by exact Za) ?_) | (apply And.intro) | (refine Exists.intro b (And.intro ⟨rfl,rfl,by first | exact ⟨by assumption,by decide,by decide⟩⟩ ?_)) | (intro s hs;(first | (clear g1;have q : N1 = s:=(hs.trans e1).symm;clear hs;subst q) | skip)))
 all_goals try (first | exact rfl | exact Nat.le_of_ble_eq_true rfl)
 all_goals first
  | (rw [f0 ‹_›]
     exact QP)
  | (rw [f1 ‹_›]
     exact ⟨zE ⟨qF (λj hj=>by (rcases j with _ | j;exact zA wc);(rcases j with _ | j;exact zA rfl);(rcases j with _ | j;exact zA rfl);(rcases j with _ | j;exact zA rfl);(iterate 34 (rcases j with _ | j;exact zA rfl));exact absurd hj (by omega)) zm,zA rfl,trivial⟩,ZK rfl⟩)
  | skip
theorem zI2 (b : List Int) (q : Int) (hr : RdOk b q) : ze Tryz.prog 92 [(cI .i64).enc 123] (qW true b q) (qj (zL b 123 q).1) (qW true b (zL b 123 q).2):=by
 obtain ⟨W,hW⟩ : ∃ W,zL b 123 q = W:=⟨_,rfl⟩;have eW : W = (if (zB b q 1).1.2 = 0 then (if (zB b q 1).1.1 = 17 then ((zJ,5),(zB b q 1).2) else ((⟨0,0,(zB b q 1).1.1,255,zI,zI,0,0⟩,0),(zB b q 1).2)) else ((zJ,(zB b q 1).1.2),(zB b q 1).2)):=by
  rw [<- hW];simp (decide:=true) only [zL,zo,Qr,if_true,if_false,true_and,and_true,false_and]
 rw [hW];clear hW;have v1:=ZU (q:=q) hr.bl;have r1:=zw (n:=1) hr;obtain ⟨N1,e1⟩ : ∃ x,zB b q 1 = x:=⟨_,rfl⟩;rw [e1] at v1 r1 eW;have wn : IntKind.u8.wrap N1.1.1 = N1.1.1:=IntWalk.u8_in _ (by omega);have f0 : (¬ N1.1.2 = 0) -> W = ((zJ,N1.1.2),N1.2):=λh0=>by rw [eW,if_neg h0]
 have f1 : (N1.1.2 = 0) -> (N1.1.1 = 17) -> W = ((zJ,5),N1.2):=λh0 h1=>by rw [eW,if_pos h0,if_pos h1]
 have f2 : (N1.1.2 = 0) -> (¬ N1.1.1 = 17) -> W = ((⟨0,0,N1.1.1,255,zI,zI,0,0⟩,0),N1.2):=λh0 h1=>by rw [eW,if_pos h0,if_neg h1]
 clear eW;have g1:=trivial;refine zR (wd:=64) (by decide) zM (zT Zk) zN Tryz.func92 rfl _ (by show 1 + 1 <= _;decide) (zZ (ZA _)) (ZZ) ?_;repeat' (first | (apply And.intro<;>intro hc<;>(first | exact Bool.noConfusion hc | exact QA hc | (simp only [Zi] at hc<;>first | exact absurd rfl hc | exact QA hc | skip) | skip)) | (refine And.intro (by exact Za) ?_) | (apply And.intro) | (refine Exists.intro b (And.intro ⟨rfl,rfl,by first | exact ⟨by assumption,by decide,by decide⟩⟩ ?_)) | (intro s hs;(first | (clear g1;have q : N1 = s:=(hs.trans e1).symm;clear hs;subst q) | skip)))
 all_goals try (first | exact rfl | exact Nat.le_of_ble_eq_true rfl)
 all_goals first
  | (rw [f0 ‹_›]
     exact QP)
  | (rw [f1 ‹_› (by rw [<- wn];assumption)]
     exact QP)
  | (rw [f2 ‹_› (by rw [<- wn];assumption)]
     exact ⟨zE ⟨qF (λj hj=>by (rcases j with _ | j;exact zA rfl);(rcases j with _ | j;exact zA rfl);(rcases j with _ | j;exact zA wn);(rcases j with _ | j;exact zA rfl);(iterate 34 (rcases j with _ | j;exact zA rfl));exact absurd hj (by omega)) zm,zA rfl,trivial⟩,ZK rfl⟩)
  | skip
theorem zI3 (b : List Int) (q : Int) (hr : RdOk b q) : ze Tryz.prog 92 [(cI .i64).enc 127] (qW true b q) (qj (zL b 127 q).1) (qW true b (zL b 127 q).2):=by
 obtain ⟨W,hW⟩ : ∃ W,zL b 127 q = W:=⟨_,rfl⟩;have eW : W = ((⟨0,0,17,255,zI,zI,0,0⟩,0),q):=by
  rw [<- hW];simp (decide:=true) only [zL,zo,Qr,if_true,if_false,true_and,and_true,false_and]
 rw [hW];clear hW;have f0 : W = ((⟨0,0,17,255,zI,zI,0,0⟩,0),q):=eW;clear eW;refine zR (wd:=64) (by decide) zM (zT Zk) zN Tryz.func92 rfl _ (by show 1 + 1 <= _;decide) (zZ (ZA _)) (ZZ) ?_;repeat' (first | (apply And.intro<;>intro hc<;>(first | exact Bool.noConfusion hc | exact QA hc | (simp only [Zi] at hc<;>first | exact absurd rfl hc | exact QA hc | skip) | skip)) | (refine And.intro (by exact Za) ?_) | (apply And.intro) | (refine Exists.intro b (And.intro ⟨rfl,rfl,by first | exact ⟨by assumption,by decide,by decide⟩⟩ ?_)) | (intro s hs;(first  | skip)))
 all_goals try (first | exact rfl | exact Nat.le_of_ble_eq_true rfl)
 all_goals first
  | (rw [f0 ]
     exact ⟨zE ⟨qF (λj hj=>by (rcases j with _ | j;exact zA rfl);(rcases j with _ | j;exact zA rfl);(rcases j with _ | j;exact zA rfl);(rcases j with _ | j;exact zA rfl);(iterate 34 (rcases j with _ | j;exact zA rfl));exact absurd hj (by omega)) zm,zA rfl,trivial⟩,ZK rfl⟩)
  | skip
theorem zIb (b : List Int) (x q : Int) (hr : RdOk b q) (hx : 96 <= x /\ x <= 127) : ze Tryz.prog 92 [(cI .i64).enc x] (qW true b q) (qj (zL b x q).1) (qW true b (zL b x q).2):=by
 have h : x = 96 \/ x = 97 \/ x = 98 \/ x = 99 \/ x = 100 \/ x = 101 \/ x = 102 \/ x = 103 \/ x = 104 \/ x = 105 \/ x = 106 \/ x = 107 \/ x = 108 \/ x = 109 \/ x = 110 \/ x = 111 \/ x = 112 \/ x = 113 \/ x = 114 \/ x = 115 \/ x = 116 \/ x = 117 \/ x = 118 \/ x = 119 \/ x = 120 \/ x = 121 \/ x = 122 \/ x = 123 \/ x = 124 \/ x = 125 \/ x = 126 \/ x = 127:=by omega
 rcases h with rfl | rfl | rfl | rfl | rfl | rfl | rfl | rfl | rfl | rfl | rfl | rfl | rfl | rfl | rfl | rfl | rfl | rfl | rfl | rfl | rfl | rfl | rfl | rfl | rfl | rfl | rfl | rfl | rfl | rfl | rfl | rfl
 . exact fields_96 b q hr
 . exact fields_97 b q hr
 . exact fields_98 b q hr
 . exact fields_99 b q hr
 . exact zIc b q hr
 . exact zIj b q hr
 . exact zIq b q hr
 . exact zIx b q hr
 . exact zId b q hr
 . exact zIk b q hr
 . exact zIr b q hr
 . exact zIy b q hr
 . exact zIe b q hr
 . exact zIl b q hr
 . exact zIs b q hr
 . exact zIz b q hr
 . exact zIf b q hr
 . exact zIm b q hr
 . exact zIt b q hr
 . exact zI0 b q hr
 . exact zIg b q hr
 . exact zIn b q hr
 . exact zIu b q hr
 . exact zI1 b q hr
 . exact zIh b q hr
 . exact zIo b q hr
 . exact zIv b q hr
 . exact zI2 b q hr
 . exact zIi b q hr
 . exact zIp b q hr
 . exact zIw b q hr
 . exact zI3 b q hr
def allB : Nat -> (Nat -> Bool) -> Bool
 | 0,_=>true
 | n + 1,p=>allB n p && p n
theorem zHH : ∀ {n : Nat} {p : Nat -> Bool},allB n p = true -> ∀ i,i < n -> p i = true:=by
 intro n;induction n with
 | zero=>intro p _ i hi;omega
 | succ n ih=>
   intro p h i hi;unfold allB at h;rw [Bool.and_eq_true] at h;rcases Nat.lt_or_ge i n with h' | h'
   . exact ih h.1 i h'
   . have : i = n:=by omega
     subst this;exact h.2
def ptrLt (nm : Nat) : CV -> Bool
 | .int _ _=>true
 | .bool _=>true
 | .ptr k _ _ _=>Nat.blt k nm
 | _=>false
def argLt (nm : Nat) : FV -> Bool
 | .e (.c x)=>ptrLt nm x
 | _=>false
def zDz : CV -> Bool
 | .int _ _=>true
 | .bool _=>true
 | .ptr _ _ _ _=>true
 | _=>false
def zFg : FV -> Bool
 | .e (.c (.fn _ n m a))=>allB (n + m) λk=>zDz (a k)
 | .e (.c x)=>zDz x
 | _=>false
def zD0 (nm : Nat) : Hp -> Bool
 | []=>true
 | (k,some e) :: l=>Nat.ble nm k && (allB e.n λi=>allB e.sz λj=>zDz (e.f i j)) && zD0 nm l
 | (_,none) :: _=>false
theorem zBp {x : CV} (h : zDz x = true) {r r' : Qj} {X X' W W' : Nat -> Prop} {w w' : World} {v : Value} (hr : ∀ k b,r k = some b -> r' k = some b) (hx : x.rel r X W w v) : x.rel r' X' W' w' v:=by
 cases x with
 | int=>exact hx
 | bool=>exact hx
 | ptr=>obtain ⟨b,hb,h2⟩:=hx;exact ⟨b,⟨hr _ _ hb.1,hb.2⟩,h2⟩
 | _=>cases h
theorem ptrLt_rel {nm : Nat} {x : CV} (h : ptrLt nm x = true) {r r' : Qj} {X X' W W' : Nat -> Prop} {w w' : World} {v : Value} (hr : ∀ k b,k < nm -> r k = some b -> r' k = some b) (hx : x.rel r X W w v) : x.rel r' X' W' w' v:=by
 cases x with
 | int=>exact hx
 | bool=>exact hx
 | ptr k=>obtain ⟨b,hb,h2⟩:=hx;exact ⟨b,⟨hr _ _ (Nat.le_of_ble_eq_true h) hb.1,hb.2⟩,h2⟩
 | _=>cases h
theorem zI4 {x : FV} (h : zFg x = true) {r r' : Qj} {X X' W W' : Nat -> Prop} {w w' : World} {v : Value} (hr : ∀ k b,r k = some b -> r' k = some b) (hx : x.rel r X W w v) : x.rel r' X' W' w' v:=by
 unfold zFg at h;split at h
 . rename_i f n m a;obtain ⟨fs,cs,rfl,h1,h2,h3,h4⟩:=hx;have hk : ∀ k,k < n + m -> zDz (a k) = true:=λk hk=>zHH h k hk;refine ⟨fs,cs,rfl,h1,h2,λk u hu=>zBp (hk k ?_) hr (h3 k u hu),λk u hu=>zBp (hk (n + k) ?_) hr (h4 k u hu)⟩
   . have:=(Array.getElem?_eq_some_iff.1 hu).1;omega
   . have:=(Array.getElem?_eq_some_iff.1 hu).1;omega
 . exact zBp h hr hx
 . cases h
theorem zGT {nm : Nat} : ∀ {H : Hp},zD0 nm H = true -> ∀ k e,zP H k = some e -> nm <= k /\ ∀ i,i < e.n -> ∀ j,j < e.sz -> zDz (e.f i j) = true:=by
 intro H;induction H with
 | nil=>intro _ k e h;cases h
 | cons p H ih=>
   obtain ⟨k0,x⟩:=p;intro h k e he;cases x with
   | none=>cases h
   | some e0=>
     unfold zD0 at h;rw [Bool.and_eq_true,Bool.and_eq_true] at h;by_cases hk : k = k0
     . subst hk;have e1 : zP ((k,some e0) :: H) k = some e0:=zu _ _ _ _;rw [e1] at he;injection he with he;subst he;exact ⟨Nat.le_of_ble_eq_true h.1.1,λi hi j hj=>zHH (zHH h.1.2 i hi) j hj⟩
     . have e1 : zP ((k0,some e0) :: H) k = zP H k:=zg _ _ _ hk;rw [e1] at he;exact ih h.2 k e he
def inl0E (T : Tys) (Q : Qs) (wi nt : Nat) (rv : List ResultVar) (c : Code) : ZD:=λargs H nm wd=>
 bif args.all (argLt nm) then some λK=>Nat.ble args.length nt = true /\ qo T Q wi nt nm c (Ya args 0) [] nm (YQ T rv λx Hf nf=>(Nat.ble nf (nm + wd) = true /\ zD0 nm Hf = true /\ zFg x = true) /\ K x Hf []) else none
theorem inl0E_ok {P : Program} {T : Tys} {Q : Qs} {wi : Nat} (hwi : 0 < wi) (hT : qO P T) (hQ : zBR P Q) (hM : zCn Q) (hm : P.follows .mixedOrders = true) {f : FuncId} {fn : Func} {c : Code} (hf : P.funcs[f]? = some fn) (hb : fn.body = some c) (hnm : (fn.name == "runtime.NumGoroutine") = false) : EntOk P f (inl0E T Q wi fn.ntmps fn.results.toList c):=by
 refine ⟨λargs H nm wd q hwd hq K hK=>?_,λargs H nm wd q hq K K' hKK hK=>?_⟩
 . obtain ⟨hargs,hq⟩:=ZN hq;subst hq;obtain ⟨hn,hK⟩:=hK;have hn:=Nat.le_of_ble_eq_true hn;obtain ⟨⟨x,Hf,nf⟩,⟨⟨hle,hpH,hpV⟩,hKL⟩,hex⟩:=zDr (α:=FV × Hp × Nat) (post:=λa x H n=>x = a.1 /\ H = a.2.1 /\ n = a.2.2) (S:=λa=>(Nat.ble a.2.2 (nm + wd) = true /\ zD0 nm a.2.1 = true /\ zFg a.1 = true) /\ K a.1 a.2.1 []) hwi hQ
    (zAh hM c _ _ (zCO λx Hf nf h=>⟨(x,Hf,nf),h,rfl,rfl,rfl⟩) _ _ _ hK)
   have hle:=Nat.le_of_ble_eq_true hle;refine ⟨x,Hf,[],⟨⟨fn,hf,by rw [hb];rfl,hnm⟩,λH' hh cx r w vals st hfr hw hrel=>?_⟩,hKL⟩;have hr0 : ∀ k,nm <= k -> (if k < nm then r k else none) = none:=λk hk=>if_neg (by omega);have hr1 : ∀ k,k < nm -> (if k < nm then r k else none) = r k:=λk hk=>if_pos hk;have hr2 : ∀ k y,(if k < nm then r k else none) = some y -> k < nm /\ r k = some y:=λk y h=>by
    by_cases hk : k < nm
    . rw [if_pos hk] at h;exact ⟨hk,h⟩
    . rw [if_neg hk] at h;cases h
   have hG : GlobOk (λb=>False \/ (∃ k y,r k = some y /\ y.b = b) \/ False) w:=zAf (gl_in st) λp _ h=>h.elim False.elim λh=>h.elim (λh=>.inr (.inl h)) False.elim;refine (zCm (np:=nm) (cx:=⟨w,λb=>∃ k y,r k = some y /\ y.b = b,λ_=>False,λ_=>False,λk=>if k < nm then r k else none⟩) (r:=λk=>if k < nm then r k else none) (H0:=[]) hwi hT (QR_ok P) hm hf hb hn hex (λk b hk=>(hr2 k b hk).1)
    ⟨rfl,rfl,rfl,Nat.le_refl _,λ_ _ _=>rfl,⟨λb hb=>hb.elim,hG⟩,λk y hk=>?_,(λk e y he _=>by cases he),(λn m e1 e2 y z h=>by cases h),λk b hk=>hk,(λk e he=>by cases he)⟩ ⟨hrel.1,λi y u hy hu=>?_⟩ (λk hk=>⟨hr0 k hk,rfl⟩)).mono λe w' he=>?_
   . obtain ⟨_,hk⟩:=hr2 k y hk;exact ⟨(st.dom k y hk).1,.inr ⟨k,y,hk,rfl⟩,λh=>h⟩
   . have hl : argLt nm y = true:=List.all_eq_true.1 hargs y (List.mem_of_getElem? hy);have h0:=hrel.2 i y u hy hu;cases y with
     | e z=>
       cases z with
       | c z=>exact ptrLt_rel hl (λk b hk hb=>by rw [if_pos hk];exact hb) h0
       | agg=>cases hl
     | _=>cases hl
   . obtain ⟨v,r',x',Hf',nf',rfl,⟨e1,e2,e3⟩,st',hn',hx,hlow⟩:=he;dsimp only at e1 e2 e3;rw [e2] at st' hx hn';rw [e1] at hx;rw [e3] at hn';clear e1 e2 e3;have hle2 : ∀ k,nm + wd <= k -> r' k = none /\ zP Hf k = none:=λk hk=>hn' k (Nat.le_trans hle hk);have hin : ∀ k,nm <= k -> k < nm + wd -> (if nm <= k /\ k < nm + wd then r' k else r k) = r' k:=λk h1 h2=>if_pos ⟨h1,h2⟩;have hout : ∀ k,¬ (nm <= k /\ k < nm + wd) -> (if nm <= k /\ k < nm + wd then r' k else r k) = r k:=λk h=>if_neg h;have hall : ∀ k y,r k = some y -> (if nm <= k /\ k < nm + wd then r' k else r k) = some y:=λk y hk=>by
      by_cases h : nm <= k /\ k < nm + wd
      . rw [(hfr k h.1 h.2).1] at hk;cases hk
      . rw [if_neg h];exact hk
     have hall' : ∀ k y,r' k = some y -> (if nm <= k /\ k < nm + wd then r' k else r k) = some y:=λk y hk=>by
      by_cases h : nm <= k /\ k < nm + wd
      . rw [if_pos h];exact hk
      . rw [if_neg h];by_cases h1 : k < nm
        . rw [hlow k h1,hr1 k h1] at hk;exact hk
        . rw [(hle2 k (by omega)).1] at hk;cases hk
     have hHf : ∀ k e,zP Hf k = some e -> nm <= k /\ k < nm + wd:=λk e he=>by
      refine ⟨(zGT hpH k e he).1,?_⟩;rcases Nat.lt_or_ge k (nm + wd) with h | h
      . exact h
      . rw [(hle2 k h).2] at he;cases he
     have hnew : ∀ k e y,zP Hf k = some e -> r' k = some y -> w.heap.size <= y.b:=λk e y he hy=>by
      rcases st'.ow k e y he hy with h | h
      . exact h
      . exact h.elim
     have hsplit : ∀ k e,zP (Hf ++ H') k = some e -> (zP Hf k = some e /\ nm <= k /\ k < nm + wd) \/ (zP H' k = some e /\ ¬ (nm <= k /\ k < nm + wd)):=λk e he=>by
      have he' : qr none (Hf ++ H') k = some e:=he;rw [Zp] at he';cases hk : Zl Hf k with
      | true=>
        rw [hk,cond_true] at he';exact .inl ⟨he',hHf k e he'⟩
      | false=>
        rw [hk,cond_false] at he';refine .inr ⟨he',λh=>?_⟩;have:=(hfr k h.1 h.2).2;have he2 : zP H' k = some e:=he';rw [this] at he2;cases he2
     have hwr2 : ∀ b,b < w.heap.size -> wr (λk=>if nm <= k /\ k < nm + wd then r' k else r k) (Hf ++ H') b -> wr r H' b:=by
      rintro b hb ⟨k,e,y,he,hy,rfl⟩;have hy' : (if nm <= k /\ k < nm + wd then r' k else r k) = some y:=hy;rcases hsplit k e he with ⟨h1,h2⟩ | ⟨h1,h2⟩
      . rw [if_pos h2] at hy';have:=hnew k e y h1 hy';omega
      . rw [if_neg h2] at hy';exact ⟨k,e,y,h1,hy',rfl⟩
     have hE : Ext r (wr r H') w (λk=>if nm <= k /\ k < nm + wd then r' k else r k) (wr (λk=>if nm <= k /\ k < nm + wd then r' k else r k) (Hf ++ H')) w':=
      ⟨hall,st'.size,λb hb _=>st'.kept b hb (λh=>h),λb hb hW=>hwr2 b hb hW⟩
     refine ⟨v,rfl,λk=>if nm <= k /\ k < nm + wd then r' k else r k,hE,⟨st'.os.trans st.os,st'.tape.trans st.tape,st'.output.trans st.output,Nat.le_trans st.size st'.size,λb hb hne=>?_,st.xlt,λk y hk=>?_,λk e y he hy=>?_,λn m e1 e2 y z h1 h2 hy hz hyz=>?_,λk b hk=>hall k b (st.pin k b hk),λk e he=>?_⟩,λk hk=>hout k (by omega),λk e he=>?_,?_⟩
     . rw [<- st.kept b hb hne];exact st'.kept b (Nat.lt_of_lt_of_le hb st.size) (λh=>h)
     . have hk' : (if nm <= k /\ k < nm + wd then r' k else r k) = some y:=hk;by_cases h : nm <= k /\ k < nm + wd
       . rw [if_pos h] at hk';obtain ⟨d1,d2,_⟩:=st'.dom k y hk';rcases d2 with d2 | ⟨k0,y0,d4,d5⟩
         . refine ⟨d1,.inl (Nat.le_trans st.size d2),λhX=>?_⟩;have:=Nat.lt_of_lt_of_le (st.xlt.lt _ hX) st.size;have d2' : w.heap.size <= y.b:=d2;omega
         . obtain ⟨a1,a2,a3⟩:=st.dom k0 y0 d4;rw [d5] at a1 a2 a3;exact ⟨d1,a2,a3⟩
       . rw [if_neg h] at hk';obtain ⟨a1,a2,a3⟩:=st.dom k y hk';exact ⟨Nat.lt_of_lt_of_le a1 st'.size,a2,a3⟩
     . have hy' : (if nm <= k /\ k < nm + wd then r' k else r k) = some y:=hy;rcases hsplit k e he with ⟨h1,h2⟩ | ⟨h1,h2⟩
       . rw [if_pos h2] at hy';exact .inl (Nat.le_trans st.size (hnew k e y h1 hy'))
       . rw [if_neg h2] at hy';exact st.ow k e y h1 hy'
     . have hy' : (if nm <= n /\ n < nm + wd then r' n else r n) = some y:=hy;have hz' : (if nm <= m /\ m < nm + wd then r' m else r m) = some z:=hz;rcases hsplit n e1 h1 with ⟨a1,a2⟩ | ⟨a1,a2⟩
       . rw [if_pos a2] at hy';rcases hsplit m e2 h2 with ⟨b1,b2⟩ | ⟨b1,b2⟩
         . rw [if_pos b2] at hz';exact st'.inj n m e1 e2 y z a1 b1 hy' hz' hyz
         . rw [if_neg b2] at hz';have:=hnew n e1 y a1 hy';have:=(st.dom m z hz').1;omega
       . rw [if_neg a2] at hy';rcases hsplit m e2 h2 with ⟨b1,b2⟩ | ⟨b1,b2⟩
         . rw [if_pos b2] at hz';have:=hnew m e2 z b1 hz';have:=(st.dom n y hy').1;omega
         . rw [if_neg b2] at hz';exact st.inj n m e1 e2 y z a1 b1 hy' hz' hyz
     . rcases hsplit k e he with ⟨h1,h2⟩ | ⟨h1,h2⟩
       . have hb:=st'.blk k e h1;show Qm _ cx.X _ w' e (if nm <= k /\ k < nm + wd then r' k else r k) w'.heap;rw [if_pos h2];exact QJ rfl rfl rfl rfl (λi hi j hj u hu=>zBp ((zGT hpH k e h1).2 i hi j hj) hall' hu) hb
       . have hold:=st.old h1 rfl (w':=w') λy hy=>st'.kept _ (st.dom k y hy).1 (λh=>h);show Qm _ cx.X _ w' e (if nm <= k /\ k < nm + wd then r' k else r k) w'.heap;rw [if_neg h2];exact hold.ext hE
     . rcases hsplit k e he with ⟨h1,h2⟩ | ⟨h1,h2⟩
       . exact .inl ⟨.inl h2.1,h2.2⟩
       . exact .inr ⟨e,h1⟩
     . exact zI4 hpV hall' hx
 . obtain ⟨hargs,hq⟩:=ZN hq;subst hq;exact ⟨hK.1,zAh hM c _ _ (zCO λx Hf nf h=>⟨h.1,hKK _ _ _ h.2⟩) _ _ _ hK.2⟩
def findC (a : List Ctx × Int × Int) : Nat -> CV:=nth [.rp false 1 (λ_=>.sl false a.1.length zb.sz (zn zb a.1)),.rp false 1 (λ_=>.int .i64 a.2.1),.rp false 1 (λ_=>.int .i64 a.2.2)]
theorem rp_of {cx : Cx} {r : Qj} {H' : Hp} {w : World} {k : Nat} {fl : Bool} {e : Ent} {rd : List Nat} {X' : Nat -> Prop} {g : CV} {u : Value} (st : St cx r H' w) (he : zP H' k = some e) (hk : k ∈ rd) (hn : 0 < e.n) (hsz : 0 < e.sz)
 (hc : ∀ u,(e.f 0 0).rel r cx.X (wr r H') w u -> g.rel (λ_=>none) X' (YU r H' rd) w u) (h : (CV.ptr k 0 0 fl).rel r cx.X (wr r H') w u) : (CV.rp false 1 λ_=>g).rel (λ_=>none) X' (YU r H' rd) w u:=by
 obtain ⟨y,hy,rfl⟩:=h;refine ⟨⟨y.b,0 * y.sz + 0,none⟩,rfl,rfl,?_,(λh=>by cases h),(st.dom k y hy.1).1,λj hj=>?_⟩
 . rintro ⟨k2,e2,z,q1,q2,q3,q4⟩;have:=st.inj k2 k e2 e z y q1 he q2 hy.1 q3;exact q4 (by rw [this];exact hk)
 . obtain rfl : j = 0:=by omega
   obtain ⟨u,hu,hr⟩:=Qt st he hy (i:=0) (j:=0) hn hsz;exact ⟨u,hu,hc u hr⟩
theorem slC_in {cx : Cx} {r : Qj} {H' : Hp} {w : World} {sh : Bool} {n : Nat} {f : Nat -> Nat -> CV} {X' : Nat -> Prop} {rd : List Nat} {u : Value} (hok : ∀ i,i < n -> zb.ok (f i) = true) (h : (CV.sl sh n zb.sz f).rel r cx.X (wr r H') w u) :
 (CV.sl false (Zw zb n f).length zb.sz (zn zb (Zw zb n f))).rel (λ_=>none) X' (YU r H' rd) w u:=by
 obtain ⟨a,cap,rfl,h1,h2⟩:=h;rw [zS];refine ⟨a,cap,rfl,h1,λh0=>?_⟩;obtain ⟨ad,rfl,hs,ho,hx,hlt,hc⟩:=h2 h0;refine ⟨ad,rfl,hs,λ⟨k,e,x,g1,g2,g3,_⟩=>ho ⟨k,e,x,g1,g2,g3⟩,(λh=>by cases h),hlt,λi hi j hj=>?_⟩;obtain ⟨u,hu,hr⟩:=hc i hi j hj;refine ⟨u,hu,?_⟩;rw [zb.ok_eq _ (hok i hi) j hj] at hr;have e : zn zb (Zw zb n f) i j = zb.cell (zb.rd (f i)) j:=by
  unfold zn Zw;rw [List.getD_eq_getElem?_getD,List.getElem?_map,List.getElem?_range hi];rfl
 rw [e];exact (zb.flat _ _) _ _ _ _ _ _ _ _ _ hr
def zCi : Codec (List Ctx × Int × Int) where
 enc a:=.e (.c (.fn 94 0 3 (findC a)))
 dec H x:=match x with
  | .e (.c (.fn f n m a))=>match a 0,a 1,a 2 with
    | .ptr k0 0 0 _,.ptr k1 0 0 _,.ptr k2 0 0 _=>match zP H k0,zP H k1,zP H k2 with
      | some ⟨_,n0,z0,_,f0⟩,some ⟨_,n1,z1,_,f1⟩,some ⟨_,n2,z2,_,f2⟩=>match f0 0 0,f1 0 0,f2 0 0 with
        | .sl _ ln s g,.int .i64 id,.int .i64 now=>bif Nat.beq f 94 && Nat.beq n 0 && Nat.beq m 3 && Nat.beq s zb.sz && Nat.blt 0 n0 && Nat.blt 0 z0 && Nat.blt 0 n1 && Nat.blt 0 z1 && Nat.blt 0 n2 && Nat.blt 0 z2 then
           some ((Zw zb ln g,id,now),some (∀ i,i < ln -> zb.ok (g i) = true),[k0,k1,k2]) else none
        | _,_,_=>none
      | _,_,_=>none
    | _,_,_=>none
  | _=>none
 sound H H' x a p rd h hp hh:=by
  split at h
  . rename_i f n m a0;split at h
    . rename_i k0 fl0 k1 fl1 k2 fl2 ha0 ha1 ha2;split at h
      . rename_i t0 n0 z0 v0 f0 t1 n1 z1 v1 f1 t2 n2 z2 v2 f2 he0 he1 he2;split at h
        . rename_i sh ln s g id now hc0 hc1 hc2;obtain ⟨hb,h⟩:=ZN h;injection h with h h';injection h' with h' h'';subst h h' h'';simp only [Bool.and_eq_true] at hb;obtain ⟨⟨⟨⟨⟨⟨⟨⟨⟨b1,b2⟩,b3⟩,b4⟩,b5⟩,b6⟩,b7⟩,b8⟩,b9⟩,b10⟩:=hb;have b1:=Nat.eq_of_beq_eq_true b1;have b2:=Nat.eq_of_beq_eq_true b2;have b3:=Nat.eq_of_beq_eq_true b3;have b4:=Nat.eq_of_beq_eq_true b4;subst b1 b2 b3 b4;have g0 : zP H' k0 = some ⟨t0,n0,z0,v0,f0⟩:=by rw [<- hh k0 (by simp)];exact he0
          have g1 : zP H' k1 = some ⟨t1,n1,z1,v1,f1⟩:=by rw [<- hh k1 (by simp)];exact he1
          have g2 : zP H' k2 = some ⟨t2,n2,z2,v2,f2⟩:=by rw [<- hh k2 (by simp)];exact he2
          rintro cx r w v st ⟨fs,cs,rfl,h1,h2,h3,h4⟩;refine ⟨fs,cs,rfl,h1,h2,λk u hu=>?_,λk u hu=>?_⟩
          . have:=(Array.getElem?_eq_some_iff.1 hu).1;omega
          . have hk:=(Array.getElem?_eq_some_iff.1 hu).1;have hr:=h4 k u hu;rw [Nat.zero_add] at hr ⊢;rcases (show k = 0 \/ k = 1 \/ k = 2 by omega) with rfl | rfl | rfl
            . rw [ha0] at hr;exact rp_of st g0 (by simp) (Nat.le_of_ble_eq_true b5) (Nat.le_of_ble_eq_true b6) (λu hu=>slC_in (sh:=sh) hp (by rw [<- hc0];exact hu)) hr
            . rw [ha1] at hr;exact rp_of st g1 (by simp) (Nat.le_of_ble_eq_true b7) (Nat.le_of_ble_eq_true b8) (λu hu=>(show (CV.int .i64 id).rel r cx.X (wr r H') w u by rw [<- hc1];exact hu)) hr
            . rw [ha2] at hr;exact rp_of st g2 (by simp) (Nat.le_of_ble_eq_true b9) (Nat.le_of_ble_eq_true b10) (λu hu=>(show (CV.int .i64 now).rel r cx.X (wr r H') w u by rw [<- hc2];exact hu)) hr
        . cases h
      . cases h
    . cases h
  . cases h
theorem zGS {r : Qj} {H : Hp} {rd : List Nat} : ∀ b,YU r H rd b -> wr r H b:=λb ⟨k,e,x,g1,g2,g3,_⟩=>⟨k,e,x,g1,g2,g3⟩
def cRpI : Codec Int where
 enc a:=.e (.c (.rp false 1 λ_=>.int .i64 a))
 dec H x:=match x with
  | .e (.c (.rp _ m g))=>match g 0 with
    | .int .i64 v=>bif Nat.beq m 1 then some (v,none,[]) else none
    | _=>none
  | _=>none
 sound H H' x a p rd h hp hh:=by
  split at h
  . rename_i sh m g;split at h
    . rename_i v hg;obtain ⟨hb,h5⟩:=ZN h;have hb:=Nat.eq_of_beq_eq_true hb;subst hb;injection h5 with h6 h7;injection h7 with h7 h8;subst h6 h7 h8;rintro cx r w u st ⟨ad,rfl,hs,ho,hx,hlt,hq⟩;refine ⟨ad,rfl,hs,λh=>ho (zGS _ h),(λh=>by cases h),hlt,λj hj=>?_⟩;obtain rfl : j = 0:=by omega
      obtain ⟨u,hu,hr⟩:=hq 0 hj;rw [hg] at hr;exact ⟨u,hu,hr⟩
    . cases h
  . cases h
def cRpL : Codec (List Ctx) where
 enc l:=.e (.c (.rp false 1 λ_=>.sl false l.length zb.sz (zn zb l)))
 dec H x:=match x with
  | .e (.c (.rp _ m g))=>match g 0 with
    | .sl _ n s f=>bif Nat.beq m 1 && Nat.beq s zb.sz then some (Zw zb n f,some (∀ i,i < n -> zb.ok (f i) = true),[]) else none
    | _=>none
  | _=>none
 sound H H' x a p rd h hp hh:=by
  split at h
  . rename_i sh m g;split at h
    . rename_i sh2 n s f hg;obtain ⟨hb,h5⟩:=ZN h;rw [Bool.and_eq_true] at hb;have b1:=Nat.eq_of_beq_eq_true hb.1;have b2:=Nat.eq_of_beq_eq_true hb.2;subst b1 b2;injection h5 with h6 h7;injection h7 with h7 h8;subst h6 h7 h8;rintro cx r w u st ⟨ad,rfl,hs,ho,hx,hlt,hq⟩;refine ⟨ad,rfl,hs,λh=>ho (zGS _ h),(λh=>by cases h),hlt,λj hj=>?_⟩;obtain rfl : j = 0:=by omega
      obtain ⟨u,hu,hr⟩:=hq 0 hj;rw [hg] at hr;exact ⟨u,hu,slC_in (sh:=sh2) hp hr⟩
    . cases h
  . cases h
abbrev fndA : AC (List Ctx × Int × Int × Unit):=AC.cons cRpL (AC.cons cRpI (AC.cons cRpI AC.nil))
abbrev decE0 : ZD:=ZH (AC.cons (qf zb zq) (AC.cons (cI .i64) (AC.cons (cI .i64) AC.nil))) (λa=>a.1.length <= 9223372036854775807) (λa=>zK a.1 a.2.1 a.2.2.1) zCg
def LRd2 : Qb:=(95,some decE0) :: (91,some (rdE AC.nil (λb q _=>RdOk b q) (λb q _=>qR b q) encR3)) :: (92,some (rdE (AC.cons (cI .i64) AC.nil) (λb q a=>RdOk b q /\ 96 <= a.1 /\ a.1 <= 127) (λb q a=>zL b a.1 q) qj)) :: LRd0
theorem LRd2_ok : ZC Tryz.prog LRd2:=⟨zO ⟨_,Tryz.func95,rfl,by kernel_rfl⟩ λa h=>forDec_ok a.1 a.2.1 a.2.2.1 h,zDg ⟨_,Tryz.func91,rfl,by kernel_rfl⟩ (λr=>zFf r) λb q a h=>start_ok b q h,zDg ⟨_,Tryz.func92,rfl,by kernel_rfl⟩ (λr=>ZA r) λb q a h=>zIb b a.1 q h.1 h.2,zDY⟩
theorem find_ok (l : List Ctx) (id now : Int) (hl : l.length <= 9223372036854775807) : zY Tryz.prog 94 (fndA.enc (l,id,now,())) (zCg (zK l id now)):=by
 obtain ⟨C,eC⟩ : ∃ C,zK l id now = C:=⟨_,rfl⟩;rw [eC];refine zG (wd:=1) (by decide) zM (zT LRd2_ok) zN Tryz.func94 rfl _ (by show 3 <= _;decide) _ ?_;repeat' (first | (apply And.intro<;>intro hc<;>(first | exact Bool.noConfusion hc | (simp only [Zi] at hc<;>first | exact absurd rfl hc | skip) | skip)) | (refine And.intro Za ?_) | (apply And.intro) | (intro s hs;(have q : C = s:=(hs.trans ((congrArg (λl=>zK l id now) (zU l)).trans eC)).symm;clear hs;subst q)))
 all_goals first
  | (show (Zw zb l.length _).length <= _;rw [zS];exact hl)
  | (refine Done.mk (zE ?_)
     repeat' (first | exact zw2 | refine zd ?_ | exact zH ‹_› | apply And.intro))
  | skip
abbrev fndE : ZD:=ZH fndA (λa=>a.1.length <= 9223372036854775807) (λa=>zK a.1 a.2.1 a.2.2.1) zCg
def LRd3 : Qb:=(94,some fndE) :: LRd2
theorem QG : ZC Tryz.prog LRd3:=⟨zO ⟨_,Tryz.func94,rfl,by kernel_rfl⟩ λa h=>find_ok a.1 a.2.1 a.2.2.1 h,LRd2_ok⟩
theorem zIa (id now : Int) : ∀ (l : List Ctx),(qc id now l).2 = true -> (qc id now l).1 ∈ l:=by
 intro l;induction l with
 | nil=>intro h;cases h
 | cons c l ih=>
   intro h;unfold qc at h ⊢;split
   . exact List.mem_cons_self ..
   . rename_i g;rw [if_neg g] at h;exact List.mem_cons_of_mem _ (ih h)
theorem zBa {l : List Ctx} {id now : Int} (hl : bytesL l) (h : (zK l id now).2 = true) : vpf (Zy (zK l id now).1) = true /\ byteOk (zK l id now).1.ip:=by
 unfold zK at h ⊢;split at h
 . rename_i g;rw [if_pos g];have hm:=zIa id now l h;exact ⟨(zFP g.1 hm).2.2.2,hl.b _ hm⟩
 . cases h
theorem num2_v {b : List Int} {q : Int} (hb : BL b) : 0 <= (zB b q 2).1.1 /\ (zB b q 2).1.1 < 65536:=by
 have:=num_v (q:=q) (n:=2) hb;exact this
theorem unid_t0 (b : List Int) (q : Int) (k : Adr) (l : List Ctx) (id now : Int) (hr : RdOk b q) (hl : bytesL l) : ze Tryz.prog 96 [cB.enc true,(cI .i64).enc 0,(cE ZF).enc k,zCi.enc (l,id,now)] (qW true b q) (Yq (qz b true 0 k (zK l id now) q).1) (qW true b (qz b true 0 k (zK l id now) q).2):=by
 obtain ⟨W,hW⟩ : ∃ W,qz b true 0 k (zK l id now) q = W:=⟨_,rfl⟩;have eW : W = (if (zK l id now).2 = false then ((zI,9),q) else (if 64 < (zK l id now).1.bits then ((zI,5),q) else (if (QT b q).1.2 = 0 then (if ZP ((QT b q).1.1) = true then ((zI,5),(QT b q).2) else (((QT b q).1.1,0),(QT b q).2)) else ((zI,(QT b q).1.2),(QT b q).2)))):=by
  rw [<- hW];simp (decide:=true) only [qz,zBs,zo,zB4,if_true,if_false,true_and,and_true,false_and]
 rw [hW];clear hW;have hv:=λh=>(zBa (id:=id) (now:=now) hl h).1;obtain ⟨C,eC⟩ : ∃ C,zK l id now = C:=⟨_,rfl⟩;rw [eC] at eW hv;obtain ⟨I,eI⟩ : ∃ I,ZJ k = I:=⟨_,rfl⟩;obtain ⟨N,eN⟩ : ∃ N,QT b q = N:=⟨_,rfl⟩;rw [eN] at eW;obtain ⟨Mc,eMc⟩ : ∃ x,ZP N.1.1 = x:=⟨_,rfl⟩;rw [eMc] at eW;have f0 : (C.2 = false) -> W = ((zI,9),q):=λh0=>by rw [eW,if_pos h0]
 have f1 : (¬ C.2 = false) -> (64 < C.1.bits) -> W = ((zI,5),q):=λh0 h1=>by rw [eW,if_neg h0,if_pos h1]
 have f2 : (¬ C.2 = false) -> (¬ 64 < C.1.bits) -> (¬ N.1.2 = 0) -> W = ((zI,N.1.2),N.2):=λh0 h1 h2=>by rw [eW,if_neg h0,if_neg h1,if_neg h2]
 have f3 : (¬ C.2 = false) -> (¬ 64 < C.1.bits) -> (N.1.2 = 0) -> (Mc = true) -> W = ((zI,5),N.2):=λh0 h1 h2 h3=>by rw [eW,if_neg h0,if_neg h1,if_pos h2,if_pos h3]
 have f4 : (¬ C.2 = false) -> (¬ 64 < C.1.bits) -> (N.1.2 = 0) -> (¬ Mc = true) -> W = ((N.1.1,0),N.2):=λh0 h1 h2 h3=>by rw [eW,if_neg h0,if_neg h1,if_pos h2,if_neg h3]
 clear eW;obtain ⟨g1,g2,g3,g4,g5,g6⟩:=zg6;refine zR (wd:=1) (by decide) zM (zT QG) zN Tryz.func96 rfl _ (by show 4 + 1 <= _;decide) (zZ (qC _)) (ZZ) ?_;repeat' (first | (apply And.intro<;>intro hc<;>(first | exact Bool.noConfusion hc | (exfalso;first | exact absurd hc (by decide) | exact absurd rfl hc | exact absurd hc ‹_› | exact absurd ‹_› hc | exact Bool.noConfusion ((by assumption : I.2 = true).symm.trans hc)) | (simp only [Zi] at hc<;>first | exact absurd rfl hc | (exfalso;first | exact absurd hc (by decide) | exact absurd rfl hc | exact absurd hc ‹_› | exact absurd ‹_› hc | exact Bool.noConfusion ((by assumption : I.2 = true).symm.trans hc)) | skip) | skip)) | (refine And.intro (by exact Za) ?_) | (apply And.intro) | (refine Exists.intro b (And.intro ⟨rfl,rfl,by first | exact ⟨by assumption,by decide,by decide⟩ | assumption⟩ ?_)) | (intro s hs;(first | (clear g1;have q : I = s:=(hs.trans ((congrArg ZJ (zt k)).trans eI)).symm;clear hs;subst q) | (clear g2;have q : s = llP:=hs;clear hs;subst q) | (clear g3;have q : C = s:=(hs.trans ((congrArg (λl=>zK l id now) (zU l)).trans eC)).symm;clear hs;subst q) | (clear g4;have q : N = s:=(hs.trans eN).symm;clear hs;subst q) | (clear g6;have q : Mc = s:=(by (dsimp only at hs;refine (hs.trans ((congrArg ZP (Yc (a:=N.1.1) (λj hj=>?_))).trans eMc)).symm;(iterate 16 (rcases j with _ | j;exact rfl));exact absurd hj (by omega)));clear hs;subst q) | skip)))
 all_goals try (first | exact rfl | exact Nat.le_of_ble_eq_true rfl)
 all_goals first
  | (show (Zw zb l.length _).length <= _;rw [zS];have:=hl.n;omega)
  | exact λ_=>rfl
  | (rw [f0 ‹_›]
     exact zq2)
  | (rw [f1 (λh=>Bool.noConfusion (h.symm.trans (by assumption : C.2 = true))) ‹_›]
     exact zq2)
  | (rw [f2 (λh=>Bool.noConfusion (h.symm.trans (by assumption : C.2 = true))) ‹_› ‹_›]
     exact zq2)
  | (rw [f3 (λh=>Bool.noConfusion (h.symm.trans (by assumption : C.2 = true))) ‹_› ‹_› ‹_›]
     exact zq2)
  | (rw [f4 (λh=>Bool.noConfusion (h.symm.trans (by assumption : C.2 = true))) ‹_› ‹_› (λh=>Bool.noConfusion (h.symm.trans (by assumption : Mc = false)))]
     exact zq2)
  | skip
theorem unid_t1 (b : List Int) (q : Int) (k : Adr) (l : List Ctx) (id now : Int) (hr : RdOk b q) (hl : bytesL l) : ze Tryz.prog 96 [cB.enc true,(cI .i64).enc 1,(cE ZF).enc k,zCi.enc (l,id,now)] (qW true b q) (Yq (qz b true 1 k (zK l id now) q).1) (qW true b (qz b true 1 k (zK l id now) q).2):=by
 obtain ⟨W,hW⟩ : ∃ W,qz b true 1 k (zK l id now) q = W:=⟨_,rfl⟩;have eW : W = (if (zK l id now).2 = false then ((zI,9),q) else (if 64 < (zK l id now).1.bits then ((zI,5),q) else (if (zB b q 8).1.2 = 0 then (if ZP (jn (Zy (zK l id now).1).ip (zB b q 8).1.1) = true then ((zI,5),(zB b q 8).2) else ((jn (Zy (zK l id now).1).ip (zB b q 8).1.1,0),(zB b q 8).2)) else ((zI,(zB b q 8).1.2),(zB b q 8).2)))):=by
  rw [<- hW];simp (decide:=true) only [qz,zBs,zo,zB4,if_true,if_false,true_and,and_true,false_and];by_cases hN : (zB b q 8).1.2 = 0
  . simp (decide:=true) only [hN,if_true,if_false]
  . simp only [hN,if_false]
 rw [hW];clear hW;have hv:=λh=>(zBa (id:=id) (now:=now) hl h).1;obtain ⟨C,eC⟩ : ∃ C,zK l id now = C:=⟨_,rfl⟩;rw [eC] at eW hv;obtain ⟨I,eI⟩ : ∃ I,ZJ k = I:=⟨_,rfl⟩;obtain ⟨N,eN⟩ : ∃ N,zB b q 8 = N:=⟨_,rfl⟩;rw [eN] at eW;have eJ : C.2 = true -> ¬ 64 < C.1.bits -> Qn (Zy C.1) N.1.1 = (jn (Zy C.1).ip N.1.1,true):=λh g=>if_pos ⟨hv h,Int.not_lt.1 g⟩;obtain ⟨A,eA'⟩ : ∃ A,jn (Zy C.1).ip N.1.1 = A:=⟨_,rfl⟩;rw [eA'] at eW eJ;obtain ⟨Mc,eMc⟩ : ∃ x,ZP A = x:=⟨_,rfl⟩;rw [eMc] at eW;have f0 : (C.2 = false) -> W = ((zI,9),q):=λh0=>by rw [eW,if_pos h0]
 have f1 : (¬ C.2 = false) -> (64 < C.1.bits) -> W = ((zI,5),q):=λh0 h1=>by rw [eW,if_neg h0,if_pos h1]
 have f2 : (¬ C.2 = false) -> (¬ 64 < C.1.bits) -> (¬ N.1.2 = 0) -> W = ((zI,N.1.2),N.2):=λh0 h1 h2=>by rw [eW,if_neg h0,if_neg h1,if_neg h2]
 have f3 : (¬ C.2 = false) -> (¬ 64 < C.1.bits) -> (N.1.2 = 0) -> (Mc = true) -> W = ((zI,5),N.2):=λh0 h1 h2 h3=>by rw [eW,if_neg h0,if_neg h1,if_pos h2,if_pos h3]
 have f4 : (¬ C.2 = false) -> (¬ 64 < C.1.bits) -> (N.1.2 = 0) -> (¬ Mc = true) -> W = ((A,0),N.2):=λh0 h1 h2 h3=>by rw [eW,if_neg h0,if_neg h1,if_pos h2,if_neg h3]
 clear eW;obtain ⟨g1,g2,g3,g4,g5,g6⟩:=zg6;refine zR (wd:=1) (by decide) zM (zT QG) zN Tryz.func96 rfl _ (by show 4 + 1 <= _;decide) (zZ (qC _)) (ZZ) ?_;repeat' (first | (apply And.intro<;>intro hc<;>(first | exact Bool.noConfusion hc | (exfalso;first | exact absurd hc (by decide) | exact absurd rfl hc | exact absurd hc ‹_› | exact absurd ‹_› hc | exact Bool.noConfusion ((by assumption : I.2 = true).symm.trans hc)) | (simp only [Zi] at hc<;>first | exact absurd rfl hc | (exfalso;first | exact absurd hc (by decide) | exact absurd rfl hc | exact absurd hc ‹_› | exact absurd ‹_› hc | exact Bool.noConfusion ((by assumption : I.2 = true).symm.trans hc)) | skip) | skip)) | (refine And.intro (by exact Za) ?_) | (apply And.intro) | (refine Exists.intro b (And.intro ⟨rfl,rfl,by first | exact ⟨by assumption,by decide,by decide⟩ | assumption⟩ ?_)) | (intro s hs;(first | (clear g1;have q : I = s:=(hs.trans ((congrArg ZJ (zt k)).trans eI)).symm;clear hs;subst q) | (clear g2;have q : s = llP:=hs;clear hs;subst q) | (clear g3;have q : C = s:=(hs.trans ((congrArg (λl=>zK l id now) (zU l)).trans eC)).symm;clear hs;subst q) | (clear g4;have q : N = s:=(hs.trans eN).symm;clear hs;subst q) | (clear g5;have q : s = (A,true):=(by (dsimp only at hs;refine hs.trans ((congrArg (Qn · N.1.1) (zDy (p:=(Zy C.1)) (λj hj=>?_))).trans (eJ ‹_› ‹_›));(iterate 17 (rcases j with _ | j;exact rfl));exact absurd hj (by omega)));clear hs;subst q) | (clear g6;have q : Mc = s:=(by (dsimp only at hs;refine (hs.trans ((congrArg ZP (Yc (a:=A) (λj hj=>?_))).trans eMc)).symm;(iterate 16 (rcases j with _ | j;exact rfl));exact absurd hj (by omega)));clear hs;subst q) | skip)))
 all_goals try (first | exact rfl | exact Nat.le_of_ble_eq_true rfl)
 all_goals first
  | (show (Zw zb l.length _).length <= _;rw [zS];have:=hl.n;omega)
  | exact λ_=>rfl
  | (rw [f0 ‹_›]
     exact zq2)
  | (rw [f1 (λh=>Bool.noConfusion (h.symm.trans (by assumption : C.2 = true))) ‹_›]
     exact zq2)
  | (rw [f2 (λh=>Bool.noConfusion (h.symm.trans (by assumption : C.2 = true))) ‹_› ‹_›]
     exact zq2)
  | (rw [f3 (λh=>Bool.noConfusion (h.symm.trans (by assumption : C.2 = true))) ‹_› ‹_› ‹_›]
     exact zq2)
  | (rw [f4 (λh=>Bool.noConfusion (h.symm.trans (by assumption : C.2 = true))) ‹_› ‹_› (λh=>Bool.noConfusion (h.symm.trans (by assumption : Mc = false)))]
     exact zq2)
  | skip
theorem unid_t2 (b : List Int) (q : Int) (k : Adr) (l : List Ctx) (id now : Int) (hr : RdOk b q) (hl : bytesL l) : ze Tryz.prog 96 [cB.enc true,(cI .i64).enc 2,(cE ZF).enc k,zCi.enc (l,id,now)] (qW true b q) (Yq (qz b true 2 k (zK l id now) q).1) (qW true b (qz b true 2 k (zK l id now) q).2):=by
 obtain ⟨W,hW⟩ : ∃ W,qz b true 2 k (zK l id now) q = W:=⟨_,rfl⟩;have eW : W = (if (zK l id now).2 = false then ((zI,9),q) else (if 64 < (zK l id now).1.bits then ((zI,5),q) else (if (zB b q 2).1.2 = 0 then (if ZP (jn (Zy (zK l id now).1).ip ((zB b q 2).1.1 + 1099478073344)) = true then ((zI,5),(zB b q 2).2) else ((jn (Zy (zK l id now).1).ip ((zB b q 2).1.1 + 1099478073344),0),(zB b q 2).2)) else ((zI,(zB b q 2).1.2),(zB b q 2).2)))):=by
  rw [<- hW];simp (decide:=true) only [qz,zBs,zo,zB4,if_true,if_false,true_and,and_true,false_and];by_cases hN : (zB b q 2).1.2 = 0
  . simp (decide:=true) only [hN,if_true,if_false]
  . simp only [hN,if_false]
 rw [hW];clear hW;have hv:=λh=>(zBa (id:=id) (now:=now) hl h).1;obtain ⟨C,eC⟩ : ∃ C,zK l id now = C:=⟨_,rfl⟩;rw [eC] at eW hv;obtain ⟨I,eI⟩ : ∃ I,ZJ k = I:=⟨_,rfl⟩;have v2:=num2_v (q:=q) hr.bl;obtain ⟨N,eN⟩ : ∃ N,zB b q 2 = N:=⟨_,rfl⟩;rw [eN] at eW;rw [eN] at v2;have w2 : IntKind.u64.wrap (N.1.1 + 1099478073344) = N.1.1 + 1099478073344:=IntWalk.u64_in _ (by omega);have eJ : C.2 = true -> ¬ 64 < C.1.bits -> Qn (Zy C.1) (N.1.1 + 1099478073344) = (jn (Zy C.1).ip (N.1.1 + 1099478073344),true):=λh g=>if_pos ⟨hv h,Int.not_lt.1 g⟩;obtain ⟨A,eA'⟩ : ∃ A,jn (Zy C.1).ip (N.1.1 + 1099478073344) = A:=⟨_,rfl⟩;rw [eA'] at eW eJ;obtain ⟨Mc,eMc⟩ : ∃ x,ZP A = x:=⟨_,rfl⟩;rw [eMc] at eW;have f0 : (C.2 = false) -> W = ((zI,9),q):=λh0=>by rw [eW,if_pos h0]
 have f1 : (¬ C.2 = false) -> (64 < C.1.bits) -> W = ((zI,5),q):=λh0 h1=>by rw [eW,if_neg h0,if_pos h1]
 have f2 : (¬ C.2 = false) -> (¬ 64 < C.1.bits) -> (¬ N.1.2 = 0) -> W = ((zI,N.1.2),N.2):=λh0 h1 h2=>by rw [eW,if_neg h0,if_neg h1,if_neg h2]
 have f3 : (¬ C.2 = false) -> (¬ 64 < C.1.bits) -> (N.1.2 = 0) -> (Mc = true) -> W = ((zI,5),N.2):=λh0 h1 h2 h3=>by rw [eW,if_neg h0,if_neg h1,if_pos h2,if_pos h3]
 have f4 : (¬ C.2 = false) -> (¬ 64 < C.1.bits) -> (N.1.2 = 0) -> (¬ Mc = true) -> W = ((A,0),N.2):=λh0 h1 h2 h3=>by rw [eW,if_neg h0,if_neg h1,if_pos h2,if_neg h3]
 clear eW;obtain ⟨g1,g2,g3,g4,g5,g6⟩:=zg6;refine zR (wd:=1) (by decide) zM (zT QG) zN Tryz.func96 rfl _ (by show 4 + 1 <= _;decide) (zZ (qC _)) (ZZ) ?_;repeat' (first | (apply And.intro<;>intro hc<;>(first | exact Bool.noConfusion hc | (exfalso;first | exact absurd hc (by decide) | exact absurd rfl hc | exact absurd hc ‹_› | exact absurd ‹_› hc | exact Bool.noConfusion ((by assumption : I.2 = true).symm.trans hc)) | (simp only [Zi] at hc<;>first | exact absurd rfl hc | (exfalso;first | exact absurd hc (by decide) | exact absurd rfl hc | exact absurd hc ‹_› | exact absurd ‹_› hc | exact Bool.noConfusion ((by assumption : I.2 = true).symm.trans hc)) | skip) | skip)) | (refine And.intro (by exact Za) ?_) | (apply And.intro) | (refine Exists.intro b (And.intro ⟨rfl,rfl,by first | exact ⟨by assumption,by decide,by decide⟩ | assumption⟩ ?_)) | (intro s hs;(first | (clear g1;have q : I = s:=(hs.trans ((congrArg ZJ (zt k)).trans eI)).symm;clear hs;subst q) | (clear g2;have q : s = llP:=hs;clear hs;subst q) | (clear g3;have q : C = s:=(hs.trans ((congrArg (λl=>zK l id now) (zU l)).trans eC)).symm;clear hs;subst q) | (clear g4;have q : N = s:=(hs.trans eN).symm;clear hs;subst q) | (clear g5;have q : s = (A,true):=(by (dsimp only at hs;refine hs.trans ((congrArg (Qn · (IntKind.u64.wrap (N.1.1 + 1099478073344))) (zDy (p:=(Zy C.1)) (λj hj=>?_))).trans ((congrArg (Qn (Zy C.1)) w2).trans (eJ ‹_› ‹_›)));(iterate 17 (rcases j with _ | j;exact rfl));exact absurd hj (by omega)));clear hs;subst q) | (clear g6;have q : Mc = s:=(by (dsimp only at hs;refine (hs.trans ((congrArg ZP (Yc (a:=A) (λj hj=>?_))).trans eMc)).symm;(iterate 16 (rcases j with _ | j;exact rfl));exact absurd hj (by omega)));clear hs;subst q) | skip)))
 all_goals try (first | exact rfl | exact Nat.le_of_ble_eq_true rfl)
 all_goals first
  | (show (Zw zb l.length _).length <= _;rw [zS];have:=hl.n;omega)
  | exact λ_=>rfl
  | (rw [f0 ‹_›]
     exact zq2)
  | (rw [f1 (λh=>Bool.noConfusion (h.symm.trans (by assumption : C.2 = true))) ‹_›]
     exact zq2)
  | (rw [f2 (λh=>Bool.noConfusion (h.symm.trans (by assumption : C.2 = true))) ‹_› ‹_›]
     exact zq2)
  | (rw [f3 (λh=>Bool.noConfusion (h.symm.trans (by assumption : C.2 = true))) ‹_› ‹_› ‹_›]
     exact zq2)
  | (rw [f4 (λh=>Bool.noConfusion (h.symm.trans (by assumption : C.2 = true))) ‹_› ‹_› (λh=>Bool.noConfusion (h.symm.trans (by assumption : Mc = false)))]
     exact zq2)
  | skip
theorem unid_t3 (b : List Int) (q : Int) (k : Adr) (l : List Ctx) (id now : Int) (hr : RdOk b q) (hl : bytesL l) : ze Tryz.prog 96 [cB.enc true,(cI .i64).enc 3,(cE ZF).enc k,zCi.enc (l,id,now)] (qW true b q) (Yq (qz b true 3 k (zK l id now) q).1) (qW true b (qz b true 3 k (zK l id now) q).2):=by
 obtain ⟨W,hW⟩ : ∃ W,qz b true 3 k (zK l id now) q = W:=⟨_,rfl⟩;have eW : W = (if (ZJ k).2 = false then ((zI,5),q) else (if (zK l id now).2 = false then ((zI,9),q) else (if 64 < (zK l id now).1.bits then ((zI,5),q) else (if ZP (jn (Zy (zK l id now).1).ip (ZJ k).1) = true then ((zI,5),q) else ((jn (Zy (zK l id now).1).ip (ZJ k).1,0),q))))):=by
  rw [<- hW];simp (decide:=true) only [qz,zBs,zo,zB4,if_true,if_false,true_and,and_true,false_and]
 rw [hW];clear hW;have hv:=λh=>(zBa (id:=id) (now:=now) hl h).1;obtain ⟨C,eC⟩ : ∃ C,zK l id now = C:=⟨_,rfl⟩;rw [eC] at eW hv;obtain ⟨I,eI⟩ : ∃ I,ZJ k = I:=⟨_,rfl⟩;rw [eI] at eW;have eJ : C.2 = true -> ¬ 64 < C.1.bits -> Qn (Zy C.1) I.1 = (jn (Zy C.1).ip I.1,true):=λh g=>if_pos ⟨hv h,Int.not_lt.1 g⟩;obtain ⟨A,eA'⟩ : ∃ A,jn (Zy C.1).ip I.1 = A:=⟨_,rfl⟩;rw [eA'] at eW eJ;obtain ⟨Mc,eMc⟩ : ∃ x,ZP A = x:=⟨_,rfl⟩;rw [eMc] at eW;have f0 : (I.2 = false) -> W = ((zI,5),q):=λh0=>by rw [eW,if_pos h0]
 have f1 : (¬ I.2 = false) -> (C.2 = false) -> W = ((zI,9),q):=λh0 h1=>by rw [eW,if_neg h0,if_pos h1]
 have f2 : (¬ I.2 = false) -> (¬ C.2 = false) -> (64 < C.1.bits) -> W = ((zI,5),q):=λh0 h1 h2=>by rw [eW,if_neg h0,if_neg h1,if_pos h2]
 have f3 : (¬ I.2 = false) -> (¬ C.2 = false) -> (¬ 64 < C.1.bits) -> (Mc = true) -> W = ((zI,5),q):=λh0 h1 h2 h3=>by rw [eW,if_neg h0,if_neg h1,if_neg h2,if_pos h3]
 have f4 : (¬ I.2 = false) -> (¬ C.2 = false) -> (¬ 64 < C.1.bits) -> (¬ Mc = true) -> W = ((A,0),q):=λh0 h1 h2 h3=>by rw [eW,if_neg h0,if_neg h1,if_neg h2,if_neg h3]
 clear eW;obtain ⟨g1,g2,g3,g4,g5,g6⟩:=zg6;refine zR (wd:=1) (by decide) zM (zT QG) zN Tryz.func96 rfl _ (by show 4 + 1 <= _;decide) (zZ (qC _)) (ZZ) ?_;repeat' (first | (apply And.intro<;>intro hc<;>(first | exact Bool.noConfusion hc | (exfalso;first | exact absurd hc (by decide) | exact absurd rfl hc | exact absurd hc ‹_› | exact absurd ‹_› hc | exact Bool.noConfusion ((by assumption : I.2 = true).symm.trans hc)) | (simp only [Zi] at hc<;>first | exact absurd rfl hc | (exfalso;first | exact absurd hc (by decide) | exact absurd rfl hc | exact absurd hc ‹_› | exact absurd ‹_› hc | exact Bool.noConfusion ((by assumption : I.2 = true).symm.trans hc)) | skip) | skip)) | (refine And.intro (by exact Za) ?_) | (apply And.intro) | (refine Exists.intro b (And.intro ⟨rfl,rfl,by first | exact ⟨by assumption,by decide,by decide⟩ | assumption⟩ ?_)) | (intro s hs;(first | (clear g1;have q : I = s:=(hs.trans ((congrArg ZJ (zt k)).trans eI)).symm;clear hs;subst q) | (clear g2;have q : s = llP:=hs;clear hs;subst q) | (clear g3;have q : C = s:=(hs.trans ((congrArg (λl=>zK l id now) (zU l)).trans eC)).symm;clear hs;subst q) | (clear g5;have q : s = (A,true):=(by (dsimp only at hs;refine hs.trans ((congrArg (Qn · I.1) (zDy (p:=(Zy C.1)) (λj hj=>?_))).trans (eJ ‹_› ‹_›));(iterate 17 (rcases j with _ | j;exact rfl));exact absurd hj (by omega)));clear hs;subst q) | (clear g6;have q : Mc = s:=(by (dsimp only at hs;refine (hs.trans ((congrArg ZP (Yc (a:=A) (λj hj=>?_))).trans eMc)).symm;(iterate 16 (rcases j with _ | j;exact rfl));exact absurd hj (by omega)));clear hs;subst q) | skip)))
 all_goals try (first | exact rfl | exact Nat.le_of_ble_eq_true rfl)
 all_goals first
  | (show (Zw zb l.length _).length <= _;rw [zS];have:=hl.n;omega)
  | exact λ_=>rfl
  | (rw [f0 ‹_›]
     exact zq2)
  | (rw [f1 (λh=>Bool.noConfusion (h.symm.trans (by assumption : I.2 = true))) ‹_›]
     exact zq2)
  | (rw [f2 (λh=>Bool.noConfusion (h.symm.trans (by assumption : I.2 = true))) (λh=>Bool.noConfusion (h.symm.trans (by assumption : C.2 = true))) ‹_›]
     exact zq2)
  | (rw [f3 (λh=>Bool.noConfusion (h.symm.trans (by assumption : I.2 = true))) (λh=>Bool.noConfusion (h.symm.trans (by assumption : C.2 = true))) ‹_› ‹_›]
     exact zq2)
  | (rw [f4 (λh=>Bool.noConfusion (h.symm.trans (by assumption : I.2 = true))) (λh=>Bool.noConfusion (h.symm.trans (by assumption : C.2 = true))) ‹_› (λh=>Bool.noConfusion (h.symm.trans (by assumption : Mc = false)))]
     exact zq2)
  | skip
theorem unid_f0 (b : List Int) (q : Int) (k : Adr) (l : List Ctx) (id now : Int) (hr : RdOk b q) (hl : bytesL l) : ze Tryz.prog 96 [cB.enc false,(cI .i64).enc 0,(cE ZF).enc k,zCi.enc (l,id,now)] (qW true b q) (Yq (qz b false 0 k (zK l id now) q).1) (qW true b (qz b false 0 k (zK l id now) q).2):=by
 obtain ⟨W,hW⟩ : ∃ W,qz b false 0 k (zK l id now) q = W:=⟨_,rfl⟩;have eW : W = (if (QT b q).1.2 = 0 then (if ZP ((QT b q).1.1) = true then ((zI,5),(QT b q).2) else (((QT b q).1.1,0),(QT b q).2)) else ((zI,(QT b q).1.2),(QT b q).2)):=by
  rw [<- hW];simp (decide:=true) only [qz,zBs,zo,zB4,if_true,if_false,true_and,and_true,false_and]
 rw [hW];clear hW;obtain ⟨I,eI⟩ : ∃ I,ZJ k = I:=⟨_,rfl⟩;obtain ⟨N,eN⟩ : ∃ N,QT b q = N:=⟨_,rfl⟩;rw [eN] at eW;obtain ⟨Mc,eMc⟩ : ∃ x,ZP N.1.1 = x:=⟨_,rfl⟩;rw [eMc] at eW;have f0 : (¬ N.1.2 = 0) -> W = ((zI,N.1.2),N.2):=λh0=>by rw [eW,if_neg h0]
 have f1 : (N.1.2 = 0) -> (Mc = true) -> W = ((zI,5),N.2):=λh0 h1=>by rw [eW,if_pos h0,if_pos h1]
 have f2 : (N.1.2 = 0) -> (¬ Mc = true) -> W = ((N.1.1,0),N.2):=λh0 h1=>by rw [eW,if_pos h0,if_neg h1]
 clear eW;obtain ⟨g1,g2,g3,g4,g5,g6⟩:=zg6;refine zR (wd:=1) (by decide) zM (zT QG) zN Tryz.func96 rfl _ (by show 4 + 1 <= _;decide) (zZ (qC _)) (ZZ) ?_;repeat' (first | (apply And.intro<;>intro hc<;>(first | exact Bool.noConfusion hc | (exfalso;first | exact absurd hc (by decide) | exact absurd rfl hc | exact absurd hc ‹_› | exact absurd ‹_› hc | exact Bool.noConfusion ((by assumption : I.2 = true).symm.trans hc)) | (simp only [Zi] at hc<;>first | exact absurd rfl hc | (exfalso;first | exact absurd hc (by decide) | exact absurd rfl hc | exact absurd hc ‹_› | exact absurd ‹_› hc | exact Bool.noConfusion ((by assumption : I.2 = true).symm.trans hc)) | skip) | skip)) | (refine And.intro (by exact Za) ?_) | (apply And.intro) | (refine Exists.intro b (And.intro ⟨rfl,rfl,by first | exact ⟨by assumption,by decide,by decide⟩ | assumption⟩ ?_)) | (intro s hs;(first | (clear g1;have q : I = s:=(hs.trans ((congrArg ZJ (zt k)).trans eI)).symm;clear hs;subst q) | (clear g2;have q : s = llP:=hs;clear hs;subst q) | (clear g4;have q : N = s:=(hs.trans eN).symm;clear hs;subst q) | (clear g6;have q : Mc = s:=(by (dsimp only at hs;refine (hs.trans ((congrArg ZP (Yc (a:=N.1.1) (λj hj=>?_))).trans eMc)).symm;(iterate 16 (rcases j with _ | j;exact rfl));exact absurd hj (by omega)));clear hs;subst q) | skip)))
 all_goals try (first | exact rfl | exact Nat.le_of_ble_eq_true rfl)
 all_goals first
  | (show (Zw zb l.length _).length <= _;rw [zS];have:=hl.n;omega)
  | exact λ_=>rfl
  | (rw [f0 ‹_›]
     exact zq2)
  | (rw [f1 ‹_› ‹_›]
     exact zq2)
  | (rw [f2 ‹_› (λh=>Bool.noConfusion (h.symm.trans (by assumption : Mc = false)))]
     exact zq2)
  | skip
theorem unid_f1 (b : List Int) (q : Int) (k : Adr) (l : List Ctx) (id now : Int) (hr : RdOk b q) (hl : bytesL l) : ze Tryz.prog 96 [cB.enc false,(cI .i64).enc 1,(cE ZF).enc k,zCi.enc (l,id,now)] (qW true b q) (Yq (qz b false 1 k (zK l id now) q).1) (qW true b (qz b false 1 k (zK l id now) q).2):=by
 obtain ⟨W,hW⟩ : ∃ W,qz b false 1 k (zK l id now) q = W:=⟨_,rfl⟩;have eW : W = (if (zB b q 8).1.2 = 0 then (if ZP (jn llP.ip (zB b q 8).1.1) = true then ((zI,5),(zB b q 8).2) else ((jn llP.ip (zB b q 8).1.1,0),(zB b q 8).2)) else ((zI,(zB b q 8).1.2),(zB b q 8).2)):=by
  rw [<- hW];simp (decide:=true) only [qz,zBs,zo,zB4,if_true,if_false,true_and,and_true,false_and];by_cases hN : (zB b q 8).1.2 = 0
  . simp (decide:=true) only [hN,if_true,if_false]
  . simp only [hN,if_false]
 rw [hW];clear hW;obtain ⟨I,eI⟩ : ∃ I,ZJ k = I:=⟨_,rfl⟩;obtain ⟨N,eN⟩ : ∃ N,zB b q 8 = N:=⟨_,rfl⟩;rw [eN] at eW;have eJ : Qn llP N.1.1 = (jn llP.ip N.1.1,true):=if_pos ⟨llP_v,by decide⟩;obtain ⟨A,eA'⟩ : ∃ A,jn llP.ip N.1.1 = A:=⟨_,rfl⟩;rw [eA'] at eW eJ;obtain ⟨Mc,eMc⟩ : ∃ x,ZP A = x:=⟨_,rfl⟩;rw [eMc] at eW;have f0 : (¬ N.1.2 = 0) -> W = ((zI,N.1.2),N.2):=λh0=>by rw [eW,if_neg h0]
 have f1 : (N.1.2 = 0) -> (Mc = true) -> W = ((zI,5),N.2):=λh0 h1=>by rw [eW,if_pos h0,if_pos h1]
 have f2 : (N.1.2 = 0) -> (¬ Mc = true) -> W = ((A,0),N.2):=λh0 h1=>by rw [eW,if_pos h0,if_neg h1]
 clear eW;obtain ⟨g1,g2,g3,g4,g5,g6⟩:=zg6;refine zR (wd:=1) (by decide) zM (zT QG) zN Tryz.func96 rfl _ (by show 4 + 1 <= _;decide) (zZ (qC _)) (ZZ) ?_;repeat' (first | (apply And.intro<;>intro hc<;>(first | exact Bool.noConfusion hc | (exfalso;first | exact absurd hc (by decide) | exact absurd rfl hc | exact absurd hc ‹_› | exact absurd ‹_› hc | exact Bool.noConfusion ((by assumption : I.2 = true).symm.trans hc)) | (simp only [Zi] at hc<;>first | exact absurd rfl hc | (exfalso;first | exact absurd hc (by decide) | exact absurd rfl hc | exact absurd hc ‹_› | exact absurd ‹_› hc | exact Bool.noConfusion ((by assumption : I.2 = true).symm.trans hc)) | skip) | skip)) | (refine And.intro (by exact Za) ?_) | (apply And.intro) | (refine Exists.intro b (And.intro ⟨rfl,rfl,by first | exact ⟨by assumption,by decide,by decide⟩ | assumption⟩ ?_)) | (intro s hs;(first | (clear g1;have q : I = s:=(hs.trans ((congrArg ZJ (zt k)).trans eI)).symm;clear hs;subst q) | (clear g2;have q : s = llP:=hs;clear hs;subst q) | (clear g4;have q : N = s:=(hs.trans eN).symm;clear hs;subst q) | (clear g5;have q : s = (A,true):=(by (dsimp only at hs;refine hs.trans ((congrArg (Qn · N.1.1) (zDy (p:=llP) (λj hj=>?_))).trans eJ);(iterate 17 (rcases j with _ | j;exact rfl));exact absurd hj (by omega)));clear hs;subst q) | (clear g6;have q : Mc = s:=(by (dsimp only at hs;refine (hs.trans ((congrArg ZP (Yc (a:=A) (λj hj=>?_))).trans eMc)).symm;(iterate 16 (rcases j with _ | j;exact rfl));exact absurd hj (by omega)));clear hs;subst q) | skip)))
 all_goals try (first | exact rfl | exact Nat.le_of_ble_eq_true rfl)
 all_goals first
  | (show (Zw zb l.length _).length <= _;rw [zS];have:=hl.n;omega)
  | exact λ_=>rfl
  | (rw [f0 ‹_›]
     exact zq2)
  | (rw [f1 ‹_› ‹_›]
     exact zq2)
  | (rw [f2 ‹_› (λh=>Bool.noConfusion (h.symm.trans (by assumption : Mc = false)))]
     exact zq2)
  | skip
theorem unid_f2 (b : List Int) (q : Int) (k : Adr) (l : List Ctx) (id now : Int) (hr : RdOk b q) (hl : bytesL l) : ze Tryz.prog 96 [cB.enc false,(cI .i64).enc 2,(cE ZF).enc k,zCi.enc (l,id,now)] (qW true b q) (Yq (qz b false 2 k (zK l id now) q).1) (qW true b (qz b false 2 k (zK l id now) q).2):=by
 obtain ⟨W,hW⟩ : ∃ W,qz b false 2 k (zK l id now) q = W:=⟨_,rfl⟩;have eW : W = (if (zB b q 2).1.2 = 0 then (if ZP (jn llP.ip ((zB b q 2).1.1 + 1099478073344)) = true then ((zI,5),(zB b q 2).2) else ((jn llP.ip ((zB b q 2).1.1 + 1099478073344),0),(zB b q 2).2)) else ((zI,(zB b q 2).1.2),(zB b q 2).2)):=by
  rw [<- hW];simp (decide:=true) only [qz,zBs,zo,zB4,if_true,if_false,true_and,and_true,false_and];by_cases hN : (zB b q 2).1.2 = 0
  . simp (decide:=true) only [hN,if_true,if_false]
  . simp only [hN,if_false]
 rw [hW];clear hW;obtain ⟨I,eI⟩ : ∃ I,ZJ k = I:=⟨_,rfl⟩;have v2:=num2_v (q:=q) hr.bl;obtain ⟨N,eN⟩ : ∃ N,zB b q 2 = N:=⟨_,rfl⟩;rw [eN] at eW;rw [eN] at v2;have w2 : IntKind.u64.wrap (N.1.1 + 1099478073344) = N.1.1 + 1099478073344:=IntWalk.u64_in _ (by omega);have eJ : Qn llP (N.1.1 + 1099478073344) = (jn llP.ip (N.1.1 + 1099478073344),true):=if_pos ⟨llP_v,by decide⟩;obtain ⟨A,eA'⟩ : ∃ A,jn llP.ip (N.1.1 + 1099478073344) = A:=⟨_,rfl⟩;rw [eA'] at eW eJ;obtain ⟨Mc,eMc⟩ : ∃ x,ZP A = x:=⟨_,rfl⟩;rw [eMc] at eW;have f0 : (¬ N.1.2 = 0) -> W = ((zI,N.1.2),N.2):=λh0=>by rw [eW,if_neg h0]
 have f1 : (N.1.2 = 0) -> (Mc = true) -> W = ((zI,5),N.2):=λh0 h1=>by rw [eW,if_pos h0,if_pos h1]
 have f2 : (N.1.2 = 0) -> (¬ Mc = true) -> W = ((A,0),N.2):=λh0 h1=>by rw [eW,if_pos h0,if_neg h1]
 clear eW;obtain ⟨g1,g2,g3,g4,g5,g6⟩:=zg6;refine zR (wd:=1) (by decide) zM (zT QG) zN Tryz.func96 rfl _ (by show 4 + 1 <= _;decide) (zZ (qC _)) (ZZ) ?_;repeat' (first | (apply And.intro<;>intro hc<;>(first | exact Bool.noConfusion hc | (exfalso;first | exact absurd hc (by decide) | exact absurd rfl hc | exact absurd hc ‹_› | exact absurd ‹_› hc | exact Bool.noConfusion ((by assumption : I.2 = true).symm.trans hc)) | (simp only [Zi] at hc<;>first | exact absurd rfl hc | (exfalso;first | exact absurd hc (by decide) | exact absurd rfl hc | exact absurd hc ‹_› | exact absurd ‹_› hc | exact Bool.noConfusion ((by assumption : I.2 = true).symm.trans hc)) | skip) | skip)) | (refine And.intro (by exact Za) ?_) | (apply And.intro) | (refine Exists.intro b (And.intro ⟨rfl,rfl,by first | exact ⟨by assumption,by decide,by decide⟩ | assumption⟩ ?_)) | (intro s hs;(first | (clear g1;have q : I = s:=(hs.trans ((congrArg ZJ (zt k)).trans eI)).symm;clear hs;subst q) | (clear g2;have q : s = llP:=hs;clear hs;subst q) | (clear g4;have q : N = s:=(hs.trans eN).symm;clear hs;subst q) | (clear g5;have q : s = (A,true):=(by (dsimp only at hs;refine hs.trans ((congrArg (Qn · (IntKind.u64.wrap (N.1.1 + 1099478073344))) (zDy (p:=llP) (λj hj=>?_))).trans ((congrArg (Qn llP) w2).trans eJ));(iterate 17 (rcases j with _ | j;exact rfl));exact absurd hj (by omega)));clear hs;subst q) | (clear g6;have q : Mc = s:=(by (dsimp only at hs;refine (hs.trans ((congrArg ZP (Yc (a:=A) (λj hj=>?_))).trans eMc)).symm;(iterate 16 (rcases j with _ | j;exact rfl));exact absurd hj (by omega)));clear hs;subst q) | skip)))
 all_goals try (first | exact rfl | exact Nat.le_of_ble_eq_true rfl)
 all_goals first
  | (show (Zw zb l.length _).length <= _;rw [zS];have:=hl.n;omega)
  | exact λ_=>rfl
  | (rw [f0 ‹_›]
     exact zq2)
  | (rw [f1 ‹_› ‹_›]
     exact zq2)
  | (rw [f2 ‹_› (λh=>Bool.noConfusion (h.symm.trans (by assumption : Mc = false)))]
     exact zq2)
  | skip
theorem unid_f3 (b : List Int) (q : Int) (k : Adr) (l : List Ctx) (id now : Int) (hr : RdOk b q) (hl : bytesL l) : ze Tryz.prog 96 [cB.enc false,(cI .i64).enc 3,(cE ZF).enc k,zCi.enc (l,id,now)] (qW true b q) (Yq (qz b false 3 k (zK l id now) q).1) (qW true b (qz b false 3 k (zK l id now) q).2):=by
 obtain ⟨W,hW⟩ : ∃ W,qz b false 3 k (zK l id now) q = W:=⟨_,rfl⟩;have eW : W = (if (ZJ k).2 = false then ((zI,5),q) else (if ZP (jn llP.ip (ZJ k).1) = true then ((zI,5),q) else ((jn llP.ip (ZJ k).1,0),q))):=by
  rw [<- hW];simp (decide:=true) only [qz,zBs,zo,zB4,if_true,if_false,true_and,and_true,false_and]
 rw [hW];clear hW;obtain ⟨I,eI⟩ : ∃ I,ZJ k = I:=⟨_,rfl⟩;rw [eI] at eW;have eJ : Qn llP I.1 = (jn llP.ip I.1,true):=if_pos ⟨llP_v,by decide⟩;obtain ⟨A,eA'⟩ : ∃ A,jn llP.ip I.1 = A:=⟨_,rfl⟩;rw [eA'] at eW eJ;obtain ⟨Mc,eMc⟩ : ∃ x,ZP A = x:=⟨_,rfl⟩;rw [eMc] at eW;have f0 : (I.2 = false) -> W = ((zI,5),q):=λh0=>by rw [eW,if_pos h0]
 have f1 : (¬ I.2 = false) -> (Mc = true) -> W = ((zI,5),q):=λh0 h1=>by rw [eW,if_neg h0,if_pos h1]
 have f2 : (¬ I.2 = false) -> (¬ Mc = true) -> W = ((A,0),q):=λh0 h1=>by rw [eW,if_neg h0,if_neg h1]
 clear eW;obtain ⟨g1,g2,g3,g4,g5,g6⟩:=zg6;refine zR (wd:=1) (by decide) zM (zT QG) zN Tryz.func96 rfl _ (by show 4 + 1 <= _;decide) (zZ (qC _)) (ZZ) ?_;repeat' (first | (apply And.intro<;>intro hc<;>(first | exact Bool.noConfusion hc | (exfalso;first | exact absurd hc (by decide) | exact absurd rfl hc | exact absurd hc ‹_› | exact absurd ‹_› hc | exact Bool.noConfusion ((by assumption : I.2 = true).symm.trans hc)) | (simp only [Zi] at hc<;>first | exact absurd rfl hc | (exfalso;first | exact absurd hc (by decide) | exact absurd rfl hc | exact absurd hc ‹_› | exact absurd ‹_› hc | exact Bool.noConfusion ((by assumption : I.2 = true).symm.trans hc)) | skip) | skip)) | (refine And.intro (by exact Za) ?_) | (apply And.intro) | (refine Exists.intro b (And.intro ⟨rfl,rfl,by first | exact ⟨by assumption,by decide,by decide⟩ | assumption⟩ ?_)) | (intro s hs;(first | (clear g1;have q : I = s:=(hs.trans ((congrArg ZJ (zt k)).trans eI)).symm;clear hs;subst q) | (clear g2;have q : s = llP:=hs;clear hs;subst q) | (clear g5;have q : s = (A,true):=(by (dsimp only at hs;refine hs.trans ((congrArg (Qn · I.1) (zDy (p:=llP) (λj hj=>?_))).trans eJ);(iterate 17 (rcases j with _ | j;exact rfl));exact absurd hj (by omega)));clear hs;subst q) | (clear g6;have q : Mc = s:=(by (dsimp only at hs;refine (hs.trans ((congrArg ZP (Yc (a:=A) (λj hj=>?_))).trans eMc)).symm;(iterate 16 (rcases j with _ | j;exact rfl));exact absurd hj (by omega)));clear hs;subst q) | skip)))
 all_goals try (first | exact rfl | exact Nat.le_of_ble_eq_true rfl)
 all_goals first
  | (show (Zw zb l.length _).length <= _;rw [zS];have:=hl.n;omega)
  | exact λ_=>rfl
  | (rw [f0 ‹_›]
     exact zq2)
  | (rw [f1 (λh=>Bool.noConfusion (h.symm.trans (by assumption : I.2 = true))) ‹_›]
     exact zq2)
  | (rw [f2 (λh=>Bool.noConfusion (h.symm.trans (by assumption : I.2 = true))) (λh=>Bool.noConfusion (h.symm.trans (by assumption : Mc = false)))]
     exact zq2)
  | skip
def LRe3 : Qb:=(128,some (ZH (AC.cons (qf zb zq) (AC.cons (cI .i64) (AC.cons (cI .i64) AC.nil))) (λa=>bytesL a.1) (λa=>zK a.1 a.2.1 a.2.2.1) zCg)) :: LRe2
theorem YP : ZC Tryz.prog LRe3:=⟨zO ⟨_,Tryz.func128,rfl,by kernel_rfl⟩ λa h=>zIZ a.1 a.2.1 a.2.2.1 h,LRe2_ok⟩
def zEs (l : List Int) : Fin 16 -> Int:=λi=>l.getD i.1 default
def zBL (e : Int) (ctx : Bool) (m : Int) (k : Adr) (C : Ctx × Bool) : Int:=
 if ctx = true /\ za e ((m == 3) && !(ZJ k).2) 5 = 0 then za (za (za e ((m == 3) && !(ZJ k).2) 5) (!C.2) 9) (decide (64 < C.1.bits)) 5 else za e ((m == 3) && !(ZJ k).2) 5
def zBt (e : Int) (ctx : Bool) (m : Int) (k : Adr) (C : Ctx × Bool) : Int:=
 if ctx = true /\ za e ((m == 3) && !(ZJ k).2) 5 = 0 then hiF C.1.ip else 18338657682652659712
def zCX (b : List Int) (q E m first own : Int) : (Fin 16 -> Int) × Int × Int:=
 if m = 0 then (zEs (ZY b q E 16).1,(ZY b q E 16).2) else if m = 1 then (ofF first (ZM b q E 8).1,(ZM b q E 8).2)
 else if m = 2 then (ofF first (1099478073344 + (ZM b q E 2).1),(ZM b q E 2).2) else (ofF first own,q,E)
def qa (b : List Int) (q e : Int) (ctx : Bool) (m : Int) (k : Adr) (C : Ctx × Bool) : (Fin 16 -> Int) × Int × Int:=zCX b q (zBL e ctx m k C) m (zBt e ctx m k C) (ZJ k).1
theorem zFw {l : List Ctx} {id now : Int} (hl : bytesL l) : byteOk (zK l id now).1.ip:=by
 cases h : (zK l id now).2 with
 | true=>exact (zBa hl h).2
 | false=>
   unfold zK at h ⊢;split
   . rename_i g;rw [if_pos g] at h;have : ∀ l : List Ctx,(qc id now l).2 = false -> (qc id now l).1 = default:=by
      intro l;induction l with
      | nil=>intro _;rfl
      | cons c l ih=>
        intro h;unfold qc at h ⊢;split
        . rename_i g2;rw [if_pos g2] at h;cases h
        . rename_i g2;rw [if_neg g2] at h;exact ih h
     rw [this l h];exact ⟨λi=>⟨(by decide : (0 : Int) <= 0),(by decide : (0 : Int) < 256)⟩⟩
   . exact ⟨λi=>⟨(by decide : (0 : Int) <= 0),(by decide : (0 : Int) < 256)⟩⟩
theorem zGd {b : List Int} {q e : Int} (hb : BL b) : 0 <= (ZM b q e 2).1 /\ (ZM b q e 2).1 < 65536:=by
 unfold ZM;split
 . exact num2_v hb
 . exact ⟨(by decide : (0 : Int) <= 0),(by decide : (0 : Int) < 65536)⟩
theorem take16 {b : List Int} {q e : Int} (hr : RdOk b q) : (ZY b q e 16).1.length = 16:=by
 have h1:=hr.lo;have h2:=hr.hi;have h3:=hr.len;have w0 : IntKind.i64.wrap ((b.length : Int) - q) = b.length - q:=IntWalk.i64_in _ (by omega);unfold ZY;rw [w0];split
 . rename_i g;dsimp only;rw [List.length_take,List.length_drop];have : ¬ (b.length : Int) - q < 16:=λh=>by
    unfold za at g;rw [decide_eq_true h] at g;split at g
    . cases g
    . rename_i g2;exact g2 ⟨rfl,g⟩
   show min 16 _ = 16;omega
 . exact List.length_replicate ..
abbrev zAQ (a : Fin 16 -> Int) : FV:=.e (.agg 16 ((eA .u8 16).cell a))
theorem qT (a : Fin 16 -> Int) : zBN (zAQ a):=zET (zDf λi=>(eA .u8 16).flat _ _)
theorem radr_t0 (b : List Int) (q e : Int) (k : Adr) (l : List Ctx) (id now : Int) (hr : RdOk b q) (hl : bytesL l) : ze Tryz.prog 102 [cB.enc true,(cI .i64).enc 0,(cE ZF).enc k,(qf zb zq).enc l,(cI .i64).enc id,(cI .i64).enc now] (Yp true b q e) (zAQ (qa b q e true 0 k (zK l id now)).1) (Yp true b (qa b q e true 0 k (zK l id now)).2.1 (qa b q e true 0 k (zK l id now)).2.2):=by
 obtain ⟨W,hW⟩ : ∃ W,qa b q e true 0 k (zK l id now) = W:=⟨_,rfl⟩;have d1 : ((0 : Int) == 3 && !(ZJ k).2) = false:=rfl;have c1 : za e false 5 = 0 -> zBL e true 0 k (zK l id now) = za (za (za e false 5) (!(zK l id now).2) 9) (decide (64 < (zK l id now).1.bits)) 5:=λh=>if_pos ⟨rfl,h⟩;have c2 : za e false 5 = 0 -> zBt e true 0 k (zK l id now) = hiF (zK l id now).1.ip:=λh=>if_pos ⟨rfl,h⟩;have c3 : ¬ za e false 5 = 0 -> zBL e true 0 k (zK l id now) = za e false 5:=λh=>if_neg (λx=>h x.2);have c4 : ¬ za e false 5 = 0 -> zBt e true 0 k (zK l id now) = 18338657682652659712:=λh=>if_neg (λx=>h x.2);have wA : (za e false 5) = 0 -> W = (zEs (ZY b q (za (za (za e false 5) (!(zK l id now).2) 9) (decide (64 < (zK l id now).1.bits)) 5) 16).1,(ZY b q (za (za (za e false 5) (!(zK l id now).2) 9) (decide (64 < (zK l id now).1.bits)) 5) 16).2):=λh=>by
  rw [<- hW];unfold qa;rw [c1 h,c2 h];rfl
 have wB : ¬ (za e false 5) = 0 -> W = (zEs (ZY b q (za e false 5) 16).1,(ZY b q (za e false 5) 16).2):=λh=>by
  rw [<- hW];unfold qa;rw [c3 h,c4 h];rfl
 have hdb:=zFw (id:=id) (now:=now) hl;rw [hW];clear hW d1 c1 c2 c3 c4;obtain ⟨I,eI⟩ : ∃ x,ZJ k = x:=⟨_,rfl⟩;obtain ⟨E1,eE1⟩ : ∃ x,za e false 5 = x:=⟨_,rfl⟩;rw [eE1] at wA wB;obtain ⟨C,eC⟩ : ∃ x,zK l id now = x:=⟨_,rfl⟩;rw [eC] at wA hdb;obtain ⟨E2,eE2⟩ : ∃ x,za E1 (!C.2) 9 = x:=⟨_,rfl⟩;rw [eE2] at wA;obtain ⟨E3,eE3⟩ : ∃ x,za E2 (decide (64 < C.1.bits)) 5 = x:=⟨_,rfl⟩;rw [eE3] at wA;have eSp : zBX C.1.ip = (hiF C.1.ip,loF C.1.ip):=rfl;obtain ⟨Hc,eHc⟩ : ∃ x,hiF C.1.ip = x:=⟨_,rfl⟩;obtain ⟨Lc,eLc⟩ : ∃ x,loF C.1.ip = x:=⟨_,rfl⟩;rw [eHc,eLc] at eSp;have lb:=take16 (e:=E1) hr;obtain ⟨Tb,eTb⟩ : ∃ x,ZY b q E1 16 = x:=⟨_,rfl⟩;rw [eTb] at wB lb;have la:=take16 (e:=E3) hr;obtain ⟨Ta,eTa⟩ : ∃ x,ZY b q E3 16 = x:=⟨_,rfl⟩;rw [eTa] at wA la;have g1:=trivial;have g2:=trivial;have g3:=trivial;have g4:=trivial;have g5:=trivial;have g6:=trivial;have g7:=trivial;have g8:=trivial;have g9:=trivial;refine zR (wd:=1) (by decide) zM (zT YP) zN Tryz.func102 rfl _ (by show 6 + 1 <= _;decide) (zZ (qT _)) (Yd) ?_;repeat' (first | (apply And.intro<;>intro hc<;>(first | exact Bool.noConfusion hc | exact QA hc | (simp only [Zi] at hc<;>first | exact absurd rfl hc | exact QA hc | skip) | skip)) | (refine And.intro Za ?_) | (apply And.intro) | (refine Exists.intro b (And.intro ⟨rfl,rfl,by first | exact trivial | exact ⟨hr,by decide,by decide⟩⟩ ?_)) | (intro s hs;(first | (clear g1;have q : I = s:=(hs.trans ((congrArg ZJ (zt k)).trans eI)).symm;clear hs;subst q) | (clear g2;have q : s = ((),q,E1):=hs.trans (congrArg (λx=>((),q,x)) eE1);clear hs;subst q) | (clear g3;have h0 : E1 = 0:=‹_›;have q : C = s:=(hs.trans ((congrArg (λl=>zK l id now) (zU l)).trans eC)).symm;clear hs;subst q) | (clear g4;have h0 : E1 = 0:=‹_›;have q : s = ((),q,E2):=hs.trans (congrArg (λx=>((),q,x)) eE2);clear hs;subst q) | (clear g5;have h0 : E1 = 0:=‹_›;have q : s = ((),q,E3):=hs.trans (congrArg (λx=>((),q,x)) eE3);clear hs;subst q) | (clear g6;have h0 : E1 = 0:=‹_›;have q : s = (Hc,Lc):=(by (dsimp only at hs;refine hs.trans ((congrArg zBX (Yc (a:=C.1.ip) (λj hj=>?_))).trans eSp);(iterate 16 (rcases j with _ | j;exact rfl));exact absurd hj (by omega)));clear hs;subst q) | (clear g7;have h0 : ¬ E1 = 0:=‹_›;have q : Tb = s:=(hs.trans eTb).symm;clear hs;subst q) | (clear g7;have h0 : E1 = 0:=‹_›;have q : Ta = s:=(hs.trans eTa).symm;clear hs;subst q) | skip)))
 all_goals try (first | exact rfl | exact Nat.le_of_ble_eq_true rfl | exact λ_=>rfl)
 all_goals first
  | exact Eq.mp (congrArg bytesL (zU l).symm) hl
  | (dsimp only
     refine Eq.mp (congrArg byteOk (Yc (a:=C.1.ip) (λj hj=>?_)).symm) hdb;iterate 16 (rcases j with _ | j;exact rfl)
     exact absurd hj (by omega))
  | (rw [wA ‹_›]
     exact ⟨ZS (qg rfl (λi hi=>by (iterate 16 (rcases i with _ | i;exact zA (by rw [la];rfl)));exact absurd hi (by omega))),Qd rfl rfl⟩)
  | (rw [wB ‹_›]
     exact ⟨ZS (qg rfl (λi hi=>by (iterate 16 (rcases i with _ | i;exact zA (by rw [lb];rfl)));exact absurd hi (by omega))),Qd rfl rfl⟩)
  | skip
theorem radr_t1 (b : List Int) (q e : Int) (k : Adr) (l : List Ctx) (id now : Int) (hr : RdOk b q) (hl : bytesL l) : ze Tryz.prog 102 [cB.enc true,(cI .i64).enc 1,(cE ZF).enc k,(qf zb zq).enc l,(cI .i64).enc id,(cI .i64).enc now] (Yp true b q e) (zAQ (qa b q e true 1 k (zK l id now)).1) (Yp true b (qa b q e true 1 k (zK l id now)).2.1 (qa b q e true 1 k (zK l id now)).2.2):=by
 obtain ⟨W,hW⟩ : ∃ W,qa b q e true 1 k (zK l id now) = W:=⟨_,rfl⟩;have d1 : ((1 : Int) == 3 && !(ZJ k).2) = false:=rfl;have c1 : za e false 5 = 0 -> zBL e true 1 k (zK l id now) = za (za (za e false 5) (!(zK l id now).2) 9) (decide (64 < (zK l id now).1.bits)) 5:=λh=>if_pos ⟨rfl,h⟩;have c2 : za e false 5 = 0 -> zBt e true 1 k (zK l id now) = hiF (zK l id now).1.ip:=λh=>if_pos ⟨rfl,h⟩;have c3 : ¬ za e false 5 = 0 -> zBL e true 1 k (zK l id now) = za e false 5:=λh=>if_neg (λx=>h x.2);have c4 : ¬ za e false 5 = 0 -> zBt e true 1 k (zK l id now) = 18338657682652659712:=λh=>if_neg (λx=>h x.2);have wA : (za e false 5) = 0 -> W = (ofF (hiF (zK l id now).1.ip) (ZM b q (za (za (za e false 5) (!(zK l id now).2) 9) (decide (64 < (zK l id now).1.bits)) 5) 8).1,(ZM b q (za (za (za e false 5) (!(zK l id now).2) 9) (decide (64 < (zK l id now).1.bits)) 5) 8).2):=λh=>by
  rw [<- hW];unfold qa;rw [c1 h,c2 h];rfl
 have wB : ¬ (za e false 5) = 0 -> W = (ofF 18338657682652659712 (ZM b q (za e false 5) 8).1,(ZM b q (za e false 5) 8).2):=λh=>by
  rw [<- hW];unfold qa;rw [c3 h,c4 h];rfl
 have hdb:=zFw (id:=id) (now:=now) hl;rw [hW];clear hW d1 c1 c2 c3 c4;obtain ⟨I,eI⟩ : ∃ x,ZJ k = x:=⟨_,rfl⟩;obtain ⟨E1,eE1⟩ : ∃ x,za e false 5 = x:=⟨_,rfl⟩;rw [eE1] at wA wB;obtain ⟨C,eC⟩ : ∃ x,zK l id now = x:=⟨_,rfl⟩;rw [eC] at wA hdb;obtain ⟨E2,eE2⟩ : ∃ x,za E1 (!C.2) 9 = x:=⟨_,rfl⟩;rw [eE2] at wA;obtain ⟨E3,eE3⟩ : ∃ x,za E2 (decide (64 < C.1.bits)) 5 = x:=⟨_,rfl⟩;rw [eE3] at wA;have eSp : zBX C.1.ip = (hiF C.1.ip,loF C.1.ip):=rfl;obtain ⟨Hc,eHc⟩ : ∃ x,hiF C.1.ip = x:=⟨_,rfl⟩;obtain ⟨Lc,eLc⟩ : ∃ x,loF C.1.ip = x:=⟨_,rfl⟩;rw [eHc,eLc] at eSp;rw [eHc] at wA;obtain ⟨Tb,eTb⟩ : ∃ x,ZM b q E1 8 = x:=⟨_,rfl⟩;rw [eTb] at wB;obtain ⟨Ta,eTa⟩ : ∃ x,ZM b q E3 8 = x:=⟨_,rfl⟩;rw [eTa] at wA;obtain ⟨Ab,eAb⟩ : ∃ x,ofF 18338657682652659712 Tb.1 = x:=⟨_,rfl⟩;rw [eAb] at wB;obtain ⟨Aa,eAa⟩ : ∃ x,ofF Hc Ta.1 = x:=⟨_,rfl⟩;rw [eAa] at wA;have g1:=trivial;have g2:=trivial;have g3:=trivial;have g4:=trivial;have g5:=trivial;have g6:=trivial;have g7:=trivial;have g8:=trivial;have g9:=trivial;refine zR (wd:=1) (by decide) zM (zT YP) zN Tryz.func102 rfl _ (by show 6 + 1 <= _;decide) (zZ (qT _)) (Yd) ?_;repeat' (first | (apply And.intro<;>intro hc<;>(first | exact Bool.noConfusion hc | exact QA hc | (simp only [Zi] at hc<;>first | exact absurd rfl hc | exact QA hc | skip) | skip)) | (refine And.intro Za ?_) | (apply And.intro) | (refine Exists.intro b (And.intro ⟨rfl,rfl,by first | exact trivial | exact ⟨hr,by decide,by decide⟩⟩ ?_)) | (intro s hs;(first | (clear g1;have q : I = s:=(hs.trans ((congrArg ZJ (zt k)).trans eI)).symm;clear hs;subst q) | (clear g2;have q : s = ((),q,E1):=hs.trans (congrArg (λx=>((),q,x)) eE1);clear hs;subst q) | (clear g3;have h0 : E1 = 0:=‹_›;have q : C = s:=(hs.trans ((congrArg (λl=>zK l id now) (zU l)).trans eC)).symm;clear hs;subst q) | (clear g4;have h0 : E1 = 0:=‹_›;have q : s = ((),q,E2):=hs.trans (congrArg (λx=>((),q,x)) eE2);clear hs;subst q) | (clear g5;have h0 : E1 = 0:=‹_›;have q : s = ((),q,E3):=hs.trans (congrArg (λx=>((),q,x)) eE3);clear hs;subst q) | (clear g6;have h0 : E1 = 0:=‹_›;have q : s = (Hc,Lc):=(by (dsimp only at hs;refine hs.trans ((congrArg zBX (Yc (a:=C.1.ip) (λj hj=>?_))).trans eSp);(iterate 16 (rcases j with _ | j;exact rfl));exact absurd hj (by omega)));clear hs;subst q) | (clear g7;have h0 : ¬ E1 = 0:=‹_›;have q : Tb = s:=(hs.trans eTb).symm;clear hs;subst q) | (clear g8;have h0 : ¬ E1 = 0:=‹_›;have q : Ab = s:=(hs.trans eAb).symm;clear hs;subst q) | (clear g7;have h0 : E1 = 0:=‹_›;have q : Ta = s:=(hs.trans eTa).symm;clear hs;subst q) | (clear g8;have h0 : E1 = 0:=‹_›;have q : Aa = s:=(hs.trans eAa).symm;clear hs;subst q) | skip)))
 all_goals try (first | exact rfl | exact Nat.le_of_ble_eq_true rfl | exact λ_=>rfl)
 all_goals first
  | exact Eq.mp (congrArg bytesL (zU l).symm) hl
  | (dsimp only
     refine Eq.mp (congrArg byteOk (Yc (a:=C.1.ip) (λj hj=>?_)).symm) hdb;iterate 16 (rcases j with _ | j;exact rfl)
     exact absurd hj (by omega))
  | (rw [wA ‹_›]
     exact ⟨ZS (qg rfl (by exact zt6)),Qd rfl rfl⟩)
  | (rw [wB ‹_›]
     exact ⟨ZS (qg rfl (by exact zt6)),Qd rfl rfl⟩)
  | skip
theorem radr_t2 (b : List Int) (q e : Int) (k : Adr) (l : List Ctx) (id now : Int) (hr : RdOk b q) (hl : bytesL l) : ze Tryz.prog 102 [cB.enc true,(cI .i64).enc 2,(cE ZF).enc k,(qf zb zq).enc l,(cI .i64).enc id,(cI .i64).enc now] (Yp true b q e) (zAQ (qa b q e true 2 k (zK l id now)).1) (Yp true b (qa b q e true 2 k (zK l id now)).2.1 (qa b q e true 2 k (zK l id now)).2.2):=by
 obtain ⟨W,hW⟩ : ∃ W,qa b q e true 2 k (zK l id now) = W:=⟨_,rfl⟩;have d1 : ((2 : Int) == 3 && !(ZJ k).2) = false:=rfl;have c1 : za e false 5 = 0 -> zBL e true 2 k (zK l id now) = za (za (za e false 5) (!(zK l id now).2) 9) (decide (64 < (zK l id now).1.bits)) 5:=λh=>if_pos ⟨rfl,h⟩;have c2 : za e false 5 = 0 -> zBt e true 2 k (zK l id now) = hiF (zK l id now).1.ip:=λh=>if_pos ⟨rfl,h⟩;have c3 : ¬ za e false 5 = 0 -> zBL e true 2 k (zK l id now) = za e false 5:=λh=>if_neg (λx=>h x.2);have c4 : ¬ za e false 5 = 0 -> zBt e true 2 k (zK l id now) = 18338657682652659712:=λh=>if_neg (λx=>h x.2);have wA : (za e false 5) = 0 -> W = (ofF (hiF (zK l id now).1.ip) (1099478073344 + (ZM b q (za (za (za e false 5) (!(zK l id now).2) 9) (decide (64 < (zK l id now).1.bits)) 5) 2).1),(ZM b q (za (za (za e false 5) (!(zK l id now).2) 9) (decide (64 < (zK l id now).1.bits)) 5) 2).2):=λh=>by
  rw [<- hW];unfold qa;rw [c1 h,c2 h];rfl
 have wB : ¬ (za e false 5) = 0 -> W = (ofF 18338657682652659712 (1099478073344 + (ZM b q (za e false 5) 2).1),(ZM b q (za e false 5) 2).2):=λh=>by
  rw [<- hW];unfold qa;rw [c3 h,c4 h];rfl
 have hdb:=zFw (id:=id) (now:=now) hl;rw [hW];clear hW d1 c1 c2 c3 c4;obtain ⟨I,eI⟩ : ∃ x,ZJ k = x:=⟨_,rfl⟩;obtain ⟨E1,eE1⟩ : ∃ x,za e false 5 = x:=⟨_,rfl⟩;rw [eE1] at wA wB;obtain ⟨C,eC⟩ : ∃ x,zK l id now = x:=⟨_,rfl⟩;rw [eC] at wA hdb;obtain ⟨E2,eE2⟩ : ∃ x,za E1 (!C.2) 9 = x:=⟨_,rfl⟩;rw [eE2] at wA;obtain ⟨E3,eE3⟩ : ∃ x,za E2 (decide (64 < C.1.bits)) 5 = x:=⟨_,rfl⟩;rw [eE3] at wA;have eSp : zBX C.1.ip = (hiF C.1.ip,loF C.1.ip):=rfl;obtain ⟨Hc,eHc⟩ : ∃ x,hiF C.1.ip = x:=⟨_,rfl⟩;obtain ⟨Lc,eLc⟩ : ∃ x,loF C.1.ip = x:=⟨_,rfl⟩;rw [eHc,eLc] at eSp;rw [eHc] at wA;have vb:=zGd (q:=q) (e:=E1) hr.bl;obtain ⟨Tb,eTb⟩ : ∃ x,ZM b q E1 2 = x:=⟨_,rfl⟩;rw [eTb] at wB vb;have ub : IntKind.u64.wrap (1099478073344 + Tb.1) = 1099478073344 + Tb.1:=IntWalk.u64_in _ (by omega);have va:=zGd (q:=q) (e:=E3) hr.bl;obtain ⟨Ta,eTa⟩ : ∃ x,ZM b q E3 2 = x:=⟨_,rfl⟩;rw [eTa] at wA va;have ua : IntKind.u64.wrap (1099478073344 + Ta.1) = 1099478073344 + Ta.1:=IntWalk.u64_in _ (by omega);obtain ⟨Ab,eAb⟩ : ∃ x,ofF 18338657682652659712 (1099478073344 + Tb.1) = x:=⟨_,rfl⟩;rw [eAb] at wB;obtain ⟨Aa,eAa⟩ : ∃ x,ofF Hc (1099478073344 + Ta.1) = x:=⟨_,rfl⟩;rw [eAa] at wA;have g1:=trivial;have g2:=trivial;have g3:=trivial;have g4:=trivial;have g5:=trivial;have g6:=trivial;have g7:=trivial;have g8:=trivial;have g9:=trivial;refine zR (wd:=1) (by decide) zM (zT YP) zN Tryz.func102 rfl _ (by show 6 + 1 <= _;decide) (zZ (qT _)) (Yd) ?_;repeat' (first | (apply And.intro<;>intro hc<;>(first | exact Bool.noConfusion hc | exact QA hc | (simp only [Zi] at hc<;>first | exact absurd rfl hc | exact QA hc | skip) | skip)) | (refine And.intro Za ?_) | (apply And.intro) | (refine Exists.intro b (And.intro ⟨rfl,rfl,by first | exact trivial | exact ⟨hr,by decide,by decide⟩⟩ ?_)) | (intro s hs;(first | (clear g1;have q : I = s:=(hs.trans ((congrArg ZJ (zt k)).trans eI)).symm;clear hs;subst q) | (clear g2;have q : s = ((),q,E1):=hs.trans (congrArg (λx=>((),q,x)) eE1);clear hs;subst q) | (clear g3;have h0 : E1 = 0:=‹_›;have q : C = s:=(hs.trans ((congrArg (λl=>zK l id now) (zU l)).trans eC)).symm;clear hs;subst q) | (clear g4;have h0 : E1 = 0:=‹_›;have q : s = ((),q,E2):=hs.trans (congrArg (λx=>((),q,x)) eE2);clear hs;subst q) | (clear g5;have h0 : E1 = 0:=‹_›;have q : s = ((),q,E3):=hs.trans (congrArg (λx=>((),q,x)) eE3);clear hs;subst q) | (clear g6;have h0 : E1 = 0:=‹_›;have q : s = (Hc,Lc):=(by (dsimp only at hs;refine hs.trans ((congrArg zBX (Yc (a:=C.1.ip) (λj hj=>?_))).trans eSp);(iterate 16 (rcases j with _ | j;exact rfl));exact absurd hj (by omega)));clear hs;subst q) | (clear g7;have h0 : ¬ E1 = 0:=‹_›;have q : Tb = s:=(hs.trans eTb).symm;clear hs;subst q) | (clear g8;have h0 : ¬ E1 = 0:=‹_›;have q : Ab = s:=(hs.trans ((congrArg (ofF 18338657682652659712) ub).trans eAb)).symm;clear hs;subst q) | (clear g7;have h0 : E1 = 0:=‹_›;have q : Ta = s:=(hs.trans eTa).symm;clear hs;subst q) | (clear g8;have h0 : E1 = 0:=‹_›;have q : Aa = s:=(hs.trans ((congrArg (ofF Hc) ua).trans eAa)).symm;clear hs;subst q) | skip)))
 all_goals try (first | exact rfl | exact Nat.le_of_ble_eq_true rfl | exact λ_=>rfl)
 all_goals first
  | exact Eq.mp (congrArg bytesL (zU l).symm) hl
  | (dsimp only
     refine Eq.mp (congrArg byteOk (Yc (a:=C.1.ip) (λj hj=>?_)).symm) hdb;iterate 16 (rcases j with _ | j;exact rfl)
     exact absurd hj (by omega))
  | (rw [wA ‹_›]
     exact ⟨ZS (qg rfl (by exact zt6)),Qd rfl rfl⟩)
  | (rw [wB ‹_›]
     exact ⟨ZS (qg rfl (by exact zt6)),Qd rfl rfl⟩)
  | skip
theorem radr_t3 (b : List Int) (q e : Int) (k : Adr) (l : List Ctx) (id now : Int) (hr : RdOk b q) (hl : bytesL l) : ze Tryz.prog 102 [cB.enc true,(cI .i64).enc 3,(cE ZF).enc k,(qf zb zq).enc l,(cI .i64).enc id,(cI .i64).enc now] (Yp true b q e) (zAQ (qa b q e true 3 k (zK l id now)).1) (Yp true b (qa b q e true 3 k (zK l id now)).2.1 (qa b q e true 3 k (zK l id now)).2.2):=by
 obtain ⟨W,hW⟩ : ∃ W,qa b q e true 3 k (zK l id now) = W:=⟨_,rfl⟩;have d1 : ((3 : Int) == 3 && !(ZJ k).2) = (!(ZJ k).2):=rfl;have c1 : za e (!(ZJ k).2) 5 = 0 -> zBL e true 3 k (zK l id now) = za (za (za e (!(ZJ k).2) 5) (!(zK l id now).2) 9) (decide (64 < (zK l id now).1.bits)) 5:=λh=>if_pos ⟨rfl,h⟩;have c2 : za e (!(ZJ k).2) 5 = 0 -> zBt e true 3 k (zK l id now) = hiF (zK l id now).1.ip:=λh=>if_pos ⟨rfl,h⟩;have c3 : ¬ za e (!(ZJ k).2) 5 = 0 -> zBL e true 3 k (zK l id now) = za e (!(ZJ k).2) 5:=λh=>if_neg (λx=>h x.2);have c4 : ¬ za e (!(ZJ k).2) 5 = 0 -> zBt e true 3 k (zK l id now) = 18338657682652659712:=λh=>if_neg (λx=>h x.2);have wA : (za e (!(ZJ k).2) 5) = 0 -> W = (ofF (hiF (zK l id now).1.ip) (ZJ k).1,q,(za (za (za e (!(ZJ k).2) 5) (!(zK l id now).2) 9) (decide (64 < (zK l id now).1.bits)) 5)):=λh=>by
  rw [<- hW];unfold qa;rw [c1 h,c2 h];rfl
 have wB : ¬ (za e (!(ZJ k).2) 5) = 0 -> W = (ofF 18338657682652659712 (ZJ k).1,q,(za e (!(ZJ k).2) 5)):=λh=>by
  rw [<- hW];unfold qa;rw [c3 h,c4 h];rfl
 have hdb:=zFw (id:=id) (now:=now) hl;rw [hW];clear hW d1 c1 c2 c3 c4;obtain ⟨I,eI⟩ : ∃ x,ZJ k = x:=⟨_,rfl⟩;rw [eI] at wA wB;obtain ⟨E1,eE1⟩ : ∃ x,za e (!I.2) 5 = x:=⟨_,rfl⟩;rw [eE1] at wA wB;obtain ⟨C,eC⟩ : ∃ x,zK l id now = x:=⟨_,rfl⟩;rw [eC] at wA hdb;obtain ⟨E2,eE2⟩ : ∃ x,za E1 (!C.2) 9 = x:=⟨_,rfl⟩;rw [eE2] at wA;obtain ⟨E3,eE3⟩ : ∃ x,za E2 (decide (64 < C.1.bits)) 5 = x:=⟨_,rfl⟩;rw [eE3] at wA;have eSp : zBX C.1.ip = (hiF C.1.ip,loF C.1.ip):=rfl;obtain ⟨Hc,eHc⟩ : ∃ x,hiF C.1.ip = x:=⟨_,rfl⟩;obtain ⟨Lc,eLc⟩ : ∃ x,loF C.1.ip = x:=⟨_,rfl⟩;rw [eHc,eLc] at eSp;rw [eHc] at wA;obtain ⟨Ab,eAb⟩ : ∃ x,ofF 18338657682652659712 I.1 = x:=⟨_,rfl⟩;rw [eAb] at wB;obtain ⟨Aa,eAa⟩ : ∃ x,ofF Hc I.1 = x:=⟨_,rfl⟩;rw [eAa] at wA;have g1:=trivial;have g2:=trivial;have g3:=trivial;have g4:=trivial;have g5:=trivial;have g6:=trivial;have g7:=trivial;have g8:=trivial;have g9:=trivial;refine zR (wd:=1) (by decide) zM (zT YP) zN Tryz.func102 rfl _ (by show 6 + 1 <= _;decide) (zZ (qT _)) (Yd) ?_;repeat' (first | (apply And.intro<;>intro hc<;>(first | exact Bool.noConfusion hc | exact QA hc | (simp only [Zi] at hc<;>first | exact absurd rfl hc | exact QA hc | skip) | skip)) | (refine And.intro Za ?_) | (apply And.intro) | (refine Exists.intro b (And.intro ⟨rfl,rfl,by first | exact trivial | exact ⟨hr,by decide,by decide⟩⟩ ?_)) | (intro s hs;(first | (clear g1;have q : I = s:=(hs.trans ((congrArg ZJ (zt k)).trans eI)).symm;clear hs;subst q) | (clear g2;have q : s = ((),q,E1):=hs.trans (congrArg (λx=>((),q,x)) eE1);clear hs;subst q) | (clear g3;have h0 : E1 = 0:=‹_›;have q : C = s:=(hs.trans ((congrArg (λl=>zK l id now) (zU l)).trans eC)).symm;clear hs;subst q) | (clear g4;have h0 : E1 = 0:=‹_›;have q : s = ((),q,E2):=hs.trans (congrArg (λx=>((),q,x)) eE2);clear hs;subst q) | (clear g5;have h0 : E1 = 0:=‹_›;have q : s = ((),q,E3):=hs.trans (congrArg (λx=>((),q,x)) eE3);clear hs;subst q) | (clear g6;have h0 : E1 = 0:=‹_›;have q : s = (Hc,Lc):=(by (dsimp only at hs;refine hs.trans ((congrArg zBX (Yc (a:=C.1.ip) (λj hj=>?_))).trans eSp);(iterate 16 (rcases j with _ | j;exact rfl));exact absurd hj (by omega)));clear hs;subst q) | (clear g8;have h0 : ¬ E1 = 0:=‹_›;have q : Ab = s:=(hs.trans eAb).symm;clear hs;subst q) | (clear g8;have h0 : E1 = 0:=‹_›;have q : Aa = s:=(hs.trans eAa).symm;clear hs;subst q) | skip)))
 all_goals try (first | exact rfl | exact Nat.le_of_ble_eq_true rfl | exact λ_=>rfl)
 all_goals first
  | exact Eq.mp (congrArg bytesL (zU l).symm) hl
  | (dsimp only
     refine Eq.mp (congrArg byteOk (Yc (a:=C.1.ip) (λj hj=>?_)).symm) hdb;iterate 16 (rcases j with _ | j;exact rfl)
     exact absurd hj (by omega))
  | (rw [wA ‹_›]
     exact ⟨ZS (qg rfl (by exact zt6)),Qd rfl rfl⟩)
  | (rw [wB ‹_›]
     exact ⟨ZS (qg rfl (by exact zt6)),Qd rfl rfl⟩)
  | skip
theorem radr_f0 (b : List Int) (q e : Int) (k : Adr) (l : List Ctx) (id now : Int) (hr : RdOk b q) (hl : bytesL l) : ze Tryz.prog 102 [cB.enc false,(cI .i64).enc 0,(cE ZF).enc k,(qf zb zq).enc l,(cI .i64).enc id,(cI .i64).enc now] (Yp true b q e) (zAQ (qa b q e false 0 k (zK l id now)).1) (Yp true b (qa b q e false 0 k (zK l id now)).2.1 (qa b q e false 0 k (zK l id now)).2.2):=by
 obtain ⟨W,hW⟩ : ∃ W,qa b q e false 0 k (zK l id now) = W:=⟨_,rfl⟩;have d1 : ((0 : Int) == 3 && !(ZJ k).2) = false:=rfl;have wB : W = (zEs (ZY b q (za e false 5) 16).1,(ZY b q (za e false 5) 16).2):=hW.symm;rw [hW];clear hW d1;obtain ⟨I,eI⟩ : ∃ x,ZJ k = x:=⟨_,rfl⟩;obtain ⟨E1,eE1⟩ : ∃ x,za e false 5 = x:=⟨_,rfl⟩;rw [eE1] at wB;have lb:=take16 (e:=E1) hr;obtain ⟨Tb,eTb⟩ : ∃ x,ZY b q E1 16 = x:=⟨_,rfl⟩;rw [eTb] at wB lb;have g1:=trivial;have g2:=trivial;have g3:=trivial;have g4:=trivial;have g5:=trivial;have g6:=trivial;have g7:=trivial;have g8:=trivial;have g9:=trivial;refine zR (wd:=1) (by decide) zM (zT YP) zN Tryz.func102 rfl _ (by show 6 + 1 <= _;decide) (zZ (qT _)) (Yd) ?_;repeat' (first | (apply And.intro<;>intro hc<;>(first | exact Bool.noConfusion hc | exact QA hc | (simp only [Zi] at hc<;>first | exact absurd rfl hc | exact QA hc | skip) | skip)) | (refine And.intro Za ?_) | (apply And.intro) | (refine Exists.intro b (And.intro ⟨rfl,rfl,by first | exact trivial | exact ⟨hr,by decide,by decide⟩⟩ ?_)) | (intro s hs;(first | (clear g1;have q : I = s:=(hs.trans ((congrArg ZJ (zt k)).trans eI)).symm;clear hs;subst q) | (clear g2;have q : s = ((),q,E1):=hs.trans (congrArg (λx=>((),q,x)) eE1);clear hs;subst q) | (clear g7;have q : Tb = s:=(hs.trans eTb).symm;clear hs;subst q) | skip)))
 all_goals try (first | exact rfl | exact Nat.le_of_ble_eq_true rfl | exact λ_=>rfl)
 all_goals first
  | exact Eq.mp (congrArg bytesL (zU l).symm) hl
  | (rw [wB]
     exact ⟨ZS (qg rfl (λi hi=>by (iterate 16 (rcases i with _ | i;exact zA (by rw [lb];rfl)));exact absurd hi (by omega))),Qd rfl rfl⟩)
  | skip
theorem radr_f1 (b : List Int) (q e : Int) (k : Adr) (l : List Ctx) (id now : Int) (hr : RdOk b q) (hl : bytesL l) : ze Tryz.prog 102 [cB.enc false,(cI .i64).enc 1,(cE ZF).enc k,(qf zb zq).enc l,(cI .i64).enc id,(cI .i64).enc now] (Yp true b q e) (zAQ (qa b q e false 1 k (zK l id now)).1) (Yp true b (qa b q e false 1 k (zK l id now)).2.1 (qa b q e false 1 k (zK l id now)).2.2):=by
 obtain ⟨W,hW⟩ : ∃ W,qa b q e false 1 k (zK l id now) = W:=⟨_,rfl⟩;have d1 : ((1 : Int) == 3 && !(ZJ k).2) = false:=rfl;have wB : W = (ofF 18338657682652659712 (ZM b q (za e false 5) 8).1,(ZM b q (za e false 5) 8).2):=hW.symm;rw [hW];clear hW d1;obtain ⟨I,eI⟩ : ∃ x,ZJ k = x:=⟨_,rfl⟩;obtain ⟨E1,eE1⟩ : ∃ x,za e false 5 = x:=⟨_,rfl⟩;rw [eE1] at wB;obtain ⟨Tb,eTb⟩ : ∃ x,ZM b q E1 8 = x:=⟨_,rfl⟩;rw [eTb] at wB;obtain ⟨Ab,eAb⟩ : ∃ x,ofF 18338657682652659712 Tb.1 = x:=⟨_,rfl⟩;rw [eAb] at wB;have g1:=trivial;have g2:=trivial;have g3:=trivial;have g4:=trivial;have g5:=trivial;have g6:=trivial;have g7:=trivial;have g8:=trivial;have g9:=trivial;refine zR (wd:=1) (by decide) zM (zT YP) zN Tryz.func102 rfl _ (by show 6 + 1 <= _;decide) (zZ (qT _)) (Yd) ?_;repeat' (first | (apply And.intro<;>intro hc<;>(first | exact Bool.noConfusion hc | exact QA hc | (simp only [Zi] at hc<;>first | exact absurd rfl hc | exact QA hc | skip) | skip)) | (refine And.intro Za ?_) | (apply And.intro) | (refine Exists.intro b (And.intro ⟨rfl,rfl,by first | exact trivial | exact ⟨hr,by decide,by decide⟩⟩ ?_)) | (intro s hs;(first | (clear g1;have q : I = s:=(hs.trans ((congrArg ZJ (zt k)).trans eI)).symm;clear hs;subst q) | (clear g2;have q : s = ((),q,E1):=hs.trans (congrArg (λx=>((),q,x)) eE1);clear hs;subst q) | (clear g7;have q : Tb = s:=(hs.trans eTb).symm;clear hs;subst q) | (clear g8;have q : Ab = s:=(hs.trans eAb).symm;clear hs;subst q) | skip)))
 all_goals try (first | exact rfl | exact Nat.le_of_ble_eq_true rfl | exact λ_=>rfl)
 all_goals first
  | exact Eq.mp (congrArg bytesL (zU l).symm) hl
  | (rw [wB]
     exact ⟨ZS (qg rfl (by exact zt6)),Qd rfl rfl⟩)
  | skip
theorem radr_f2 (b : List Int) (q e : Int) (k : Adr) (l : List Ctx) (id now : Int) (hr : RdOk b q) (hl : bytesL l) : ze Tryz.prog 102 [cB.enc false,(cI .i64).enc 2,(cE ZF).enc k,(qf zb zq).enc l,(cI .i64).enc id,(cI .i64).enc now] (Yp true b q e) (zAQ (qa b q e false 2 k (zK l id now)).1) (Yp true b (qa b q e false 2 k (zK l id now)).2.1 (qa b q e false 2 k (zK l id now)).2.2):=by
 obtain ⟨W,hW⟩ : ∃ W,qa b q e false 2 k (zK l id now) = W:=⟨_,rfl⟩;have d1 : ((2 : Int) == 3 && !(ZJ k).2) = false:=rfl;have wB : W = (ofF 18338657682652659712 (1099478073344 + (ZM b q (za e false 5) 2).1),(ZM b q (za e false 5) 2).2):=hW.symm;rw [hW];clear hW d1;obtain ⟨I,eI⟩ : ∃ x,ZJ k = x:=⟨_,rfl⟩;obtain ⟨E1,eE1⟩ : ∃ x,za e false 5 = x:=⟨_,rfl⟩;rw [eE1] at wB;have vb:=zGd (q:=q) (e:=E1) hr.bl;obtain ⟨Tb,eTb⟩ : ∃ x,ZM b q E1 2 = x:=⟨_,rfl⟩;rw [eTb] at wB vb;have ub : IntKind.u64.wrap (1099478073344 + Tb.1) = 1099478073344 + Tb.1:=IntWalk.u64_in _ (by omega);obtain ⟨Ab,eAb⟩ : ∃ x,ofF 18338657682652659712 (1099478073344 + Tb.1) = x:=⟨_,rfl⟩;rw [eAb] at wB;have g1:=trivial;have g2:=trivial;have g3:=trivial;have g4:=trivial;have g5:=trivial;have g6:=trivial;have g7:=trivial;have g8:=trivial;have g9:=trivial;refine zR (wd:=1) (by decide) zM (zT YP) zN Tryz.func102 rfl _ (by show 6 + 1 <= _;decide) (zZ (qT _)) (Yd) ?_;repeat' (first | (apply And.intro<;>intro hc<;>(first | exact Bool.noConfusion hc | exact QA hc | (simp only [Zi] at hc<;>first | exact absurd rfl hc | exact QA hc | skip) | skip)) | (refine And.intro Za ?_) | (apply And.intro) | (refine Exists.intro b (And.intro ⟨rfl,rfl,by first | exact trivial | exact ⟨hr,by decide,by decide⟩⟩ ?_)) | (intro s hs;(first | (clear g1;have q : I = s:=(hs.trans ((congrArg ZJ (zt k)).trans eI)).symm;clear hs;subst q) | (clear g2;have q : s = ((),q,E1):=hs.trans (congrArg (λx=>((),q,x)) eE1);clear hs;subst q) | (clear g7;have q : Tb = s:=(hs.trans eTb).symm;clear hs;subst q) | (clear g8;have q : Ab = s:=(hs.trans ((congrArg (ofF 18338657682652659712) ub).trans eAb)).symm;clear hs;subst q) | skip)))
 all_goals try (first | exact rfl | exact Nat.le_of_ble_eq_true rfl | exact λ_=>rfl)
 all_goals first
  | exact Eq.mp (congrArg bytesL (zU l).symm) hl
  | (rw [wB]
     exact ⟨ZS (qg rfl (by exact zt6)),Qd rfl rfl⟩)
  | skip
theorem radr_f3 (b : List Int) (q e : Int) (k : Adr) (l : List Ctx) (id now : Int) (hr : RdOk b q) (hl : bytesL l) : ze Tryz.prog 102 [cB.enc false,(cI .i64).enc 3,(cE ZF).enc k,(qf zb zq).enc l,(cI .i64).enc id,(cI .i64).enc now] (Yp true b q e) (zAQ (qa b q e false 3 k (zK l id now)).1) (Yp true b (qa b q e false 3 k (zK l id now)).2.1 (qa b q e false 3 k (zK l id now)).2.2):=by
 obtain ⟨W,hW⟩ : ∃ W,qa b q e false 3 k (zK l id now) = W:=⟨_,rfl⟩;have d1 : ((3 : Int) == 3 && !(ZJ k).2) = (!(ZJ k).2):=rfl;have wB : W = (ofF 18338657682652659712 (ZJ k).1,q,(za e (!(ZJ k).2) 5)):=hW.symm;rw [hW];clear hW d1;obtain ⟨I,eI⟩ : ∃ x,ZJ k = x:=⟨_,rfl⟩;rw [eI] at wB;obtain ⟨E1,eE1⟩ : ∃ x,za e (!I.2) 5 = x:=⟨_,rfl⟩;rw [eE1] at wB;obtain ⟨Ab,eAb⟩ : ∃ x,ofF 18338657682652659712 I.1 = x:=⟨_,rfl⟩;rw [eAb] at wB;have g1:=trivial;have g2:=trivial;have g3:=trivial;have g4:=trivial;have g5:=trivial;have g6:=trivial;have g7:=trivial;have g8:=trivial;have g9:=trivial;refine zR (wd:=1) (by decide) zM (zT YP) zN Tryz.func102 rfl _ (by show 6 + 1 <= _;decide) (zZ (qT _)) (Yd) ?_;repeat' (first | (apply And.intro<;>intro hc<;>(first | exact Bool.noConfusion hc | exact QA hc | (simp only [Zi] at hc<;>first | exact absurd rfl hc | exact QA hc | skip) | skip)) | (refine And.intro Za ?_) | (apply And.intro) | (refine Exists.intro b (And.intro ⟨rfl,rfl,by first | exact trivial | exact ⟨hr,by decide,by decide⟩⟩ ?_)) | (intro s hs;(first | (clear g1;have q : I = s:=(hs.trans ((congrArg ZJ (zt k)).trans eI)).symm;clear hs;subst q) | (clear g2;have q : s = ((),q,E1):=hs.trans (congrArg (λx=>((),q,x)) eE1);clear hs;subst q) | (clear g8;have q : Ab = s:=(hs.trans eAb).symm;clear hs;subst q) | skip)))
 all_goals try (first | exact rfl | exact Nat.le_of_ble_eq_true rfl | exact λ_=>rfl)
 all_goals first
  | exact Eq.mp (congrArg bytesL (zU l).symm) hl
  | (rw [wB]
     exact ⟨ZS (qg rfl (by exact zt6)),Qd rfl rfl⟩)
  | skip
theorem zGc {b : List Int} {q e : Int} (hr : RdOk b q) (n : Nat) (hn : n <= 16) : (ZY b q e (n : Int)).1.length = n:=by
 have h1:=hr.lo;have h2:=hr.hi;have h3:=hr.len;have w0 : IntKind.i64.wrap ((b.length : Int) - q) = b.length - q:=IntWalk.i64_in _ (by omega);unfold ZY;rw [w0];split
 . rename_i g;dsimp only;rw [List.length_take,List.length_drop];have : ¬ (b.length : Int) - q < n:=λh=>by
    unfold za at g;rw [decide_eq_true h] at g;split at g
    . cases g
    . rename_i g2;exact g2 ⟨rfl,g⟩
   omega
 . exact (List.length_replicate ..).trans (by omega)
def Yn (b : List Int) (q e m : Int) : (Fin 16 -> Int) × Int × Int:=
 if m = 0 then (zEs (ZY b q e 16).1,(ZY b q e 16).2) else if m = 1 then (zBi 6 (ZY b q e 6).1,(ZY b q e 6).2)
 else if m = 2 then (zBi 4 (ZY b q e 4).1,(ZY b q e 4).2) else (zBi 1 (ZY b q e 1).1,(ZY b q e 1).2)
theorem rgrp_0 (b : List Int) (q e : Int) (hr : RdOk b q) : ze Tryz.prog 103 [(cI .i64).enc 0] (Yp true b q e) (zAQ (Yn b q e 0).1) (Yp true b (Yn b q e 0).2.1 (Yn b q e 0).2.2):=by
 have eW : Yn b q e 0 = (zEs (ZY b q e 16).1,(ZY b q e 16).2):=rfl;rw [eW];have hl:=zGc (e:=e) hr 16 (by decide);obtain ⟨T,eT⟩ : ∃ x,ZY b q e 16 = x:=⟨_,rfl⟩;have hl' : T.1.length = 16:=by rw [<- eT];exact hl
 rw [eT];have g1:=trivial;refine zR (wd:=1) (by decide) zM (zT YP) zN Tryz.func103 rfl _ (by show 1 + 1 <= _;decide) (zZ (qT _)) (Yd) ?_;repeat' (first | (apply And.intro<;>intro hc<;>(first | exact Bool.noConfusion hc | exact QA hc | (simp only [Zi] at hc<;>first | exact absurd rfl hc | exact QA hc | skip) | skip)) | (refine And.intro Za ?_) | (apply And.intro) | (refine Exists.intro b (And.intro ⟨rfl,rfl,by first | exact trivial | exact ⟨hr,by decide,by decide⟩⟩ ?_)) | (intro s hs;(first | (clear g1;have q : T = s:=(hs.trans eT).symm;clear hs;subst q) | skip)))
 all_goals try (first | exact rfl | exact Nat.le_of_ble_eq_true rfl | exact λ_=>rfl | (show _ <= T.1.length;rw [hl'];decide) | (show _ < T.1.length;rw [hl'];decide) | (show (0 : Int) <= _;decide) | (show _ < (T.1.length : Int);rw [hl'];decide) | (show _ <= (T.1.length : Int);rw [hl'];decide))
 all_goals first
  | exact ⟨ZS (qg rfl (λi hi=>by (iterate 16 (rcases i with _ | i;first | exact zA rfl | exact zA (by rw [hl'];rfl)));exact absurd hi (by omega))),Qd rfl rfl⟩
  | skip
theorem rgrp_1 (b : List Int) (q e : Int) (hr : RdOk b q) : ze Tryz.prog 103 [(cI .i64).enc 1] (Yp true b q e) (zAQ (Yn b q e 1).1) (Yp true b (Yn b q e 1).2.1 (Yn b q e 1).2.2):=by
 have eW : Yn b q e 1 = (zBi 6 (ZY b q e 6).1,(ZY b q e 6).2):=rfl;rw [eW];have hl:=zGc (e:=e) hr 6 (by decide);obtain ⟨T,eT⟩ : ∃ x,ZY b q e 6 = x:=⟨_,rfl⟩;have hl' : T.1.length = 6:=by rw [<- eT];exact hl
 rw [eT];have g1:=trivial;refine zR (wd:=1) (by decide) zM (zT YP) zN Tryz.func103 rfl _ (by show 1 + 1 <= _;decide) (zZ (qT _)) (Yd) ?_;repeat' (first | (apply And.intro<;>intro hc<;>(first | exact Bool.noConfusion hc | exact QA hc | (simp only [Zi] at hc<;>first | exact absurd rfl hc | exact QA hc | skip) | skip)) | (refine And.intro Za ?_) | (apply And.intro) | (refine Exists.intro b (And.intro ⟨rfl,rfl,by first | exact trivial | exact ⟨hr,by decide,by decide⟩⟩ ?_)) | (intro s hs;(first | (clear g1;have q : T = s:=(hs.trans eT).symm;clear hs;subst q) | skip)))
 all_goals try (first | exact rfl | exact Nat.le_of_ble_eq_true rfl | exact λ_=>rfl | (show _ <= T.1.length;rw [hl'];decide) | (show _ < T.1.length;rw [hl'];decide) | (show (0 : Int) <= _;decide) | (show _ < (T.1.length : Int);rw [hl'];decide) | (show _ <= (T.1.length : Int);rw [hl'];decide))
 all_goals first
  | exact ⟨ZS (qg rfl (λi hi=>by (iterate 16 (rcases i with _ | i;first | exact zA rfl | exact zA (by rw [hl'];rfl)));exact absurd hi (by omega))),Qd rfl rfl⟩
  | skip
theorem rgrp_2 (b : List Int) (q e : Int) (hr : RdOk b q) : ze Tryz.prog 103 [(cI .i64).enc 2] (Yp true b q e) (zAQ (Yn b q e 2).1) (Yp true b (Yn b q e 2).2.1 (Yn b q e 2).2.2):=by
 have eW : Yn b q e 2 = (zBi 4 (ZY b q e 4).1,(ZY b q e 4).2):=rfl;rw [eW];have hl:=zGc (e:=e) hr 4 (by decide);obtain ⟨T,eT⟩ : ∃ x,ZY b q e 4 = x:=⟨_,rfl⟩;have hl' : T.1.length = 4:=by rw [<- eT];exact hl
 rw [eT];have g1:=trivial;refine zR (wd:=1) (by decide) zM (zT YP) zN Tryz.func103 rfl _ (by show 1 + 1 <= _;decide) (zZ (qT _)) (Yd) ?_;repeat' (first | (apply And.intro<;>intro hc<;>(first | exact Bool.noConfusion hc | exact QA hc | (simp only [Zi] at hc<;>first | exact absurd rfl hc | exact QA hc | skip) | skip)) | (refine And.intro Za ?_) | (apply And.intro) | (refine Exists.intro b (And.intro ⟨rfl,rfl,by first | exact trivial | exact ⟨hr,by decide,by decide⟩⟩ ?_)) | (intro s hs;(first | (clear g1;have q : T = s:=(hs.trans eT).symm;clear hs;subst q) | skip)))
 all_goals try (first | exact rfl | exact Nat.le_of_ble_eq_true rfl | exact λ_=>rfl | (show _ <= T.1.length;rw [hl'];decide) | (show _ < T.1.length;rw [hl'];decide) | (show (0 : Int) <= _;decide) | (show _ < (T.1.length : Int);rw [hl'];decide) | (show _ <= (T.1.length : Int);rw [hl'];decide))
 all_goals first
  | exact ⟨ZS (qg rfl (λi hi=>by (iterate 16 (rcases i with _ | i;first | exact zA rfl | exact zA (by rw [hl'];rfl)));exact absurd hi (by omega))),Qd rfl rfl⟩
  | skip
theorem rgrp_3 (b : List Int) (q e : Int) (hr : RdOk b q) : ze Tryz.prog 103 [(cI .i64).enc 3] (Yp true b q e) (zAQ (Yn b q e 3).1) (Yp true b (Yn b q e 3).2.1 (Yn b q e 3).2.2):=by
 have eW : Yn b q e 3 = (zBi 1 (ZY b q e 1).1,(ZY b q e 1).2):=rfl;rw [eW];have hl:=zGc (e:=e) hr 1 (by decide);obtain ⟨T,eT⟩ : ∃ x,ZY b q e 1 = x:=⟨_,rfl⟩;have hl' : T.1.length = 1:=by rw [<- eT];exact hl
 rw [eT];have g1:=trivial;refine zR (wd:=1) (by decide) zM (zT YP) zN Tryz.func103 rfl _ (by show 1 + 1 <= _;decide) (zZ (qT _)) (Yd) ?_;repeat' (first | (apply And.intro<;>intro hc<;>(first | exact Bool.noConfusion hc | exact QA hc | (simp only [Zi] at hc<;>first | exact absurd rfl hc | exact QA hc | skip) | skip)) | (refine And.intro Za ?_) | (apply And.intro) | (refine Exists.intro b (And.intro ⟨rfl,rfl,by first | exact trivial | exact ⟨hr,by decide,by decide⟩⟩ ?_)) | (intro s hs;(first | (clear g1;have q : T = s:=(hs.trans eT).symm;clear hs;subst q) | skip)))
 all_goals try (first | exact rfl | exact Nat.le_of_ble_eq_true rfl | exact λ_=>rfl | (show _ <= T.1.length;rw [hl'];decide) | (show _ < T.1.length;rw [hl'];decide) | (show (0 : Int) <= _;decide) | (show _ < (T.1.length : Int);rw [hl'];decide) | (show _ <= (T.1.length : Int);rw [hl'];decide))
 all_goals first
  | exact ⟨ZS (qg rfl (λi hi=>by (iterate 16 (rcases i with _ | i;first | exact zA rfl | exact zA (by rw [hl'];rfl)));exact absurd hi (by omega))),Qd rfl rfl⟩
  | skip
theorem rgrpR_ok (b : List Int) (q e m : Int) (hr : RdOk b q) (hm : 0 <= m /\ m <= 3) : ze Tryz.prog 103 [(cI .i64).enc m] (Yp true b q e) (zAQ (Yn b q e m).1) (Yp true b (Yn b q e m).2.1 (Yn b q e m).2.2):=by
 have h : m = 0 \/ m = 1 \/ m = 2 \/ m = 3:=by omega
 rcases h with rfl | rfl | rfl | rfl
 . exact rgrp_0 b q e hr
 . exact rgrp_1 b q e hr
 . exact rgrp_2 b q e hr
 . exact rgrp_3 b q e hr
theorem radrR_ok (b : List Int) (q e : Int) (ctx : Bool) (m : Int) (k : Adr) (l : List Ctx) (id now : Int) (hr : RdOk b q) (hl : bytesL l) (hm : 0 <= m /\ m <= 3) : ze Tryz.prog 102 [cB.enc ctx,(cI .i64).enc m,(cE ZF).enc k,(qf zb zq).enc l,(cI .i64).enc id,(cI .i64).enc now] (Yp true b q e) (zAQ (qa b q e ctx m k (zK l id now)).1) (Yp true b (qa b q e ctx m k (zK l id now)).2.1 (qa b q e ctx m k (zK l id now)).2.2):=by
 have h : m = 0 \/ m = 1 \/ m = 2 \/ m = 3:=by omega
 cases ctx with
 | true=>
   rcases h with rfl | rfl | rfl | rfl
   . exact radr_t0 b q e k l id now hr hl
   . exact radr_t1 b q e k l id now hr hl
   . exact radr_t2 b q e k l id now hr hl
   . exact radr_t3 b q e k l id now hr hl
 | false=>
   rcases h with rfl | rfl | rfl | rfl
   . exact radr_f0 b q e k l id now hr hl
   . exact radr_f1 b q e k l id now hr hl
   . exact radr_f2 b q e k l id now hr hl
   . exact radr_f3 b q e k l id now hr hl
abbrev radrA : AC (Bool × Int × Adr × List Ctx × Int × Int × Unit):=AC.cons cB (AC.cons (cI .i64) (AC.cons (cE ZF) (AC.cons (qf zb zq) (AC.cons (cI .i64) (AC.cons (cI .i64) AC.nil)))))
abbrev radrE : ZD:=rfE false radrA (λb q e a=>RdOk b q /\ bytesL a.2.2.2.1 /\ 0 <= a.2.1 /\ a.2.1 <= 3) (λb q e a=>qa b q e a.1 a.2.1 a.2.2.1 (zK a.2.2.2.1 a.2.2.2.2.1 a.2.2.2.2.2.1)) zAQ
abbrev rgrpSE : ZD:=rfE false (AC.cons (cI .i64) AC.nil) (λb q e a=>RdOk b q /\ 0 <= a.1 /\ a.1 <= 3) (λb q e a=>Yn b q e a.1) zAQ
def LRe4 : Qb:=(102,some radrE) :: (103,some rgrpSE) :: (49,some (ZH chkA (λa=>bytesL a.2.2.1) (λa=>Zj a.1 a.2.1 a.2.2.1 a.2.2.2.1) (cI .i64).enc)) :: LRe3
theorem qA : ZC Tryz.prog LRe4:=⟨zEt ⟨_,Tryz.func102,rfl,by kernel_rfl⟩ (λ_ r=>qT r) λb q e a h=>radrR_ok b q e a.1 a.2.1 a.2.2.1 a.2.2.2.1 a.2.2.2.2.1 a.2.2.2.2.2.1 h.1 h.2.1 h.2.2,zEt ⟨_,Tryz.func103,rfl,by kernel_rfl⟩ (λ_ r=>qT r) λb q e a h=>rgrpR_ok b q e a.1 h.1 h.2,zO ⟨_,Tryz.func49,rfl,by kernel_rfl⟩ λa h=>zGR a.1 a.2.1 a.2.2.1 a.2.2.2.1 h,YP⟩
def grpB (n : Nat) (v : Int) : Fin 16 -> Int:=λi=>if i.1 = 0 then 255 else if i.1 = 1 then (if n = 1 then 2 else QB v n 0) else if i.1 + n < 17 /\ n ≠ 1 \/ i.1 < 15 /\ n = 1 then 0 else QB v n (i.1 + n - 16)
theorem zGU {w : List Int} {n k : Nat} (hw : BL w) (hn : w.length = n) (h8 : n <= 8) (hk : k < n) : w.getD k default = QB (ZT w) n k:=by
 have e : beM (ZT w) n = w:=(zDh _ _ h8).trans (zDu n w hw hn);conv=>lhs;rw [<- e]
 unfold beM;rw [List.getD_eq_getElem?_getD,List.getElem?_map,List.getElem?_range hk];rfl
theorem grpV_eq {w : List Int} {n : Nat} (hw : BL w) (hn : w.length = n) (h1 : 1 <= n) (h8 : n <= 8) : zBi n w = grpB n (ZT w):=by
 funext i
 have hi:=i.2;unfold zBi grpB;by_cases c0 : i.1 = 0
 . rw [if_pos c0,if_pos c0]
 . rw [if_neg c0,if_neg c0];by_cases c1 : i.1 = 1
   . rw [if_pos c1,if_pos c1];by_cases c2 : n = 1
     . rw [if_pos c2,if_pos c2]
     . rw [if_neg c2,if_neg c2];exact zGU hw hn h8 (by omega)
   . rw [if_neg c1,if_neg c1];by_cases c2 : i.1 + n < 17 /\ n ≠ 1 \/ i.1 < 15 /\ n = 1
     . rw [if_pos c2,if_pos c2]
     . rw [if_neg c2,if_neg c2];exact zGU hw hn h8 (by omega)
theorem num_w {b : List Int} {q n : Int} (h : (zB b q n).1.2 = 0) : (zB b q n).1.1 = ZT ((b.drop q.toNat).take n.toNat) /\ ((b.drop q.toNat).take n.toNat).length = n.toNat:=by
 unfold zB at h ⊢;split at h
 . rename_i g;have hU:=zBM g;rw [if_pos g];refine ⟨?_,by rw [List.length_take,List.length_drop];omega⟩;show (ZL b q n).1 = _;unfold ZL;rw [if_pos hU]
 . cases h
theorem zHK {b : List Int} {q n : Int} (hb : BL b) (h : (zB b q n).1.2 = 0) (h1 : 1 <= n) (h8 : n <= 8) : zBi n.toNat ((b.drop q.toNat).take n.toNat) = grpB n.toNat (zB b q n).1.1:=by
 obtain ⟨e1,e2⟩:=num_w h;rw [e1];exact grpV_eq ((hb.drop _).take _) e2 (by omega) (by omega)
theorem grpd_0 (b : List Int) (q : Int) (hr : RdOk b q) : ze Tryz.prog 97 [(cI .i64).enc 0] (qW true b q) (Yq (zAb b 0 q).1) (qW true b (zAb b 0 q).2):=by
 obtain ⟨W,hW⟩ : ∃ W,zAb b 0 q = W:=⟨_,rfl⟩;have eW : W = (if (QT b q).1.2 = 0 then (if ZP (QT b q).1.1 = true then (((QT b q).1.1,0),(QT b q).2) else (((QT b q).1.1,5),(QT b q).2)) else ((zI,(QT b q).1.2),(QT b q).2)):=hW.symm;have ez : ¬ (QT b q).1.2 = 0 -> (QT b q).1.1 = zI:=λh=>by
  unfold QT at h ⊢;split
  . rfl
  . rename_i g;rw [if_neg g] at h;exact absurd rfl h
 rw [hW];obtain ⟨N,eN⟩ : ∃ N,QT b q = N:=⟨_,rfl⟩;rw [eN] at eW ez;obtain ⟨Mc,eMc⟩ : ∃ x,ZP N.1.1 = x:=⟨_,rfl⟩;rw [eMc] at eW;have f0 : ¬ N.1.2 = 0 -> W = ((N.1.1,N.1.2),N.2):=λh=>by rw [eW,if_neg h,ez h]
 have f1 : N.1.2 = 0 -> Mc = true -> W = ((N.1.1,0),N.2):=λh g=>by rw [eW,if_pos h,if_pos g]
 have f2 : N.1.2 = 0 -> Mc = false -> W = ((N.1.1,5),N.2):=λh g=>by rw [eW,if_pos h,if_neg (by rw [g];decide)]
 clear eW hW;have g1:=trivial;refine zR (wd:=1) (by decide) zM (zT QG) zN Tryz.func97 rfl _ (by show 1 + 1 <= _;decide) (zZ (qC _)) (ZZ) ?_;repeat' (first | (apply And.intro<;>intro hc<;>(first | exact Bool.noConfusion hc | exact QA hc | (simp only [Zi] at hc<;>first | exact absurd rfl hc | exact QA hc | skip) | skip)) | (refine And.intro (by exact Za) ?_) | (apply And.intro) | (refine Exists.intro b (And.intro ⟨rfl,rfl,by first | exact ⟨by assumption,by decide,by decide⟩ | assumption⟩ ?_)) | (intro s hs;(first | (clear g1;have q : N = s:=(hs.trans eN).symm;clear hs;subst q) | (have q : Mc = s:=(by (dsimp only at hs;refine (hs.trans ((congrArg ZP (Yc (a:=N.1.1) (λj hj=>?_))).trans eMc)).symm;(iterate 16 (rcases j with _ | j;exact rfl));exact absurd hj (by omega)));clear hs;subst q) | skip)))
 all_goals try (first | exact rfl | exact Nat.le_of_ble_eq_true rfl)
 all_goals first
  | (rw [f0 ‹_›]
     exact zq2)
  | (rw [f1 ‹_› ‹_›]
     exact ⟨zE ⟨qg rfl (by exact zt6),zA ‹_›,trivial⟩,ZK rfl⟩)
  | (rw [f2 ‹_› ‹_›]
     exact zq2)
  | skip
theorem grpd_1 (b : List Int) (q : Int) (hr : RdOk b q) : ze Tryz.prog 97 [(cI .i64).enc 1] (qW true b q) (Yq (zAb b 1 q).1) (qW true b (zAb b 1 q).2):=by
 obtain ⟨W,hW⟩ : ∃ W,zAb b 1 q = W:=⟨_,rfl⟩;have eW : W = (if (zB b q 6).1.2 = 0 then ((zBi 6 ((b.drop q.toNat).take 6),0),(zB b q 6).2) else ((zI,(zB b q 6).1.2),(zB b q 6).2)):=hW.symm;have eG:=zHK (q:=q) (n:=6) hr.bl;rw [hW];have f0 : ¬ (zB b q 6).1.2 = 0 -> W = ((zI,(zB b q 6).1.2),(zB b q 6).2):=λh=>by rw [eW,if_neg h]
 have f1 : (zB b q 6).1.2 = 0 -> W = ((grpB 6 (zB b q 6).1.1,0),(zB b q 6).2):=λh=>by
  rw [eW,if_pos h];exact congrArg (λx=>((x,0),(zB b q 6).2)) (eG h (by decide) (by decide))
 clear eW hW eG;obtain ⟨N,eN⟩ : ∃ N,zB b q 6 = N:=⟨_,rfl⟩;rw [eN] at f0 f1;have g1:=trivial;refine zR (wd:=1) (by decide) zM (zT QG) zN Tryz.func97 rfl _ (by show 1 + 1 <= _;decide) (zZ (qC _)) (ZZ) ?_;repeat' (first | (apply And.intro<;>intro hc<;>(first | exact Bool.noConfusion hc | exact QA hc | (simp only [Zi] at hc<;>first | exact absurd rfl hc | exact QA hc | skip) | skip)) | (refine And.intro (by exact Za) ?_) | (apply And.intro) | (refine Exists.intro b (And.intro ⟨rfl,rfl,by first | exact ⟨by assumption,by decide,by decide⟩ | assumption⟩ ?_)) | (intro s hs;(first | (clear g1;have q : N = s:=(hs.trans eN).symm;clear hs;subst q) | skip)))
 all_goals try (first | exact rfl | exact Nat.le_of_ble_eq_true rfl)
 . rw [f0 ‹_›];exact zq2
 . refine zp (ZE QG) (λs : {i : Nat // i <= 5}=>(⟨[(4,one (.ptr 1 0 0 false)),(10,one (.int .u64 N.1.1)),(12,one (.ptr 23 0 0 false)),(56,one (.int .i64 5)),(57,one (.int .i64 (s.1 : Int)))],
    [(0,some (qW true b N.2)),(1,some ⟨24,1,16,true,λ_ _=>.top⟩),(23,some ⟨24,1,16,true,λ_ j=>.int .u8 (bif Nat.beq j 0 then 255 else bif Nat.beq j 1 then IntKind.u8.wrap (Zn .u64 N.1.1 (IntKind.i64.wrap (8 * 5))) else bif Nat.ble (16 - s.1) j then IntKind.u8.wrap (Zn .u64 N.1.1 (IntKind.i64.wrap (8 * ((15 - j : Nat) : Int)))) else 0)⟩)],24⟩ : Hd)) (λs=>5 - s.1) (λ_=>rfl) ?_ ⟨0,by omega⟩ [] ?_
   . rintro ⟨i,hi⟩;rcases i with _ | i
     . repeat' (first | (apply And.intro<;>intro hc<;>(first | exact Bool.noConfusion hc | exact zn3 hc | (simp only [Zi] at hc<;>first | exact absurd rfl hc | exact zn3 hc | skip) | skip)) | (refine And.intro (by exact Za) ?_) | (apply And.intro) | (intro s hs;skip))
       all_goals try (first | (dsimp only;decide) | exact Nat.le_of_ble_eq_true rfl | exact rfl)
       all_goals (refine ⟨⟨1,by omega⟩,[],by dsimp only;omega,rfl,?_,?_⟩)
       all_goals skip
       . exact QI
       . repeat' (first | exact qH | refine zF ?_ | refine zC ?_ | exact qI | apply And.intro)
         all_goals first
          | exact ZK rfl
          | (refine zh ?_;repeat' (first | exact zw2 | refine zd ?_ | exact zH ‹_› | apply And.intro))
     rcases i with _ | i
     . repeat' (first | (apply And.intro<;>intro hc<;>(first | exact Bool.noConfusion hc | exact zn3 hc | (simp only [Zi] at hc<;>first | exact absurd rfl hc | exact zn3 hc | skip) | skip)) | (refine And.intro (by exact Za) ?_) | (apply And.intro) | (intro s hs;skip))
       all_goals try (first | (dsimp only;decide) | exact Nat.le_of_ble_eq_true rfl | exact rfl)
       all_goals (refine ⟨⟨2,by omega⟩,[],by dsimp only;omega,rfl,?_,?_⟩)
       all_goals skip
       . exact QI
       . repeat' (first | exact qH | refine zF ?_ | refine zC ?_ | exact qI | apply And.intro)
         all_goals first
          | exact ZK rfl
          | (refine zh ?_;repeat' (first | exact zw2 | refine zd ?_ | exact zH ‹_› | apply And.intro))
     rcases i with _ | i
     . repeat' (first | (apply And.intro<;>intro hc<;>(first | exact Bool.noConfusion hc | exact zn3 hc | (simp only [Zi] at hc<;>first | exact absurd rfl hc | exact zn3 hc | skip) | skip)) | (refine And.intro (by exact Za) ?_) | (apply And.intro) | (intro s hs;skip))
       all_goals try (first | (dsimp only;decide) | exact Nat.le_of_ble_eq_true rfl | exact rfl)
       all_goals (refine ⟨⟨3,by omega⟩,[],by dsimp only;omega,rfl,?_,?_⟩)
       all_goals skip
       . exact QI
       . repeat' (first | exact qH | refine zF ?_ | refine zC ?_ | exact qI | apply And.intro)
         all_goals first
          | exact ZK rfl
          | (refine zh ?_;repeat' (first | exact zw2 | refine zd ?_ | exact zH ‹_› | apply And.intro))
     rcases i with _ | i
     . repeat' (first | (apply And.intro<;>intro hc<;>(first | exact Bool.noConfusion hc | exact zn3 hc | (simp only [Zi] at hc<;>first | exact absurd rfl hc | exact zn3 hc | skip) | skip)) | (refine And.intro (by exact Za) ?_) | (apply And.intro) | (intro s hs;skip))
       all_goals try (first | (dsimp only;decide) | exact Nat.le_of_ble_eq_true rfl | exact rfl)
       all_goals (refine ⟨⟨4,by omega⟩,[],by dsimp only;omega,rfl,?_,?_⟩)
       all_goals skip
       . exact QI
       . repeat' (first | exact qH | refine zF ?_ | refine zC ?_ | exact qI | apply And.intro)
         all_goals first
          | exact ZK rfl
          | (refine zh ?_;repeat' (first | exact zw2 | refine zd ?_ | exact zH ‹_› | apply And.intro))
     rcases i with _ | i
     . repeat' (first | (apply And.intro<;>intro hc<;>(first | exact Bool.noConfusion hc | exact zn3 hc | (simp only [Zi] at hc<;>first | exact absurd rfl hc | exact zn3 hc | skip) | skip)) | (refine And.intro (by exact Za) ?_) | (apply And.intro) | (intro s hs;skip))
       all_goals try (first | (dsimp only;decide) | exact Nat.le_of_ble_eq_true rfl | exact rfl)
       all_goals (refine ⟨⟨5,by omega⟩,[],by dsimp only;omega,rfl,?_,?_⟩)
       all_goals skip
       . exact QI
       . repeat' (first | exact qH | refine zF ?_ | refine zC ?_ | exact qI | apply And.intro)
         all_goals first
          | exact ZK rfl
          | (refine zh ?_;repeat' (first | exact zw2 | refine zd ?_ | exact zH ‹_› | apply And.intro))
     rcases i with _ | i
     . repeat' (first | (apply And.intro<;>intro hc<;>(first | exact Bool.noConfusion hc | exact zn3 hc | (simp only [Zi] at hc<;>first | exact absurd rfl hc | exact zn3 hc | skip) | skip)) | (refine And.intro (by exact Za) ?_) | (apply And.intro) | (intro s hs;skip))
       rw [f1 ‹_›];exact zq2
     . exact absurd hi (by omega)
   . refine ⟨rfl,?_,?_⟩
     . exact QI
     . repeat' (first | exact qH | refine zF ?_ | refine zC ?_ | exact qI | apply And.intro)
       all_goals first
        | exact ZK rfl
        | (refine zh ?_;repeat' (first | exact zw2 | refine zd ?_ | exact zH ‹_› | apply And.intro))
theorem grpd_2 (b : List Int) (q : Int) (hr : RdOk b q) : ze Tryz.prog 97 [(cI .i64).enc 2] (qW true b q) (Yq (zAb b 2 q).1) (qW true b (zAb b 2 q).2):=by
 obtain ⟨W,hW⟩ : ∃ W,zAb b 2 q = W:=⟨_,rfl⟩;have eW : W = (if (zB b q 4).1.2 = 0 then ((zBi 4 ((b.drop q.toNat).take 4),0),(zB b q 4).2) else ((zI,(zB b q 4).1.2),(zB b q 4).2)):=hW.symm;have eG:=zHK (q:=q) (n:=4) hr.bl;rw [hW];have f0 : ¬ (zB b q 4).1.2 = 0 -> W = ((zI,(zB b q 4).1.2),(zB b q 4).2):=λh=>by rw [eW,if_neg h]
 have f1 : (zB b q 4).1.2 = 0 -> W = ((grpB 4 (zB b q 4).1.1,0),(zB b q 4).2):=λh=>by
  rw [eW,if_pos h];exact congrArg (λx=>((x,0),(zB b q 4).2)) (eG h (by decide) (by decide))
 clear eW hW eG;obtain ⟨N,eN⟩ : ∃ N,zB b q 4 = N:=⟨_,rfl⟩;rw [eN] at f0 f1;have g1:=trivial;refine zR (wd:=1) (by decide) zM (zT QG) zN Tryz.func97 rfl _ (by show 1 + 1 <= _;decide) (zZ (qC _)) (ZZ) ?_;repeat' (first | (apply And.intro<;>intro hc<;>(first | exact Bool.noConfusion hc | exact QA hc | (simp only [Zi] at hc<;>first | exact absurd rfl hc | exact QA hc | skip) | skip)) | (refine And.intro (by exact Za) ?_) | (apply And.intro) | (refine Exists.intro b (And.intro ⟨rfl,rfl,by first | exact ⟨by assumption,by decide,by decide⟩ | assumption⟩ ?_)) | (intro s hs;(first | (clear g1;have q : N = s:=(hs.trans eN).symm;clear hs;subst q) | skip)))
 all_goals try (first | exact rfl | exact Nat.le_of_ble_eq_true rfl)
 . rw [f0 ‹_›];exact zq2
 . refine zp (ZE QG) (λs : {i : Nat // i <= 3}=>(⟨[(4,one (.ptr 1 0 0 false)),(10,one (.int .u64 N.1.1)),(12,one (.ptr 23 0 0 false)),(56,one (.int .i64 3)),(57,one (.int .i64 (s.1 : Int)))],
    [(0,some (qW true b N.2)),(1,some ⟨24,1,16,true,λ_ _=>.top⟩),(23,some ⟨24,1,16,true,λ_ j=>.int .u8 (bif Nat.beq j 0 then 255 else bif Nat.beq j 1 then IntKind.u8.wrap (Zn .u64 N.1.1 (IntKind.i64.wrap (8 * 3))) else bif Nat.ble (16 - s.1) j then IntKind.u8.wrap (Zn .u64 N.1.1 (IntKind.i64.wrap (8 * ((15 - j : Nat) : Int)))) else 0)⟩)],24⟩ : Hd)) (λs=>3 - s.1) (λ_=>rfl) ?_ ⟨0,by omega⟩ [] ?_
   . rintro ⟨i,hi⟩;rcases i with _ | i
     . repeat' (first | (apply And.intro<;>intro hc<;>(first | exact Bool.noConfusion hc | exact zn3 hc | (simp only [Zi] at hc<;>first | exact absurd rfl hc | exact zn3 hc | skip) | skip)) | (refine And.intro (by exact Za) ?_) | (apply And.intro) | (intro s hs;skip))
       all_goals try (first | (dsimp only;decide) | exact Nat.le_of_ble_eq_true rfl | exact rfl)
       all_goals (refine ⟨⟨1,by omega⟩,[],by dsimp only;omega,rfl,?_,?_⟩)
       all_goals skip
       . exact QI
       . repeat' (first | exact qH | refine zF ?_ | refine zC ?_ | exact qI | apply And.intro)
         all_goals first
          | exact ZK rfl
          | (refine zh ?_;repeat' (first | exact zw2 | refine zd ?_ | exact zH ‹_› | apply And.intro))
     rcases i with _ | i
     . repeat' (first | (apply And.intro<;>intro hc<;>(first | exact Bool.noConfusion hc | exact zn3 hc | (simp only [Zi] at hc<;>first | exact absurd rfl hc | exact zn3 hc | skip) | skip)) | (refine And.intro (by exact Za) ?_) | (apply And.intro) | (intro s hs;skip))
       all_goals try (first | (dsimp only;decide) | exact Nat.le_of_ble_eq_true rfl | exact rfl)
       all_goals (refine ⟨⟨2,by omega⟩,[],by dsimp only;omega,rfl,?_,?_⟩)
       all_goals skip
       . exact QI
       . repeat' (first | exact qH | refine zF ?_ | refine zC ?_ | exact qI | apply And.intro)
         all_goals first
          | exact ZK rfl
          | (refine zh ?_;repeat' (first | exact zw2 | refine zd ?_ | exact zH ‹_› | apply And.intro))
     rcases i with _ | i
     . repeat' (first | (apply And.intro<;>intro hc<;>(first | exact Bool.noConfusion hc | exact zn3 hc | (simp only [Zi] at hc<;>first | exact absurd rfl hc | exact zn3 hc | skip) | skip)) | (refine And.intro (by exact Za) ?_) | (apply And.intro) | (intro s hs;skip))
       all_goals try (first | (dsimp only;decide) | exact Nat.le_of_ble_eq_true rfl | exact rfl)
       all_goals (refine ⟨⟨3,by omega⟩,[],by dsimp only;omega,rfl,?_,?_⟩)
       all_goals skip
       . exact QI
       . repeat' (first | exact qH | refine zF ?_ | refine zC ?_ | exact qI | apply And.intro)
         all_goals first
          | exact ZK rfl
          | (refine zh ?_;repeat' (first | exact zw2 | refine zd ?_ | exact zH ‹_› | apply And.intro))
     rcases i with _ | i
     . repeat' (first | (apply And.intro<;>intro hc<;>(first | exact Bool.noConfusion hc | exact zn3 hc | (simp only [Zi] at hc<;>first | exact absurd rfl hc | exact zn3 hc | skip) | skip)) | (refine And.intro (by exact Za) ?_) | (apply And.intro) | (intro s hs;skip))
       rw [f1 ‹_›];exact zq2
     . exact absurd hi (by omega)
   . refine ⟨rfl,?_,?_⟩
     . exact QI
     . repeat' (first | exact qH | refine zF ?_ | refine zC ?_ | exact qI | apply And.intro)
       all_goals first
        | exact ZK rfl
        | (refine zh ?_;repeat' (first | exact zw2 | refine zd ?_ | exact zH ‹_› | apply And.intro))
theorem grpd_3 (b : List Int) (q : Int) (hr : RdOk b q) : ze Tryz.prog 97 [(cI .i64).enc 3] (qW true b q) (Yq (zAb b 3 q).1) (qW true b (zAb b 3 q).2):=by
 obtain ⟨W,hW⟩ : ∃ W,zAb b 3 q = W:=⟨_,rfl⟩;have eW : W = (if (zB b q 1).1.2 = 0 then ((zBi 1 ((b.drop q.toNat).take 1),0),(zB b q 1).2) else ((zI,(zB b q 1).1.2),(zB b q 1).2)):=hW.symm;have eG:=zHK (q:=q) (n:=1) hr.bl;rw [hW];have f0 : ¬ (zB b q 1).1.2 = 0 -> W = ((zI,(zB b q 1).1.2),(zB b q 1).2):=λh=>by rw [eW,if_neg h]
 have f1 : (zB b q 1).1.2 = 0 -> W = ((grpB 1 (zB b q 1).1.1,0),(zB b q 1).2):=λh=>by
  rw [eW,if_pos h];exact congrArg (λx=>((x,0),(zB b q 1).2)) (eG h (by decide) (by decide))
 clear eW hW eG;obtain ⟨N,eN⟩ : ∃ N,zB b q 1 = N:=⟨_,rfl⟩;rw [eN] at f0 f1;have g1:=trivial;refine zR (wd:=1) (by decide) zM (zT QG) zN Tryz.func97 rfl _ (by show 1 + 1 <= _;decide) (zZ (qC _)) (ZZ) ?_;repeat' (first | (apply And.intro<;>intro hc<;>(first | exact Bool.noConfusion hc | exact QA hc | (simp only [Zi] at hc<;>first | exact absurd rfl hc | exact QA hc | skip) | skip)) | (refine And.intro (by exact Za) ?_) | (apply And.intro) | (refine Exists.intro b (And.intro ⟨rfl,rfl,by first | exact ⟨by assumption,by decide,by decide⟩ | assumption⟩ ?_)) | (intro s hs;(first | (clear g1;have q : N = s:=(hs.trans eN).symm;clear hs;subst q) | skip)))
 all_goals try (first | exact rfl | exact Nat.le_of_ble_eq_true rfl)
 . rw [f0 ‹_›];exact zq2
 . refine zp (ZE QG) (λs : {i : Nat // i <= 1}=>(⟨[(4,one (.ptr 1 0 0 false)),(10,one (.int .u64 N.1.1)),(12,one (.ptr 23 0 0 false)),(56,one (.int .i64 1)),(57,one (.int .i64 (s.1 : Int)))],
    [(0,some (qW true b N.2)),(1,some ⟨24,1,16,true,λ_ _=>.top⟩),(23,some ⟨24,1,16,true,λ_ j=>.int .u8 (bif Nat.beq j 0 then 255 else bif Nat.beq j 1 then 2 else bif Nat.ble (16 - s.1) j then IntKind.u8.wrap (Zn .u64 N.1.1 (IntKind.i64.wrap (8 * ((15 - j : Nat) : Int)))) else 0)⟩)],24⟩ : Hd)) (λs=>1 - s.1) (λ_=>rfl) ?_ ⟨0,by omega⟩ [] ?_
   . rintro ⟨i,hi⟩;rcases i with _ | i
     . repeat' (first | (apply And.intro<;>intro hc<;>(first | exact Bool.noConfusion hc | exact zn3 hc | (simp only [Zi] at hc<;>first | exact absurd rfl hc | exact zn3 hc | skip) | skip)) | (refine And.intro (by exact Za) ?_) | (apply And.intro) | (intro s hs;skip))
       all_goals try (first | (dsimp only;decide) | exact Nat.le_of_ble_eq_true rfl | exact rfl)
       all_goals (refine ⟨⟨1,by omega⟩,[],by dsimp only;omega,rfl,?_,?_⟩)
       all_goals skip
       . exact QI
       . repeat' (first | exact qH | refine zF ?_ | refine zC ?_ | exact qI | apply And.intro)
         all_goals first
          | exact ZK rfl
          | (refine zh ?_;repeat' (first | exact zw2 | refine zd ?_ | exact zH ‹_› | apply And.intro))
     rcases i with _ | i
     . repeat' (first | (apply And.intro<;>intro hc<;>(first | exact Bool.noConfusion hc | exact zn3 hc | (simp only [Zi] at hc<;>first | exact absurd rfl hc | exact zn3 hc | skip) | skip)) | (refine And.intro (by exact Za) ?_) | (apply And.intro) | (intro s hs;skip))
       rw [f1 ‹_›];exact zq2
     . exact absurd hi (by omega)
   . refine ⟨rfl,?_,?_⟩
     . exact QI
     . repeat' (first | exact qH | refine zF ?_ | refine zC ?_ | exact qI | apply And.intro)
       all_goals first
        | exact ZK rfl
        | (refine zh ?_;repeat' (first | exact zw2 | refine zd ?_ | exact zH ‹_› | apply And.intro))
end Go.Proofs.YtjknkfjhcapocaaGreatDoor.AX
