/- Texts of one's own in one file: Ct3, Rf, Lq, Rf2, Sm, Pk, Pk2, Pk3, Pk4, Pk5, PkP, IhL, Tp2, IhP, Dp, Ad, Pv, Ih, R12, Ih2, Ih3, Ih4, PkM, PkQ, PkR, PkT, Ih5, Oc2. -/
import Derived.Test.YtjknkfjhcapocaaGreatDoorJCompressDecodesb
import Derived.Laws.BitsAllLaws
set_option linter.unusedVariables false
set_option linter.unusedSimpArgs false
set_option maxHeartbeats 16000000
set_option maxRecDepth 20000
namespace Go.Proofs.YtjknkfjhcapocaaGreatDoor.AX
def QU (a : Fin 16 -> Int) (now : Int) (r : Ctx × Bool) (c : Ctx) : Bool:=Qz c now && pEq (qu a c.bits) (Zy c) && (!r.2 || decide (r.1.bits < c.bits))
def Qu (a : Fin 16 -> Int) (now : Int) : Ctx × Bool -> List Ctx -> Ctx × Bool
 | r,[]=>r
 | r,c :: l=>Qu a now (if QU a now r c = true then (c,true) else r) l
def Zc (l : List Ctx) (a : Fin 16 -> Int) (now : Int) : Ctx × Bool:=if Zd l = true /\ vt now = true then Qu a now (default,false) l else (default,false)
theorem zDR {f f' g g' : Nat -> CV} {n : Nat} (h1 : ∀ j,j < n -> f j = f' j) (h2 : ∀ j,j < n -> g j = g' j) : zz f g n 0 = zz f' g' n 0:=by
 rw [Bool.eq_iff_iff,zAE,zAE];simp only [Nat.zero_add];constructor
 . intro h i hi;rw [<- h1 i hi,<- h2 i hi];exact h i hi
 . intro h i hi;rw [h1 i hi,h2 i hi];exact h i hi
theorem zGz (c : Ctx) : ∀ j,j < 17 -> zb.cell c (1 + j) = qS.cell (Zy c) j:=by
 intro j hj;by_cases h : j < 16
 . rw [zFS _ _ h];have:=zAs (Zy c) j h;rw [Nat.zero_add] at this;rw [this];rfl
 . have : j = 16:=by omega
   subst this;rfl
theorem Qv {l : List Ctx} {i : Nat} (a : Fin 16 -> Int) (now : Int) (r : Ctx × Bool) (h : i < l.length) : Qu a now r (l.drop i) = Qu a now (if QU a now r (l.getD i default) = true then (l.getD i default,true) else r) (l.drop (i + 1)):=by
 rw [qy h,Qu]
theorem zFQ (c : Ctx) : zb.rd (λq=>zb.cell c (0 + q)) = c:=by
 simp only [Nat.zero_add];exact zAc c
theorem YV (a : Fin 16 -> Int) : (eA .u8 16).rd (λq=>(eA .u8 16).cell a (0 + q)) = a:=by
 simp only [Nat.zero_add];exact zD8 a
theorem zG0 (s : Pfx) (c : Ctx) : zz (qS.cell s) (λq=>zb.cell c (0 + 1 + q)) 17 0 = pEq s (Zy c):=by
 rw [<- zHr];exact zDR (λ_ _=>rfl) (λj hj=>by rw [Nat.zero_add];exact zGz c j hj)
theorem forCom_ok (l : List Ctx) (a : Fin 16 -> Int) (now : Int) (hl : l.length <= 9223372036854775807) : zY Tryz.prog 110 [(qf zb zq).enc l,(cE (eA .u8 16)).enc a,(cI .i64).enc now] (zCg (Zc l a now)):=by
 refine zG (wd:=1) (by decide) zM (zT zFR) zN Tryz.func110 rfl _ (by show 3 <= _;decide) _ ?_;repeat' (first | (apply And.intro<;>intro hc<;>(first | exact Bool.noConfusion hc | (simp only [qm] at hc) | skip)) | (refine And.intro Ql ?_) | (apply And.intro) | (intro s hs))
 . show (Zw zb l.length (zn zb l)).length <= _;rw [zU];exact hl
 . have hs' : s = Zd l:=by rw [hs,zU]
   have hf : s = false:=by assumption
   have e : Zc l a now = (default,false):=by simp [Zc,<- hs',hf]
   rw [e];refine Done.mk (zE ?_);repeat' (first | exact zw2 | refine zd ?_ | exact zH ‹_› | apply And.intro)
 . have hs' : s = vt now:=hs;have e : Zc l a now = (default,false):=by simp [Zc,<- hs',hc]
   rw [e];refine Done.mk (zE ?_);repeat' (first | exact zw2 | refine zd ?_ | exact zH ‹_› | apply And.intro)
 . rename_i s1 hs1 hc1;have hs1' : s1 = Zd l:=by rw [hs1,zU]
   have hs' : s = vt now:=hs;have e : Zc l a now = Qu a now (default,false) l:=by simp [Zc,<- hs',<- hs1',hc,hc1]
   rw [e];clear hs hs1 hs' hs1' hc hc1 e;refine zp (ZE zFR) (λs : {s : Nat × Ctx × Bool // s.1 <= l.length /\ Qu a now (default,false) l = Qu a now s.2 (l.drop s.1)}=>(⟨[(2,one (.int .i64 now)),(4,one (.ptr 0 0 0 false)),(6,one (.ptr 1 0 0 false)),(8,one (.ptr 12 0 0 false)),(9,one (.bool s.1.2.2)),(22,one (.sl false l.length zb.sz (zn zb l))),(23,one (.int .i64 (l.length : Int))),(24,one (.int .i64 (s.1.1 : Int)))],
    [(0,some ⟨24,1,16,true,λ_=>(eA .u8 16).cell a⟩),(1,some ⟨60,1,20,true,λ_ _=>.top⟩),(12,some ⟨60,1,20,true,λ_=>zb.cell s.1.2.1⟩)],18⟩ : Hd)) (λs=>l.length - s.1.1) (λ_=>rfl) ?_ ⟨(0,default,false),by simp,rfl⟩ [] ?_
   . rintro ⟨⟨i,best,found⟩,hi,hv⟩;dsimp only at hi hv ⊢;repeat' (first | (apply And.intro<;>intro hc<;>(first | exact Bool.noConfusion hc | (simp only [qm] at hc) | skip)) | (refine And.intro Ql ?_) | (apply And.intro) | (intro s hs))
     . have hf : s = false:=by assumption
       have hs0 : s = Qz (l.getD i default) now:=by
        refine hs.trans ?_;show Qz (zb.rd λq=>zb.cell (l.getD i default) (0 + q)) now = _;rw [zFQ]
       refine ⟨⟨(i + 1,best,found),by dsimp only;omega,?_⟩,[],by dsimp only;omega,rfl,?_,?_⟩
       . dsimp only;rw [hv,Qv _ _ _ (by omega),if_neg (by simp only [QU,<- hs0,hf,Bool.false_and];decide)]
       . repeat' (first | exact qH | refine zF ?_ | refine zC ?_ | exact qI | apply And.intro)
         refine (IntWalk.i64_in _ ?_).trans ?_
         . constructor<;>omega
         . dsimp only;omega
       . repeat' (first | exact qH | refine zF ?_ | refine zC ?_ | exact qI | apply And.intro)
         all_goals (refine zh ?_;repeat' (first | exact zw2 | refine zd ?_ | exact zH ‹_› | apply And.intro))
     . rename_i s0 h0 c0;have hs0 : s0 = Qz (l.getD i default) now:=by
        refine h0.trans ?_;show Qz (zb.rd λq=>zb.cell (l.getD i default) (0 + q)) now = _;rw [zFQ]
       have hm : s = qu a (l.getD i default).bits:=by
        refine hs.trans ?_;show qu ((eA .u8 16).rd λq=>(eA .u8 16).cell a (0 + q)) (l.getD i default).bits = _;rw [YV]
       have hq : pEq s (Zy (l.getD i default)) = false:=by
        rw [<- zG0];exact hc
       refine ⟨⟨(i + 1,best,found),by dsimp only;omega,?_⟩,[],by dsimp only;omega,rfl,?_,?_⟩
       . dsimp only;rw [hv,Qv _ _ _ (by omega),if_neg (by simp only [QU,<- hm,hq,Bool.and_false,Bool.false_and];decide)]
       . repeat' (first | exact qH | refine zF ?_ | refine zC ?_ | exact qI | apply And.intro)
         refine (IntWalk.i64_in _ ?_).trans ?_
         . constructor<;>omega
         . dsimp only;omega
       . repeat' (first | exact qH | refine zF ?_ | refine zC ?_ | exact qI | apply And.intro)
         all_goals (refine zh ?_;repeat' (first | exact zw2 | refine zd ?_ | exact zH ‹_› | apply And.intro))
     . rename_i s0 h0 c0 c1 c2;have hs0 : s0 = Qz (l.getD i default) now:=by
        refine h0.trans ?_;show Qz (zb.rd λq=>zb.cell (l.getD i default) (0 + q)) now = _;rw [zFQ]
       have hm : s = qu a (l.getD i default).bits:=by
        refine hs.trans ?_;show qu ((eA .u8 16).rd λq=>(eA .u8 16).cell a (0 + q)) (l.getD i default).bits = _;rw [YV]
       have hq : pEq s (Zy (l.getD i default)) = true:=by
        rw [<- zG0];exact c1
       refine ⟨⟨(i + 1,l.getD i default,true),by dsimp only;omega,?_⟩,[],by dsimp only;omega,rfl,?_,?_⟩
       . dsimp only;rw [hv,Qv _ _ _ (by omega),if_pos (by simp only [QU,<- hm,hq,<- hs0,c0,c2];rfl)]
       . repeat' (first | exact qH | refine zF ?_ | refine zC ?_ | exact qI | apply And.intro)
         refine (IntWalk.i64_in _ ?_).trans ?_
         . constructor<;>omega
         . dsimp only;omega
       . repeat' (first | exact qH | refine zF ?_ | refine zC ?_ | exact qI | apply And.intro)
         all_goals (refine zh ?_;repeat' (first | exact zw2 | refine zd ?_ | exact zH ‹_› | apply And.intro))
     . rename_i s0 h0 c0 c1 c2;have hs0 : s0 = Qz (l.getD i default) now:=by
        refine h0.trans ?_;show Qz (zb.rd λq=>zb.cell (l.getD i default) (0 + q)) now = _;rw [zFQ]
       have hm : s = qu a (l.getD i default).bits:=by
        refine hs.trans ?_;show qu ((eA .u8 16).rd λq=>(eA .u8 16).cell a (0 + q)) (l.getD i default).bits = _;rw [YV]
       have hq : pEq s (Zy (l.getD i default)) = true:=by
        rw [<- zG0];exact c1
       have hc' : best.bits < (l.getD i default).bits:=hc;refine ⟨⟨(i + 1,l.getD i default,true),by dsimp only;omega,?_⟩,[],by dsimp only;omega,rfl,?_,?_⟩
       . dsimp only;rw [hv,Qv _ _ _ (by omega),if_pos (by simp only [QU,<- hm,hq,<- hs0,c0,decide_eq_true hc',Bool.or_true];rfl)]
       . repeat' (first | exact qH | refine zF ?_ | refine zC ?_ | exact qI | apply And.intro)
         refine (IntWalk.i64_in _ ?_).trans ?_
         . constructor<;>omega
         . dsimp only;omega
       . repeat' (first | exact qH | refine zF ?_ | refine zC ?_ | exact qI | apply And.intro)
         all_goals (refine zh ?_;repeat' (first | exact zw2 | refine zd ?_ | exact zH ‹_› | apply And.intro))
     . rename_i s0 h0 c0 c1 c2;have hs0 : s0 = Qz (l.getD i default) now:=by
        refine h0.trans ?_;show Qz (zb.rd λq=>zb.cell (l.getD i default) (0 + q)) now = _;rw [zFQ]
       have hm : s = qu a (l.getD i default).bits:=by
        refine hs.trans ?_;show qu ((eA .u8 16).rd λq=>(eA .u8 16).cell a (0 + q)) (l.getD i default).bits = _;rw [YV]
       have hq : pEq s (Zy (l.getD i default)) = true:=by
        rw [<- zG0];exact c1
       have hc' : ¬ best.bits < (l.getD i default).bits:=hc;refine ⟨⟨(i + 1,best,found),by dsimp only;omega,?_⟩,[],by dsimp only;omega,rfl,?_,?_⟩
       . dsimp only;rw [hv,Qv _ _ _ (by omega),if_neg (by simp only [QU,c2,decide_eq_false hc',Bool.not_true,Bool.or_false,Bool.and_false];decide)]
       . repeat' (first | exact qH | refine zF ?_ | refine zC ?_ | exact qI | apply And.intro)
         refine (IntWalk.i64_in _ ?_).trans ?_
         . constructor<;>omega
         . dsimp only;omega
       . repeat' (first | exact qH | refine zF ?_ | refine zC ?_ | exact qI | apply And.intro)
         all_goals (refine zh ?_;repeat' (first | exact zw2 | refine zd ?_ | exact zH ‹_› | apply And.intro))
     . have hil : i = l.length:=by omega
       have e : Qu a now (default,false) l = (best,found):=by rw [hv,hil,List.drop_length];rfl
       rw [e];refine Done.mk (zE ?_);repeat' (first | exact zw2 | refine zd ?_ | exact zH ‹_› | apply And.intro)
   . refine ⟨rfl,?_,?_⟩
     . exact QI
     . repeat' (first | exact qH | refine zF ?_ | refine zC ?_ | exact qI | apply And.intro)
       all_goals (refine zh ?_;repeat' (first | exact zw2 | refine zd ?_ | exact zH ‹_› | apply And.intro))
end Go.Proofs.YtjknkfjhcapocaaGreatDoor.AX
namespace Go.Proofs.YtjknkfjhcapocaaGreatDoor.AX
open Go.RowKit
def bt (x : Int) (j : Int) : Int:=bits .and .u8 (Zn .u8 x (7 - j)) 1
def mb (x : Int) (k : Int) : Int:=bits .andNot .u8 x (Zn .u8 255 k)
theorem byt_step : ∀ x : Fin 256,∀ k : Fin 8,bits .or .u8 (mb (x.1 : Nat) (k.1 : Nat)) (zCZ .u8 (bt (x.1 : Nat) (k.1 : Nat)) (7 - (k.1 : Nat))) = mb (x.1 : Nat) ((k.1 : Nat) + 1):=by decide +kernel
theorem byt_zero : ∀ x : Fin 256,mb (x.1 : Nat) 0 = 0:=by decide +kernel
theorem byt_rng : ∀ x : Fin 256,∀ k : Fin 9,0 <= mb (x.1 : Nat) (k.1 : Nat) /\ mb (x.1 : Nat) (k.1 : Nat) < 256:=by decide +kernel
theorem byt_bit : ∀ x : Fin 256,∀ k : Fin 9,∀ j : Fin 8,bt (mb (x.1 : Nat) (k.1 : Nat)) (j.1 : Nat) = if j.1 < k.1 then bt (x.1 : Nat) (j.1 : Nat) else 0:=by decide +kernel
theorem byt_sum : ∀ x : Fin 256,((x.1 : Nat) : Int) = bt (x.1 : Nat) 0 * 128 + bt (x.1 : Nat) 1 * 64 + bt (x.1 : Nat) 2 * 32 + bt (x.1 : Nat) 3 * 16 + bt (x.1 : Nat) 4 * 8 + bt (x.1 : Nat) 5 * 4 + bt (x.1 : Nat) 6 * 2 + bt (x.1 : Nat) 7:=by decide +kernel
structure byteOk (a : Fin 16 -> Int) : Prop where
 q : ∀ q,0 <= a q /\ a q < 256
theorem zBZ {x : Int} (h : 0 <= x /\ x < 256) : ∃ y : Fin 256,x = (y.1 : Nat):=⟨⟨x.toNat,by omega⟩,by show x = (x.toNat : Int);omega⟩
def YW (a : Fin 16 -> Int) (i : Nat) : Int:=bt (zQ a (i / 8)) ((i % 8 : Nat) : Int)
theorem byteOk.v {a : Fin 16 -> Int} (h : byteOk a) (j : Nat) : 0 <= zQ a j /\ zQ a j < 256:=by
 unfold zQ;split
 . exact h.q _
 . omega
theorem byte_ext {x y : Int} (hx : 0 <= x /\ x < 256) (hy : 0 <= y /\ y < 256) (h : ∀ j,j < 8 -> bt x (j : Nat) = bt y (j : Nat)) : x = y:=by
 obtain ⟨x,rfl⟩:=zBZ hx;obtain ⟨y,rfl⟩:=zBZ hy;rw [byt_sum x,byt_sum y];have h0:=h 0 (by omega);have h1:=h 1 (by omega);have h2:=h 2 (by omega);have h3:=h 3 (by omega);have h4:=h 4 (by omega);have h5:=h 5 (by omega);have h6:=h 6 (by omega);have h7:=h 7 (by omega);rw [show bt (x.1 : Nat) 0 = bt (y.1 : Nat) 0 from h0,show bt (x.1 : Nat) 1 = bt (y.1 : Nat) 1 from h1,show bt (x.1 : Nat) 2 = bt (y.1 : Nat) 2 from h2,show bt (x.1 : Nat) 3 = bt (y.1 : Nat) 3 from h3,show bt (x.1 : Nat) 4 = bt (y.1 : Nat) 4 from h4,show bt (x.1 : Nat) 5 = bt (y.1 : Nat) 5 from h5,show bt (x.1 : Nat) 6 = bt (y.1 : Nat) 6 from h6,show bt (x.1 : Nat) 7 = bt (y.1 : Nat) 7 from h7]
theorem ip_ext {a b : Fin 16 -> Int} (ha : byteOk a) (hb : byteOk b) (h : ∀ i,i < 128 -> YW a i = YW b i) : a = b:=by
 funext q
 refine byte_ext (ha.q q) (hb.q q) λj hj=>?_;have:=h (8 * q.1 + j) (by omega);unfold YW at this;rw [show (8 * q.1 + j) / 8 = q.1 by omega,show (8 * q.1 + j) % 8 = j by omega,ZV _ q.2,ZV _ q.2] at this;exact this
theorem zGJ (b : Int) (i : Nat) : ∃ k : Fin 9,QV b i = (k.1 : Nat):=by
 have:=zBY (b - 8 * i) (lo:=0) (hi:=8) (by omega);exact ⟨⟨(QV b i).toNat,by unfold QV;omega⟩,by show QV b i = ((QV b i).toNat : Int);unfold QV;omega⟩
theorem zB5 {a : Fin 16 -> Int} (ha : byteOk a) (b : Int) : byteOk (qu a b).ip:=by
 refine ⟨λq=>?_⟩;show 0 <= mb (zQ a q.1) (QV (Zo b 0 128) q.1) /\ mb (zQ a q.1) (QV (Zo b 0 128) q.1) < 256;obtain ⟨x,hx⟩:=zBZ (ha.v q.1);obtain ⟨k,hk⟩:=zGJ (Zo b 0 128) q.1;rw [hx,hk];exact byt_rng x k
theorem zFU {a : Fin 16 -> Int} (ha : byteOk a) {b : Int} (h0 : 0 <= b) (h1 : b <= 128) {i : Nat} (hi : i < 128) : YW (qu a b).ip i = if (i : Int) < b then YW a i else 0:=by
 have hcl : Zo b 0 128 = b:=by unfold Zo;split<;>split<;>omega
 unfold YW;rw [ZV _ (show i / 8 < 16 by omega)];show bt (mb (zQ a (i / 8)) (QV (Zo b 0 128) (i / 8))) _ = _;rw [hcl];obtain ⟨x,hx⟩:=zBZ (ha.v (i / 8));obtain ⟨k,hk⟩:=zGJ b (i / 8);rw [hx,hk,byt_bit x k ⟨i % 8,by omega⟩];have e : (i % 8 < k.1) ↔ ((i : Int) < b):=by
  have : QV b (i / 8) = Zo (b - 8 * ((i / 8 : Nat) : Int)) 0 8:=rfl;rw [this] at hk;unfold Zo at hk;split at hk<;>split at hk<;>omega
 by_cases h : i % 8 < k.1
 . rw [if_pos h,if_pos (e.1 h)]
 . rw [if_neg h,if_neg (λh'=>h (e.2 h'))]
theorem zHs {b : Int} (h0 : 0 <= b) (h1 : b <= 128) : Zo b 0 128 = b:=by unfold Zo;split<;>split<;>omega
theorem zHt {a : Fin 16 -> Int} {p : Pfx} (ha : byteOk a) (hp : byteOk p.ip) : qu a p.bits = p ↔ (0 <= p.bits /\ p.bits <= 128) /\ ∀ i,i < 128 -> YW p.ip i = if (i : Int) < p.bits then YW a i else 0:=by
 constructor
 . intro h;have hb : (qu a p.bits).bits = p.bits:=by rw [h]
   have hb' : Zo p.bits 0 128 = p.bits:=hb;have:=zBY p.bits (lo:=0) (hi:=128) (by omega);refine ⟨by omega,λi hi=>?_⟩;have hm:=zFU ha (b:=p.bits) (by omega) (by omega) hi;rw [h] at hm;exact hm
 . rintro ⟨⟨h0,h1⟩,h⟩;have hip : (qu a p.bits).ip = p.ip:=ip_ext (zB5 ha _) hp λi hi=>by rw [zFU ha h0 h1 hi,h i hi]
   have hbb : (qu a p.bits).bits = p.bits:=zHs h0 h1;obtain ⟨pi,pb⟩:=p;cases hm : qu a pb with
   | mk x y=>
     simp only [hm] at hip hbb;rw [hip,hbb]
theorem zEa {p : Pfx} (hp : byteOk p.ip) : vpf p = true ↔ (0 <= p.bits /\ p.bits <= 128) /\ ∀ i : Nat,i < 128 -> p.bits <= (i : Int) -> YW p.ip i = 0:=by
 unfold vpf;simp only [Bool.and_eq_true,decide_eq_true_eq,zG1];rw [zHt hp hp];constructor
 . rintro ⟨h,_,h2⟩;refine ⟨h,λi hi hb=>?_⟩;have:=h2 i hi;rw [if_neg (by omega)] at this;exact this
 . rintro ⟨h,h2⟩;refine ⟨h,h,λi hi=>?_⟩;by_cases hb : (i : Int) < p.bits
   . rw [if_pos hb]
   . rw [if_neg hb];exact h2 i hi (by omega)
theorem mask_vpf {a : Fin 16 -> Int} (ha : byteOk a) (b : Int) : vpf (qu a b) = true:=by
 rw [zEa (zB5 ha b)];have hc:=zBY b (lo:=0) (hi:=128) (by omega);have e : qu a b = qu a (Zo b 0 128):=by
  unfold qu;rw [zHs hc.1 hc.2]
 have eb : (qu a b).bits = Zo b 0 128:=rfl;refine ⟨by rw [eb];exact hc,λi hi h=>?_⟩;rw [e,zFU ha hc.1 hc.2 hi,if_neg (by rw [eb] at h;omega)]
def cmn (a b : Fin 16 -> Int) : Nat -> Nat -> Nat
 | 0,n=>n
 | k + 1,n=>if YW a n = YW b n then cmn a b k (n + 1) else n
theorem cmn_ge {a b : Fin 16 -> Int} {m : Nat} : ∀ (k n : Nat),m <= cmn a b k n ↔ m <= n \/ (m <= n + k /\ ∀ i,n <= i -> i < m -> YW a i = YW b i):=by
 intro k;induction k with
 | zero=>intro n;simp only [cmn];constructor
         . exact λh=>.inl h
         . rintro (h | h)
           . exact h
           . omega
 | succ k ih=>
   intro n;simp only [cmn];by_cases h : YW a n = YW b n
   . rw [if_pos h,ih];constructor
     . rintro (h1 | ⟨h1,h2⟩)
       . by_cases h3 : m <= n
         . exact .inl h3
         . refine .inr ⟨by omega,λi hi hm=>?_⟩;have : i = n:=by omega
           subst this;exact h
       . by_cases h3 : m <= n
         . exact .inl h3
         . refine .inr ⟨by omega,λi hi hm=>?_⟩;by_cases hin : i = n
           . subst hin;exact h
           . exact h2 i (by omega) hm
     . rintro (h1 | ⟨h1,h2⟩)
       . exact .inl (by omega)
       . by_cases h3 : m <= n + 1
         . exact .inl h3
         . exact .inr ⟨by omega,λi hi hm=>h2 i (by omega) hm⟩
   . rw [if_neg h];constructor
     . exact λh=>.inl h
     . rintro (h1 | ⟨h1,h2⟩)
       . exact h1
       . by_cases h3 : m <= n
         . exact h3
         . exact absurd (h2 n (Nat.le_refl _) (by omega)) h
def zB6 (a b : Fin 16 -> Int) : Nat:=cmn a b 128 0
def zAH (p : Pfx) (a : Fin 16 -> Int) : Bool:=pEq (qu a p.bits) p
theorem zDS {p : Pfx} {a : Fin 16 -> Int} (hp : byteOk p.ip) (ha : byteOk a) : (vpf p = true /\ p.bits <= (zB6 p.ip a : Int)) ↔ zAH p a = true:=by
 unfold zAH;rw [zG1,zHt ha hp,zEa hp];unfold zB6;constructor
 . rintro ⟨⟨h,h2⟩,h3⟩;refine ⟨h,λi hi=>?_⟩;have h4 : p.bits.toNat <= cmn p.ip a 128 0:=by omega
   rw [cmn_ge] at h4;by_cases hb : (i : Int) < p.bits
   . rw [if_pos hb];rcases h4 with h4 | ⟨_,h4⟩
     . omega
     . exact h4 i (by omega) (by omega)
   . rw [if_neg hb];exact h2 i hi (by omega)
 . rintro ⟨h,h2⟩;refine ⟨⟨h,λi hi hb=>?_⟩,?_⟩
   . have:=h2 i hi;rw [if_neg (by omega)] at this;exact this
   . have : p.bits.toNat <= cmn p.ip a 128 0:=by
      rw [cmn_ge];refine .inr ⟨by omega,λi _ hi=>?_⟩;have:=h2 i (by omega);rw [if_pos (by omega)] at this;exact this
     omega
end Go.Proofs.YtjknkfjhcapocaaGreatDoor.AX
namespace Go.Proofs.YtjknkfjhcapocaaGreatDoor.AX
def mt (a : Fin 16 -> Int) (now : Int) (c : Ctx) : Bool:=Qz c now && pEq (qu a c.bits) (Zy c)
theorem zFO {b : Int} {c : Ctx} {l : List Ctx} : qX b (c :: l) = true ↔ b < c.id /\ c.id < 16 /\ vpf (Zy c) = true /\ vt c.til = true /\ qX c.id l = true:=by
 simp only [qX,Bool.and_eq_true,decide_eq_true_eq,and_assoc]
theorem zFP {c : Ctx} : ∀ {l : List Ctx} {b : Int},qX b l = true -> c ∈ l -> b < c.id /\ vt c.til = true /\ c.id < 16 /\ vpf (Zy c) = true:=by
 intro l;induction l with
 | nil=>intro b _ h;cases h
 | cons d l ih=>
   intro b hv hm;obtain ⟨h1,h2,h3,h4,h5⟩:=zFO.1 hv;rcases List.mem_cons.1 hm with rfl | hm
   . exact ⟨h1,h4,h2,h3⟩
   . obtain ⟨g1,g2⟩:=ih h5 hm;exact ⟨by omega,g2⟩
theorem fold_spec (a : Fin 16 -> Int) (now : Int) : ∀ (l : List Ctx) (r : Ctx × Bool) (b : Int),qX b l = true -> (r.2 = true -> r.1.id <= b) ->
 (r.2 = true -> (Qu a now r l).2 = true /\ (Qu a now r l = r \/ r.1.bits < (Qu a now r l).1.bits)) /\
 (∀ c ∈ l,mt a now c = true -> (Qu a now r l).2 = true /\ (c.bits < (Qu a now r l).1.bits \/ (c.bits = (Qu a now r l).1.bits /\ (Qu a now r l).1.id <= c.id))) /\
 (Qu a now r l = r \/ ((Qu a now r l).2 = true /\ (Qu a now r l).1 ∈ l /\ mt a now (Qu a now r l).1 = true)):=by
 intro l;induction l with
 | nil=>intro r b _ _;exact ⟨λh=>⟨h,.inl rfl⟩,(λc h=>by cases h),.inl rfl⟩
 | cons c l ih=>
   intro r b hv hr;obtain ⟨h1,h2,h3,h4,h5⟩:=zFO.1 hv;rw [Qu];by_cases hb : QU a now r c = true
   . rw [if_pos hb];obtain ⟨i1,i2,i3⟩:=ih (c,true) c.id h5 (λ_=>Int.le_refl _);have hmt : mt a now c = true:=by
      unfold QU at hb;simp only [Bool.and_eq_true] at hb;unfold mt;rw [hb.1.1,hb.1.2];rfl
     have hlt : r.2 = true -> r.1.bits < c.bits:=λh=>by
      unfold QU at hb;simp only [Bool.and_eq_true,h,Bool.not_true,Bool.false_or,decide_eq_true_eq] at hb;exact hb.2
     obtain ⟨j1,j2⟩:=i1 rfl;refine ⟨λh=>⟨j1,.inr ?_⟩,λd hd hm=>?_,.inr ?_⟩
     . rcases j2 with j2 | j2
       . rw [j2];exact hlt h
       . have:=hlt h;have j2' : c.bits < (Qu a now (c,true) l).1.bits:=j2;omega
     . rcases List.mem_cons.1 hd with rfl | hd
       . refine ⟨j1,?_⟩;rcases j2 with j2 | j2
         . rw [j2];exact .inr ⟨rfl,Int.le_refl _⟩
         . exact .inl j2
       . exact i2 d hd hm
     . rcases i3 with i3 | ⟨g1,g2,g3⟩
       . rw [i3];exact ⟨rfl,List.mem_cons_self ..,hmt⟩
       . exact ⟨g1,List.mem_cons_of_mem _ g2,g3⟩
   . rw [if_neg hb];obtain ⟨i1,i2,i3⟩:=ih r c.id h5 (λh=>by have:=hr h;omega);refine ⟨i1,λd hd hm=>?_,?_⟩
     . rcases List.mem_cons.1 hd with rfl | hd
       . have hn : r.2 = true /\ ¬ r.1.bits < d.bits:=by
          unfold mt at hm;unfold QU at hb;simp only [Bool.and_eq_true] at hm;rw [hm.1,hm.2] at hb;simp only [Bool.true_and,Bool.or_eq_true,Bool.not_eq_true',decide_eq_true_eq,not_or,Bool.not_eq_false] at hb;exact hb
         obtain ⟨j1,j2⟩:=i1 hn.1;refine ⟨j1,?_⟩;have:=hr hn.1;rcases j2 with j2 | j2
         . rw [j2];by_cases e : d.bits = r.1.bits
           . exact .inr ⟨e,by omega⟩
           . exact .inl (by omega)
         . exact .inl (by omega)
       . exact i2 d hd hm
     . rcases i3 with i3 | ⟨g1,g2,g3⟩
       . exact .inl i3
       . exact .inr ⟨g1,List.mem_cons_of_mem _ g2,g3⟩
theorem forCom_eq {l : List Ctx} {a : Fin 16 -> Int} {now : Int} (hv : Zd l = true) (ht : vt now = true) : Zc l a now = Qu a now (default,false) l:=if_pos ⟨hv,ht⟩
end Go.Proofs.YtjknkfjhcapocaaGreatDoor.AX
namespace Go.Proofs.YtjknkfjhcapocaaGreatDoor.AX
open Go.RowKit
theorem bit_ok (a : Fin 16 -> Int) (i : Int) (h0 : 0 <= i) (h1 : i < 128) : zY Tryz.prog 67 [(cE (eA .u8 16)).enc a,(cI .i64).enc i] ((cI .u8).enc (YW a i.toNat)):=by
 have hq : IntKind.i64.wrap (i.tdiv 8) = i / 8:=by rw [Int.tdiv_eq_ediv_of_nonneg h0];exact IntWalk.i64_in _ (by omega)
 have hr : IntKind.u64.wrap (i.tmod 8) = i % 8:=by rw [Int.tmod_eq_emod_of_nonneg h0];exact IntWalk.u64_in _ (by omega)
 have hs : IntKind.u64.wrap (7 - IntKind.u64.wrap (i.tmod 8)) = 7 - i % 8:=by rw [hr];exact IntWalk.u64_in _ (by omega)
 refine zG (wd:=1) (by decide) zM (zT ZG) zN Tryz.func67 rfl _ (by show 2 <= _;decide) _ ?_;repeat' (first | (apply And.intro<;>intro hc<;>(first | exact Bool.noConfusion hc | (simp only [qm] at hc) | skip)) | (refine And.intro Ql ?_) | (apply And.intro) | (intro s hs))
 . rw [hq];show 1 <= 16 - _;omega
 refine Done.mk (zF ?_);show bits .and .u8 (Zn .u8 (zQ a (0 + (IntKind.i64.wrap (i.tdiv 8)).toNat * 1 + 0)) (IntKind.u64.wrap (7 - IntKind.u64.wrap (i.tmod 8)))) 1 = _;rw [hs,hq];unfold YW bt;rw [show 0 + (i / 8).toNat * 1 + 0 = i.toNat / 8 by omega,show ((i.toNat % 8 : Nat) : Int) = i % 8 by omega]
theorem zFV (a : Fin 16 -> Int) (n : Nat) : YW ((eA .u8 16).rd λq=>(eA .u8 16).cell a (0 + q)) ((n : Int)).toNat = YW a n:=by
 rw [Int.toNat_natCast,YV]
def LR0 : Qb:=(67,some (ZH (AC.cons (cE (eA .u8 16)) (AC.cons (cI .i64) AC.nil)) (λa=>0 <= a.2.1 /\ a.2.1 < 128) (λa=>YW a.1 a.2.1.toNat) (cI .u8).enc)) :: []
theorem zBl : ZC Tryz.prog LR0:=⟨zO ⟨_,Tryz.func67,rfl,by kernel_rfl⟩ λa h=>bit_ok a.1 a.2.1 h.1 h.2,trivial⟩
theorem common_ok (a b : Fin 16 -> Int) : zY Tryz.prog 132 [(cE (eA .u8 16)).enc a,(cE (eA .u8 16)).enc b] ((cI .i64).enc (zB6 a b : Nat)):=by
 refine zG (wd:=1) (by decide) zM (zT zBl) zN Tryz.func132 rfl _ (by show 2 <= _;decide) _ ?_;refine zp (ZE zBl) (λn : {n : Nat // n <= 128 /\ zB6 a b = cmn a b (128 - n) n}=>(⟨[(2,one (.ptr 0 0 0 false)),(3,one (.ptr 1 0 0 false)),(5,one (.int .i64 (n.1 : Int)))],
  [(0,some ⟨24,1,16,true,λ_=>(eA .u8 16).cell a⟩),(1,some ⟨24,1,16,true,λ_=>(eA .u8 16).cell b⟩)],5⟩ : Hd)) (λn=>128 - n.1) (λ_=>rfl) ?_ ⟨0,by omega,by unfold zB6;rw [Nat.sub_zero]⟩ [] ?_
 . rintro ⟨n,hn,hv⟩;dsimp only at hn hv ⊢;repeat' (first | (apply And.intro<;>intro hc<;>(first | exact Bool.noConfusion hc | (simp only [qm] at hc) | skip)) | (refine And.intro Ql ?_) | (apply And.intro) | (intro s hs))
   . rename_i hlt s1 hs1;have e1 : s1 = YW a n:=hs1.trans (zFV a n);have e2 : s = YW b n:=hs.trans (zFV b n);refine ⟨⟨n + 1,by omega,?_⟩,[],by dsimp only;omega,rfl,?_,?_⟩
     . rw [hv,show 128 - n = (128 - (n + 1)) + 1 by omega,cmn,if_pos (by rw [<- e1,<- e2];exact hc)]
     . repeat' (first | exact qH | refine zF ?_ | refine zC ?_ | exact qI | apply And.intro)
       refine (IntWalk.i64_in _ ?_).trans ?_
       . constructor<;>omega
       . dsimp only;omega
     . exact QI
   . rename_i hlt s1 hs1;have e1 : s1 = YW a n:=hs1.trans (zFV a n);have e2 : s = YW b n:=hs.trans (zFV b n);refine Done.mk (zF ?_);rw [hv,show 128 - n = (128 - (n + 1)) + 1 by omega,cmn,if_neg (by rw [<- e1,<- e2];exact hc)]
   . have : n = 128:=by omega
     subst this;refine Done.mk (zF ?_);rw [hv];rfl
 . refine ⟨rfl,?_,?_⟩
   . exact QI
   . exact QI
theorem bit_rdP (p : Pfx) (n : Nat) : YW ((eA .u8 16).rd λq=>qS.cell p (0 + 0 + q)) ((n : Int)).toNat = YW p.ip n:=by
 rw [Int.toNat_natCast];have:=zEZ p;simp only [Nat.zero_add] at this ⊢;exact congrArg (YW · n) this
theorem rvpf_ok (p : Pfx) (hp : byteOk p.ip) : zY Tryz.prog 117 [(cE qS).enc p] (cB.enc (vpf p)):=by
 refine zG (wd:=1) (by decide) zM (zT zBl) zN Tryz.func117 rfl _ (by show 1 <= _;decide) _ ?_;repeat' (first | (apply And.intro<;>intro hc<;>(first | exact Bool.noConfusion hc | (simp only [qm] at hc) | skip)) | (refine And.intro Ql ?_) | (apply And.intro) | (intro s hs))
 . refine Done.mk (zC ?_);simp [vpf];omega
 . refine Done.mk (zC ?_);simp [vpf];omega
 . refine zp (ZE zBl) (λi : {i : Nat // p.bits <= i /\ i <= 128 /\ ∀ j : Nat,j < i -> p.bits <= j -> YW p.ip j = 0}=>(⟨[(1,one (.ptr 0 0 0 false)),(3,one (.int .i64 (i.1 : Int)))],
    [(0,some ⟨57,1,17,true,λ_=>qS.cell p⟩)],14⟩ : Hd)) (λi=>128 - i.1) (λ_=>rfl) ?_ ⟨p.bits.toNat,by omega,by omega,λj h1 h2=>by omega⟩ [] ?_
   . rintro ⟨i,h1,h2,hv⟩;dsimp only at h1 h2 hv ⊢;repeat' (first | (apply And.intro<;>intro hc<;>(first | exact Bool.noConfusion hc | (simp only [qm] at hc) | skip)) | (refine And.intro Ql ?_) | (apply And.intro) | (intro s hs))
     . have e1 : s = YW p.ip i:=hs.trans (bit_rdP p i);have hcc : s ≠ 0:=hc;refine Done.mk (zC ?_);symm
       rw [Bool.eq_false_iff];intro h;rw [zEa hp] at h;exact hcc (e1.trans (h.2 i (by omega) h1))
     . have e1 : s = YW p.ip i:=hs.trans (bit_rdP p i);refine ⟨⟨i + 1,by omega,by omega,λj hj hb=>?_⟩,[],by dsimp only;omega,rfl,?_,?_⟩
       . by_cases hji : j = i
         . subst hji;rw [<- e1];assumption
         . exact hv j (by omega) hb
       . repeat' (first | exact qH | refine zF ?_ | refine zC ?_ | exact qI | apply And.intro)
         refine (IntWalk.i64_in _ ?_).trans ?_
         . constructor<;>omega
         . dsimp only;omega
       . exact QI
     . refine Done.mk (zC ?_);symm
       rw [zEa hp];exact ⟨by omega,λj hj hb=>hv j (by omega) hb⟩
   . refine ⟨rfl,?_,?_⟩
     . repeat' (first | exact qH | refine zF ?_ | refine zC ?_ | exact qI | apply And.intro)
       show p.bits = ((p.bits.toNat : Nat) : Int);omega
     . exact QI
theorem maskB_ne {a : Fin 16 -> Int} {i j : Nat} (h : j ≠ i / 8) : zAD a ((i + 1 : Nat) : Int) j = zAD a (i : Int) j:=by
 unfold zAD;have : QV ((i + 1 : Nat) : Int) j = QV (i : Int) j:=by
  unfold QV Zo;(repeat' split)<;>omega
 rw [this]
theorem maskB_at {a : Fin 16 -> Int} (ha : byteOk a) (i : Nat) : bits .or .u8 (zAD a (i : Int) (i / 8)) (zCZ .u8 (YW a i) (7 - ((i % 8 : Nat) : Int))) = zAD a ((i + 1 : Nat) : Int) (i / 8):=by
 obtain ⟨x,hx⟩:=zBZ (ha.v (i / 8));have h:=byt_step x ⟨i % 8,by omega⟩;have k1 : QV (i : Int) (i / 8) = ((i % 8 : Nat) : Int):=by
  unfold QV Zo;split<;>split<;>omega
 have k2 : QV ((i + 1 : Nat) : Int) (i / 8) = ((i % 8 : Nat) : Int) + 1:=by
  unfold QV Zo;split<;>split<;>omega
 unfold zAD YW;rw [k1,k2,hx];exact h
theorem rm_step {a : Fin 16 -> Int} {i off j : Nat} {V : Int} (ho : off = i / 8) (hV : V = zAD a ((i + 1 : Nat) : Int) (i / 8)) : (bif Nat.ble off j && Nat.blt j (off + 1) then V else zAD a (i : Int) j) = zAD a ((i + 1 : Nat) : Int) j:=by
 by_cases h : j = i / 8
 . rw [zCk (by omega),cond_true,hV,h]
 . rw [zA6 (by omega),cond_false,maskB_ne h]
theorem zIT {a : Fin 16 -> Int} (ha : byteOk a) (j : Nat) : zAD a ((0 : Nat) : Int) j = 0:=by
 obtain ⟨x,hx⟩:=zBZ (ha.v j);unfold zAD;rw [hx,show QV ((0 : Nat) : Int) j = 0 by unfold QV Zo;split<;>split<;>omega];exact byt_zero x
theorem rmask_ok (a : Fin 16 -> Int) (b : Int) (ha : byteOk a) : zY Tryz.prog 38 [(cE (eA .u8 16)).enc a,(cI .i64).enc b] ((cE qS).enc (qu a b)):=by
 have hb:=zBY b (lo:=0) (hi:=128) (by omega);refine zG (wd:=1) (by decide) zM (zT zBl) zN Tryz.func38 rfl _ (by show 2 <= _;decide) _ ?_;refine zp (ZE zBl) (λi : {i : Nat // (i : Int) <= Zo b 0 128}=>(⟨[(1,one (.int .i64 (Zo b 0 128))),(2,one (.ptr 0 0 0 false)),(4,one (.ptr 1 0 0 false)),(5,one (.ptr 8 0 0 false)),(6,one (.int .i64 (i.1 : Int)))],
  [(0,some ⟨24,1,16,true,λ_=>(eA .u8 16).cell a⟩),(1,some ⟨57,1,17,true,λ_ _=>.top⟩),(8,some ⟨57,1,17,true,λ_ j=>.int (bif Nat.blt j 16 then .u8 else .i64) (bif Nat.blt j 16 then zAD a i.1 j else Zo b 0 128)⟩)],11⟩ : Hd)) (λi=>128 - i.1) (λ_=>rfl) ?_ ⟨0,by omega⟩ [] ?_
 . rintro ⟨i,hi⟩;dsimp only at hi ⊢;have hq : IntKind.i64.wrap ((i : Int).tdiv 8) = (i : Int) / 8:=by rw [Int.tdiv_eq_ediv_of_nonneg (by omega)];exact IntWalk.i64_in _ (by omega)
   have hr : IntKind.u64.wrap ((i : Int).tmod 8) = (i : Int) % 8:=by rw [Int.tmod_eq_emod_of_nonneg (by omega)];exact IntWalk.u64_in _ (by omega)
   have hsh : IntKind.u64.wrap (7 - IntKind.u64.wrap ((i : Int).tmod 8)) = 7 - (i : Int) % 8:=by rw [hr];exact IntWalk.u64_in _ (by omega)
   have hk : (i : Int) < Zo b 0 128 -> Nat.blt (0 + 0 + (IntKind.i64.wrap ((i : Int).tdiv 8)).toNat * 1 + 0) 16 = true:=λh=>by rw [hq];exact Nat.ble_eq_true_of_le (by omega)
   repeat' (first | (apply And.intro<;>intro hc<;>(first | exact Bool.noConfusion hc | (simp only [qm] at hc) | skip)) | (refine And.intro Ql ?_) | (apply And.intro) | (intro s hs))
   . rw [hk hc];repeat' (first | (apply And.intro<;>intro hc<;>(first | exact Bool.noConfusion hc | (simp only [qm] at hc) | skip)) | (refine And.intro Ql ?_) | (apply And.intro) | (intro s hs))
     . have e1 : s = YW a i:=hs.trans (zFV a i);have ho : 0 + 0 + (IntKind.i64.wrap ((i : Int).tdiv 8)).toNat * 1 = i / 8:=by rw [hq];omega
       have hV : bits .or .u8 (zAD a (i : Int) (0 + 0 + (IntKind.i64.wrap ((i : Int).tdiv 8)).toNat * 1 + 0)) (zCZ .u8 s (IntKind.u64.wrap (7 - IntKind.u64.wrap ((i : Int).tmod 8)))) = zAD a ((i + 1 : Nat) : Int) (i / 8):=by
        rw [Nat.add_zero,ho,hsh,e1,<- maskB_at ha i,show ((i % 8 : Nat) : Int) = (i : Int) % 8 by omega]
       refine ⟨⟨i + 1,by omega⟩,[],by dsimp only;omega,rfl,?_,?_⟩
       . repeat' (first | exact qH | refine zF ?_ | refine zC ?_ | exact qI | apply And.intro)
         refine (IntWalk.i64_in _ ?_).trans ?_
         . constructor<;>omega
         . dsimp only;omega
       . repeat' (first | exact qH | refine zF ?_ | refine zC ?_ | exact qI | apply And.intro)
         refine zh ?_;repeat' (first | exact trivial | exact zA (rm_step ho hV) | apply And.intro)
         refine zHY (b:=Nat.ble (0 + 0 + (IntKind.i64.wrap ((i : Int).tdiv 8)).toNat * 1) 16 && Nat.blt 16 (0 + 0 + (IntKind.i64.wrap ((i : Int).tdiv 8)).toNat * 1 + 1)) (y:=.int .i64 (Zo b 0 128)) (z:=.int .i64 (Zo b 0 128)) ?_ ?_
         . exact zA6 (by rw [ho];omega)
         . exact zA rfl
   . have hib : (i : Int) = Zo b 0 128:=by omega
     refine Done.mk (ZS (zd ?_));rw [hib];repeat' (first | exact trivial | exact zA rfl | apply And.intro)
 . refine ⟨rfl,?_,?_⟩
   . exact QI
   . repeat' (first | exact qH | refine zF ?_ | refine zC ?_ | exact qI | apply And.intro)
     refine zh ?_;repeat' (first | exact trivial | exact zA (zIT ha _).symm | exact zA rfl | apply And.intro)
def LR1 : Qb:=(117,some (ZH (AC.cons (cE qS) AC.nil) (λa=>byteOk a.1.ip) (λa=>vpf a.1) cB.enc)) ::
 (132,some (ZH (AC.cons (cE (eA .u8 16)) (AC.cons (cE (eA .u8 16)) AC.nil)) (λ_=>True) (λa=>((zB6 a.1 a.2.1 : Nat) : Int)) (cI .i64).enc)) ::
 (38,some (ZH (AC.cons (cE (eA .u8 16)) (AC.cons (cI .i64) AC.nil)) (λa=>byteOk a.1) (λa=>qu a.1 a.2.1) (cE qS).enc)) :: LR0
theorem LR1_ok : ZC Tryz.prog LR1:=⟨zO ⟨_,Tryz.func117,rfl,by kernel_rfl⟩ λa h=>rvpf_ok a.1 h,zO ⟨_,Tryz.func132,rfl,by kernel_rfl⟩ λa _=>common_ok a.1 a.2.1,zO ⟨_,Tryz.func38,rfl,by kernel_rfl⟩ λa h=>rmask_ok a.1 a.2.1 h,zBl⟩
theorem zDv (p : Pfx) : qS.rd (λq=>qS.cell p (0 + q)) = p:=by
 simp only [Nat.zero_add];exact ePfx_rd p
theorem zHw (p : Pfx) (a : Fin 16 -> Int) (hp : byteOk p.ip) (ha : byteOk a) : zY Tryz.prog 119 [(cE qS).enc p,(cE (eA .u8 16)).enc a] (cB.enc (zAH p a)):=by
 have hip : ((eA .u8 16).rd λq=>qS.cell p (0 + 0 + q)) = p.ip:=by
  have:=zEZ p;simp only [Nat.zero_add] at this ⊢;exact this
 refine zG (wd:=1) (by decide) zM (zT LR1_ok) zN Tryz.func119 rfl _ (by show 2 <= _;decide) _ ?_;repeat' (first | (apply And.intro<;>intro hc<;>(first | exact Bool.noConfusion hc | (simp only [qm] at hc) | skip)) | (refine And.intro Ql ?_) | (apply And.intro) | (intro s hs))
 . show byteOk (qS.rd λq=>qS.cell p (0 + q)).ip;rw [zDv];exact hp
 . rename_i s1 hs1;have hc1 : s1 = true:=by assumption
   have e1 : s1 = vpf p:=hs1.trans (congrArg vpf (zDv p));have e2 : s = ((zB6 p.ip a : Nat) : Int):=hs.trans (by
    show ((zB6 ((eA .u8 16).rd λq=>qS.cell p (0 + 0 + q)) ((eA .u8 16).rd λq=>(eA .u8 16).cell a (0 + q)) : Nat) : Int) = _;rw [hip,YV])
   refine Done.mk (zC ?_);rw [Bool.eq_iff_iff,<- zDS hp ha,<- e2,<- e1,hc1];show decide (p.bits <= s) = true ↔ _;simp
 . have e1 : s = vpf p:=hs.trans (congrArg vpf (zDv p));refine Done.mk (zC ?_);symm
   rw [Bool.eq_false_iff];intro h;have:=(zDS hp ha).2 h;rw [<- e1] at this;simp_all
def ofB (x y : Int) (j : Nat) : Int:=IntKind.u8.wrap (Zn .u64 (bif Nat.blt j 8 then x else y) (56 - 8 * ((j % 8 : Nat) : Int)))
def ofF (x y : Int) : Fin 16 -> Int:=λq=>ofB x y q.1
theorem zDw (x y : Int) : byteOk (ofF x y):=by
 refine ⟨λq=>?_⟩;have h : ∀ z,0 <= IntKind.u8.wrap z /\ IntKind.u8.wrap z < 256:=λz=>by
  simp only [IntKind.wrap,IntKind.signed,IntKind.bits];constructor
  . exact Int.emod_nonneg _ (by decide)
  . exact Int.emod_lt_of_pos _ (by decide)
 exact h _
theorem of_step {x y v1 v2 : Int} {i off1 off2 j : Nat} (h1 : off1 = i) (h2 : off2 = 8 + i) (hi : i < 8) (hj : j < 16) (e1 : v1 = ofB x y i) (e2 : v2 = ofB x y (8 + i)) :
 (bif Nat.ble off2 j && Nat.blt j (off2 + 1) then v2 else (bif Nat.ble off1 j && Nat.blt j (off1 + 1) then v1 else if j % 8 < i then ofB x y j else 0)) = if j % 8 < i + 1 then ofB x y j else 0:=by
 by_cases a : j = 8 + i
 . rw [zCk (by omega),cond_true,e2,if_pos (by omega),a]
 . rw [zA6 (by omega),cond_false];by_cases b : j = i
   . rw [zCk (by omega),cond_true,e1,if_pos (by omega),b]
   . rw [zA6 (by omega),cond_false];by_cases c : j % 8 < i
     . rw [if_pos c,if_pos (by omega)]
     . rw [if_neg c,if_neg (by omega)]
theorem of_ok (x y : Int) : zY Tryz.prog 39 [(cI .u64).enc x,(cI .u64).enc y] ((cE (eA .u8 16)).enc (ofF x y)):=by
 refine zG (wd:=1) (by decide) zM (zT zBl) zN Tryz.func39 rfl _ (by show 2 <= _;decide) _ ?_;refine zp (ZE zBl) (λi : {i : Nat // i <= 8}=>(⟨[(0,one (.int .u64 x)),(1,one (.int .u64 y)),(4,one (.ptr 0 0 0 false)),(5,one (.ptr 1 0 0 false)),(6,one (.int .i64 (i.1 : Int)))],
  [(0,some ⟨24,1,16,true,λ_ _=>.top⟩),(1,some ⟨24,1,16,true,λ_ j=>.int .u8 (if j % 8 < i.1 then ofB x y j else 0)⟩)],3⟩ : Hd)) (λi=>8 - i.1) (λ_=>rfl) ?_ ⟨0,by omega⟩ [] ?_
 . rintro ⟨i,hi⟩;dsimp only at hi ⊢;have h8 : IntKind.i64.wrap (8 + (i : Int)) = 8 + i:=IntWalk.i64_in _ (by omega);have hu : IntKind.u64.wrap (i : Int) = i:=IntWalk.u64_in _ (by omega);have hu8 : IntKind.u64.wrap (8 * IntKind.u64.wrap (i : Int)) = 8 * i:=by rw [hu];exact IntWalk.u64_in _ (by omega)
   have hsh : i < 8 -> IntKind.u64.wrap (56 - IntKind.u64.wrap (8 * IntKind.u64.wrap (i : Int))) = 56 - 8 * i:=λh=>by rw [hu8];exact IntWalk.u64_in _ (by omega)
   repeat' (first | (apply And.intro<;>intro hc<;>(first | exact Bool.noConfusion hc | (simp only [qm] at hc) | skip)) | (refine And.intro Ql ?_) | (apply And.intro) | (intro s hs))
   . have hs:=hsh (by omega);have o1 : 0 + ((i : Int)).toNat * 1 = i:=by omega
     have o2 : 0 + (IntKind.i64.wrap (8 + (i : Int))).toNat * 1 = 8 + i:=by rw [h8];omega
     have e1 : IntKind.u8.wrap (Zn .u64 x (IntKind.u64.wrap (56 - IntKind.u64.wrap (8 * IntKind.u64.wrap (i : Int))))) = ofB x y i:=by
      unfold ofB;rw [hs,show Nat.blt i 8 = true from Nat.ble_eq_true_of_le (by omega),show i % 8 = i by omega];rfl
     have e2 : IntKind.u8.wrap (Zn .u64 y (IntKind.u64.wrap (56 - IntKind.u64.wrap (8 * IntKind.u64.wrap (i : Int))))) = ofB x y (8 + i):=by
      unfold ofB;rw [hs,show Nat.blt (8 + i) 8 = false from by cases hb : Nat.blt (8 + i) 8 with
       | false=>rfl
       | true=>have:=Nat.le_of_ble_eq_true hb;omega,show (8 + i) % 8 = i by omega];rfl
     refine ⟨⟨i + 1,by omega⟩,[],by dsimp only;omega,rfl,?_,?_⟩
     . repeat' (first | exact qH | refine zF ?_ | refine zC ?_ | exact qI | apply And.intro)
       refine (IntWalk.i64_in _ ?_).trans ?_
       . constructor<;>omega
       . dsimp only;omega
     . repeat' (first | exact qH | refine zF ?_ | refine zC ?_ | exact qI | apply And.intro)
       refine Ys λj hj=>?_;exact zA (of_step (j:=j) o1 o2 (by omega) hj e1 e2)
   . have h8' : i = 8:=by omega
     subst h8';refine Done.mk (ZS (zd ?_));repeat' (first | exact trivial | exact zA rfl | apply And.intro)
 . refine ⟨rfl,?_,?_⟩
   . exact QI
   . repeat' (first | exact qH | refine zF ?_ | refine zC ?_ | exact qI | apply And.intro)
     refine zh ?_;repeat' (first | exact trivial | exact zA rfl | apply And.intro)
def LR2 : Qb:=(119,some (ZH (AC.cons (cE qS) (AC.cons (cE (eA .u8 16)) AC.nil)) (λa=>byteOk a.1.ip /\ byteOk a.2.1) (λa=>zAH a.1 a.2.1) cB.enc)) ::
 (39,some (ZH (AC.cons (cI .u64) (AC.cons (cI .u64) AC.nil)) (λ_=>True) (λa=>ofF a.1 a.2.1) (cE (eA .u8 16)).enc)) :: LR1
theorem LR2_ok : ZC Tryz.prog LR2:=⟨zO ⟨_,Tryz.func119,rfl,by kernel_rfl⟩ λa h=>zHw a.1 a.2.1 h.1 h.2,zO ⟨_,Tryz.func39,rfl,by kernel_rfl⟩ λa _=>of_ok a.1 a.2.1,LR1_ok⟩
def toU (l : List Int) : List UInt8:=l.map λx=>UInt8.ofNat x.toNat
theorem toU_app (l m : List Int) : toU (l ++ m) = toU l ++ toU m:=by simp [toU]
theorem toU_len (l : List Int) : (toU l).length = l.length:=by simp [toU]
theorem u8n {c : Int} (h : 0 <= c /\ c < 256) : ((UInt8.ofNat c.toNat).toNat : Int) = c:=by
 rw [UInt8.toNat_ofNat',Nat.mod_eq_of_lt (by omega)];omega
def qw (l : List Int) : Nat:=tot true (toU l)
def zB9 (l : List Int) : Int:=65535 - (qK (qw l) : Int)
theorem totI_le (l : List Int) : qw l <= 32768 * l.length + 32768:=by have:=tot_le (toU l);rw [toU_len] at this;exact this
theorem side_toU (l : List Int) : side true (toU l) = decide (l.length % 2 = 0):=by
 unfold side;rw [toU_len];rcases Nat.mod_two_eq_zero_or_one l.length with h | h<;>simp [h]
theorem zGP (l : List Int) (c : Int) (hc : 0 <= c /\ c < 256) : (qw (l ++ [c]) : Int) = qw l + if l.length % 2 = 0 then c * 256 else c:=by
 unfold qw;rw [toU_app,show toU [c] = [UInt8.ofNat c.toNat] from rfl,tot_snoc,side_toU];have:=u8n hc;by_cases h : l.length % 2 = 0
 . simp [h];omega
 . simp [h];omega
structure FdS (n : Nat) where
 x : Nat
 hx : x <= n
 h : qK x = qK n
theorem fold_ok (n : Nat) (hn : n <= 4611686018427387904) : zY Tryz.prog 133 [(cI .u64).enc n] ((cI .u16).enc (qK n)):=by
 refine zG (wd:=1) (by decide) zM (zT ZG) zN Tryz.func133 rfl _ (by show 1 <= _;decide) _ ?_;repeat' (first | (apply And.intro<;>intro hc<;>(first | exact Bool.noConfusion hc | (simp only [qm] at hc) | skip)) | (refine And.intro Ql ?_) | (apply And.intro) | (intro s hs))
 refine zp (ZE ZG) (λs : FdS n=>(⟨[(0,one (.int .u64 (s.x : Int)))],[],0⟩ : Hd)) (λs=>s.x) (λ_=>rfl) ?_ ⟨n,Nat.le_refl _,rfl⟩ [] ?_
 . rintro ⟨x,hx,h⟩;dsimp only at hx h ⊢;repeat' (first | (apply And.intro<;>intro hc<;>(first | exact Bool.noConfusion hc | (simp only [qm] at hc) | skip)) | (refine And.intro Ql ?_) | (apply And.intro) | (intro s hs))
   . have hc' : 65535 < x:=by omega
     refine ⟨⟨x % 65536 + x / 65536,by omega,by rw [zFN hc'];exact h⟩,[],by dsimp only;omega,rfl,?_,?_⟩
     . repeat' (first | exact qH | refine zF ?_ | refine zC ?_ | exact qI | apply And.intro)
       dsimp only;rw [IntWalk.u64_in ((x : Int).tdiv 65536) (by rw [Int.tdiv_eq_ediv_of_nonneg (by omega)];omega),IntWalk.u64_in _ (by rw [Int.tmod_eq_emod_of_nonneg (by omega),Int.tdiv_eq_ediv_of_nonneg (by omega)];omega),Int.tmod_eq_emod_of_nonneg (by omega),Int.tdiv_eq_ediv_of_nonneg (by omega)];omega
     . exact QI
   . refine Done.mk (zF ?_);rw [<- h,zEE (by omega)];exact IntWalk.u16_in _ (by omega)
 . refine ⟨rfl,?_,?_⟩
   . exact QI
   . exact QI
theorem rfold_ok (n : Nat) (hn : n <= 4611686018427387904) : zY Tryz.prog 120 [(cI .i64).enc n] ((cI .u16).enc (qK n)):=by
 refine zG (wd:=1) (by decide) zM (zT ZG) zN Tryz.func120 rfl _ (by show 1 <= _;decide) _ ?_;repeat' (first | (apply And.intro<;>intro hc<;>(first | exact Bool.noConfusion hc | (simp only [qm] at hc) | skip)) | (refine And.intro Ql ?_) | (apply And.intro) | (intro s hs))
 refine zp (ZE ZG) (λs : FdS n=>(⟨[(0,one (.int .i64 (s.x : Int)))],[],0⟩ : Hd)) (λs=>s.x) (λ_=>rfl) ?_ ⟨n,Nat.le_refl _,rfl⟩ [] ?_
 . rintro ⟨x,hx,h⟩;dsimp only at hx h ⊢;repeat' (first | (apply And.intro<;>intro hc<;>(first | exact Bool.noConfusion hc | (simp only [qm] at hc) | skip)) | (refine And.intro Ql ?_) | (apply And.intro) | (intro s hs))
   . have hc' : 65535 < x:=by omega
     refine ⟨⟨x % 65536 + x / 65536,by omega,by rw [zFN hc'];exact h⟩,[],by dsimp only;omega,rfl,?_,?_⟩
     . repeat' (first | exact qH | refine zF ?_ | refine zC ?_ | exact qI | apply And.intro)
       dsimp only;rw [IntWalk.i64_in ((x : Int).tdiv 65536) (by rw [Int.tdiv_eq_ediv_of_nonneg (by omega)];omega),IntWalk.i64_in _ (by rw [Int.tmod_eq_emod_of_nonneg (by omega),Int.tdiv_eq_ediv_of_nonneg (by omega)];omega),Int.tmod_eq_emod_of_nonneg (by omega),Int.tdiv_eq_ediv_of_nonneg (by omega)];omega
     . exact QI
   . refine Done.mk (zF ?_);rw [<- h,zEE (by omega)];exact IntWalk.u16_in _ (by omega)
 . refine ⟨rfl,?_,?_⟩
   . exact QI
   . exact QI
def hiB (l : List Int) : Bool:=decide (l.length % 2 = 0)
theorem zHz (l : List Int) (c : Int) : hiB (l ++ [c]) = !hiB l:=by
 unfold hiB;rw [List.length_append,List.length_singleton];rcases Nat.mod_two_eq_zero_or_one l.length with h | h
 . have : (l.length + 1) % 2 = 1:=by omega
   simp [h,this]
 . have : (l.length + 1) % 2 = 0:=by omega
   simp [h,this]
theorem zG5 (l : List Int) (c : Int) (hc : 0 <= c /\ c < 256) (h : hiB l = true) : (qw (l ++ [c]) : Int) = qw l + c * 256:=by
 rw [zGP l c hc,if_pos (by simpa [hiB] using h)]
theorem totI_lo (l : List Int) (c : Int) (hc : 0 <= c /\ c < 256) (h : hiB l = false) : (qw (l ++ [c]) : Int) = qw l + c:=by
 rw [zGP l c hc,if_neg (by simpa [hiB] using h)]
theorem zDx {L : List (List Int)} {k : Nat} (h : k < L.length) : (L.take (k + 1)).flatten = (L.take k).flatten ++ L.getD k []:=by
 rw [List.take_succ_eq_append_getElem h,List.flatten_append,List.getD_eq_getElem?_getD,List.getElem?_eq_getElem h];simp
structure BLL (L : List (List Int)) : Prop where
 m : ∀ l ∈ L,BL l
theorem BLL.get {L : List (List Int)} (h : BLL L) (k : Nat) : BL (L.getD k []):=by
 rcases Nat.lt_or_ge k L.length with hi | hi
 . rw [List.getD_eq_getElem?_getD,List.getElem?_eq_getElem hi];exact h.m _ (List.getElem_mem hi)
 . rw [List.getD_eq_getElem?_getD,List.getElem?_eq_none hi];exact BL.nil
theorem BLL.flat {L : List (List Int)} (h : BLL L) : BL L.flatten:=⟨λx hx=>by
 obtain ⟨l,hl,hxl⟩:=List.mem_flatten.1 hx;exact (h.m l hl).m x hxl⟩
theorem zG6 (L : List (List Int)) (k : Nat) : (L.take k).flatten.length <= L.flatten.length:=by
 have h : L.flatten = (L.take k).flatten ++ (L.drop k).flatten:=by rw [<- List.flatten_append,List.take_append_drop]
 rw [h];simp
structure TtS (L : List (List Int)) (k : Nat) where
 i : Nat
 hi : i <= (L.getD k []).length
theorem total_ok (L : List (List Int)) (hL : BLL L) (hn : L.length <= 4611686018427387904) (hf : L.flatten.length <= 281474976710000) : zY Tryz.prog 134 [(cLL eB Zb).enc L] ((cI .u64).enc (qw L.flatten)):=by
 refine zG (wd:=1) (by decide) zM (zT ZG) zN Tryz.func134 rfl _ (by show 1 <= _;decide) _ ?_;repeat' (first | (apply And.intro<;>intro hc<;>(first | exact Bool.noConfusion hc | (simp only [qm] at hc) | skip)) | (refine And.intro Ql ?_) | (apply And.intro) | (intro s hs))
 refine zp (ZE ZG) (λs : {k : Nat // k <= L.length}=>(⟨[(3,one (.int .u64 (qw (L.take s.1).flatten))),(4,one (.bool (hiB (L.take s.1).flatten))),(9,one (.sl false L.length 1 (zC6 eB L))),(10,one (.int .i64 (L.length : Int))),(11,one (.int .i64 (s.1 : Int)))],[],0⟩ : Hd)) (λs=>L.length - s.1) (λ_=>rfl) ?_ ⟨0,by omega⟩ [] ?_
 . rintro ⟨k,hk⟩;dsimp only at hk ⊢;repeat' (first | (apply And.intro<;>intro hc<;>(first | exact Bool.noConfusion hc | (simp only [qm] at hc) | skip)) | (refine And.intro Ql ?_) | (apply And.intro) | (intro s hs))
   . have hk' : k < L.length:=by omega
     obtain ⟨w,hw⟩ : ∃ w,L.getD k [] = w:=⟨_,rfl⟩;have hwB : BL w:=by rw [<- hw];exact hL.get k
     obtain ⟨Q,hQ⟩ : ∃ Q,Q = (L.take k).flatten:=⟨_,rfl⟩;have hQw : Q.length + w.length <= 281474976710000:=by
      have h1:=zG6 L (k + 1);rw [zDx hk',List.length_append,hw,<- hQ] at h1;omega
     rw [<- hQ];refine zp (ZE ZG) (λs : {i : Nat // i <= w.length}=>(⟨[(3,one (.int .u64 (qw (Q ++ w.take s.1)))),(4,one (.bool (hiB (Q ++ w.take s.1)))),(9,one (.sl false L.length 1 (zC6 eB L))),(10,one (.int .i64 (L.length : Int))),(11,one (.int .i64 (k : Int))),(15,one (.sl false w.length eB.sz (zn eB w))),(16,one (.int .i64 (w.length : Int))),(17,one (.int .i64 (s.1 : Int)))],[],0⟩ : Hd)) (λs=>w.length - s.1) (λ_=>rfl) ?_ ⟨0,by omega⟩ [] ?_
     . rintro ⟨i,hi⟩;dsimp only at hi ⊢;have hx:=hwB.get i;obtain ⟨c,hcc⟩ : ∃ c,c = w.getD i default:=⟨_,rfl⟩;rw [<- hcc] at hx;have hle:=totI_le (Q ++ w.take i);have hlen : (Q ++ w.take i).length <= 281474976710000:=by rw [List.length_append,List.length_take];omega
       have hstep : i < w.length -> Q ++ w.take (i + 1) = (Q ++ w.take i) ++ [c]:=λh=>by rw [QC h,<- List.append_assoc,hcc]
       have e1 : IntKind.u64.wrap c = c:=IntWalk.u64_in _ (by omega);have e2 : zCZ .u64 (IntKind.u64.wrap c) 8 = c * 256:=by rw [e1];exact shl8 c (by omega)
       repeat' (first | (apply And.intro<;>intro hc<;>(first | exact Bool.noConfusion hc | (simp only [qm] at hc) | skip)) | (refine And.intro Ql ?_) | (apply And.intro) | (intro s hs))
       . have hlt : i < w.length:=by omega
         refine ⟨⟨i + 1,by omega⟩,[],by dsimp only<;>omega,rfl,?_,?_⟩
         . repeat' (first | exact qH | refine zF ?_ | refine zC ?_ | exact qI | apply And.intro)
           . have ht:=zG5 (Q ++ w.take i) c hx ‹_›;show _ = ((qw (Q ++ w.take (i + 1)) : Nat) : Int);rw [hstep hlt,ht,<- e2];exact (congrArg _ (by rw [hcc];rfl)).trans (IntWalk.u64_in _ (by omega))
           . show _ = hiB (Q ++ w.take (i + 1));rw [hstep hlt,zHz]
           . exact zaw
         . exact QI
       . have hlt : i < w.length:=by omega
         refine ⟨⟨i + 1,by omega⟩,[],by dsimp only<;>omega,rfl,?_,?_⟩
         . repeat' (first | exact qH | refine zF ?_ | refine zC ?_ | exact qI | apply And.intro)
           . have ht:=totI_lo (Q ++ w.take i) c hx ‹_›;show _ = ((qw (Q ++ w.take (i + 1)) : Nat) : Int);rw [hstep hlt,ht,<- e1];exact (congrArg _ (by rw [hcc];rfl)).trans (IntWalk.u64_in _ (by omega))
           . show _ = hiB (Q ++ w.take (i + 1));rw [hstep hlt,zHz]
           . exact zaw
         . exact QI
       . have hend : Q ++ w.take i = (L.take (k + 1)).flatten:=by rw [List.take_of_length_le (by omega),zDx hk',hw,hQ]
         refine ⟨⟨k + 1,by omega⟩,[],by dsimp only<;>omega,rfl,?_,?_⟩
         . repeat' (first | exact qH | refine zF ?_ | refine zC ?_ | exact qI | apply And.intro)
           . show _ = ((qw (L.take (k + 1)).flatten : Nat) : Int);rw [hend]
           . show _ = hiB (L.take (k + 1)).flatten;rw [hend]
           . exact zaw
         . exact QI
     . refine ⟨rfl,?_,?_⟩
       . repeat' (first | exact qH | refine zF ?_ | refine zC ?_ | exact qI | apply And.intro)
         . show _ = ((qw (Q ++ []) : Nat) : Int);rw [List.append_nil]
         . show _ = hiB (Q ++ []);rw [List.append_nil]
         . exact qM (qh (λh=>by cases h) (by rw [<- hw];rfl) rfl λi hi j hj=>qd (E:=eB) (by rw [<- hw];rfl))
         . exact congrArg _ (congrArg _ hw)
       . exact QI
   . refine Done.mk (zF ?_);rw [List.take_of_length_le (by omega)]
 . refine ⟨rfl,?_,?_⟩
   . exact QI
   . exact QI
def llE {R : Type} (p : List (List Int) -> Prop) (F : List (List Int) -> R) (enc : R -> FV) : ZD:=λargs H _ _=>
 match args with
 | [.e (.c (.sl _ n s f))]=>bif Nat.beq s 1 then some λK=>∃ L,(f = zC6 eB L /\ n = L.length) /\ p L /\ K (enc (F L)) [] [] else none
 | _=>none
theorem llE_ok {R : Type} {p : List (List Int) -> Prop} {F : List (List Int) -> R} {enc : R -> FV} {P : Program} {f : FuncId} (hb : YS P f) (h : ∀ L,p L -> zY P f [(cLL eB Zb).enc L] (enc (F L))) : EntOk P f (llE p F enc):=by
 refine ⟨λargs H nm wd q _ hq K hK=>?_,λargs H nm wd q hq K K' hKK hK=>?_⟩
 . unfold llE at hq;split at hq
   . rename_i sh n s g;obtain ⟨hs,hq⟩:=ZN hq;subst hq;obtain ⟨L,⟨rfl,rfl⟩,hp,hK⟩:=hK;have hs:=Nat.eq_of_beq_eq_true hs;subst hs;refine ⟨_,_,_,zE2 hb (args':=[(cLL eB Zb).enc L]) (rd:=[]) (λH' _=>⟨rfl,λi x y hx hy=>?_⟩) (h L hp),hK⟩;cases i with
     | zero=>
       simp only [List.getElem?_cons_zero,Option.some.injEq] at hx hy;subst hx hy;rintro cx r w v st ⟨a,cap,rfl,h1,h2⟩;refine ⟨a,cap,rfl,h1,λh0=>?_⟩;obtain ⟨ad,rfl,hsp,ho,hX,hlt,hc⟩:=h2 h0;refine ⟨ad,rfl,hsp,λ⟨k,e,x,q1,q2,q3,_⟩=>ho ⟨k,e,x,q1,q2,q3⟩,(λh=>by cases h),hlt,λi hi j hj=>?_⟩;obtain ⟨u,hu,hr⟩:=hc i hi j hj;refine ⟨u,hu,?_⟩;obtain ⟨a',cap',rfl,g1,g2⟩:=hr;refine ⟨a',cap',rfl,g1,λh0'=>?_⟩;obtain ⟨ad',rfl,hsp',ho',hX',hlt',hc'⟩:=g2 h0';refine ⟨ad',rfl,hsp',λ⟨k,e,x,q1,q2,q3,_⟩=>ho' ⟨k,e,x,q1,q2,q3⟩,(λh=>by cases h),hlt',λi' hi' j' hj'=>?_⟩;obtain ⟨u',hu',hr'⟩:=hc' i' hi' j' hj';exact ⟨u',hu',(eB.flat _ _) _ _ _ _ _ _ _ _ _ hr'⟩
     | succ i=>cases i<;>cases hx
   . cases hq
 . unfold llE at hq;split at hq
   . obtain ⟨hs,hq⟩:=ZN hq;subst hq;obtain ⟨L,h1,h2,h3⟩:=hK;exact ⟨L,h1,h2,hKK _ _ _ h3⟩
   . cases hq
def LSm0 : Qb:=(134,some (llE (λL=>BLL L /\ L.length <= 4611686018427387904 /\ L.flatten.length <= 281474976710000) (λL=>(qw L.flatten : Int)) (cI .u64).enc)) ::
 (133,some (ZH (AC.cons (cI .u64) AC.nil) (λa=>0 <= a.1 /\ a.1 <= 4611686018427387904) (λa=>(qK a.1.toNat : Int)) (cI .u16).enc)) ::
 (120,some (ZH (AC.cons (cI .i64) AC.nil) (λa=>0 <= a.1 /\ a.1 <= 4611686018427387904) (λa=>(qK a.1.toNat : Int)) (cI .u16).enc)) :: []
theorem zEd : ZC Tryz.prog LSm0:=⟨llE_ok ⟨_,Tryz.func134,rfl,by kernel_rfl⟩ λL h=>total_ok L h.1 h.2.1 h.2.2,
 zO ⟨_,Tryz.func133,rfl,by kernel_rfl⟩ λa h=>by have:=fold_ok a.1.toNat (by omega);rw [show ((a.1.toNat : Nat) : Int) = a.1 by omega] at this;exact this,
 zO ⟨_,Tryz.func120,rfl,by kernel_rfl⟩ λa h=>by have:=rfold_ok a.1.toNat (by omega);rw [show ((a.1.toNat : Nat) : Int) = a.1 by omega] at this;exact this,trivial⟩
theorem inet_ok (L : List (List Int)) (hL : BLL L) (hn : L.length <= 16) (hf : L.flatten.length <= 70368744177664) : zY Tryz.prog 121 [(cLL eB Zb).enc L] ((cI .u16).enc (zB9 L.flatten)):=by
 have ht:=totI_le L.flatten;have hF:=zDP (qw L.flatten);refine zG (wd:=1) (by decide) zM (zT zEd) zN Tryz.func121 rfl _ (by show 1 <= _;decide) _ ?_;refine ⟨L,⟨rfl,rfl⟩,⟨hL,by omega,by omega⟩,?_⟩;refine ⟨⟨by dsimp only;omega,by dsimp only;omega⟩,λs hs=>?_⟩;have hs' : s = (qK (qw L.flatten) : Int):=hs;subst hs';exact Done.mk (zF (IntWalk.u16_in _ (by omega)))
structure SuS (l : List Int) where
 k : Nat
 hk : k % 2 = 0
 hle : k <= l.length + 1
theorem zFb {l : List Int} {k : Nat} (h : k <= l.length) : hiB (l.take k) = decide (k % 2 = 0):=by unfold hiB;rw [List.length_take,Nat.min_eq_left h]
theorem totI_two {l : List Int} (hl : BL l) {k : Nat} (hk : k + 1 < l.length) (he : k % 2 = 0) : (qw (l.take (k + 2)) : Int) = qw (l.take k) + (256 * l.getD k default + l.getD (k + 1) default):=by
 rw [QC hk,totI_lo _ _ (hl.get _) (by rw [zFb (by omega)];simp;omega),QC (by omega),zG5 _ _ (hl.get _) (by rw [zFb (by omega)];simp;omega)];omega
theorem totI_one {l : List Int} (hl : BL l) {k : Nat} (hk : k + 1 = l.length) (he : k % 2 = 0) : (qw (l.take (k + 2)) : Int) = qw (l.take k) + 256 * l.getD k default:=by
 have e : l.take (k + 2) = l.take k ++ [l.getD k default]:=by rw [<- QC (by omega),List.take_of_length_le (by omega),List.take_of_length_le (by omega)]
 rw [e,zG5 _ _ (hl.get _) (by rw [zFb (by omega)];simp;omega)];omega
theorem rsum_ok (l : List Int) (hl : BL l) (hn : l.length <= 70368744177664) : zY Tryz.prog 87 [(qf eB Zb).enc l] ((cI .u16).enc (qK (qw l))):=by
 refine zG (wd:=1) (by decide) zM (zT zEd) zN Tryz.func87 rfl _ (by show 1 <= _;decide) _ ?_;repeat' (first | (apply And.intro<;>intro hc<;>(first | exact Bool.noConfusion hc | (simp only [qm] at hc) | skip)) | (refine And.intro Ql ?_) | (apply And.intro) | (intro s hs))
 refine zp (ZE zEd) (λs : SuS l=>(⟨[(0,one (.sl false l.length eB.sz (zn eB l))),(3,one (.int .u16 (qK (qw (l.take s.k))))),(4,one (.int .i64 (s.k : Int)))],[],0⟩ : Hd)) (λs=>l.length + 1 - s.k) (λ_=>rfl) ?_ ⟨0,by omega,by omega⟩ [] ?_
 . rintro ⟨k,hk,hle⟩;dsimp only at hk hle ⊢;have hF:=zDP (qw (l.take k));have x1:=hl.get k;have x2:=hl.get (k + 1);have w1 : IntKind.i64.wrap (256 * l.getD k default) = 256 * l.getD k default:=IntWalk.i64_in _ (by omega);have w2 : IntKind.i64.wrap ((k : Int) + 1) = k + 1:=IntWalk.i64_in _ (by omega);have w3 : IntKind.i64.wrap (l.getD k default) = l.getD k default:=IntWalk.i64_in _ (by omega);have w4 : IntKind.i64.wrap (l.getD (k + 1) default) = l.getD (k + 1) default:=IntWalk.i64_in _ (by omega);have w5 : IntKind.i64.wrap (qK (qw (l.take k)) : Int) = qK (qw (l.take k)):=IntWalk.i64_in _ (by omega);have w6 : IntKind.i64.wrap (256 * l.getD k default + l.getD (k + 1) default) = 256 * l.getD k default + l.getD (k + 1) default:=IntWalk.i64_in _ (by omega);have w7 : IntKind.i64.wrap ((qK (qw (l.take k)) : Int) + (256 * l.getD k default + l.getD (k + 1) default)) = qK (qw (l.take k)) + (256 * l.getD k default + l.getD (k + 1) default):=IntWalk.i64_in _ (by omega);have w8 : IntKind.i64.wrap ((qK (qw (l.take k)) : Int) + 256 * l.getD k default) = qK (qw (l.take k)) + 256 * l.getD k default:=IntWalk.i64_in _ (by omega);have w9 : IntKind.i64.wrap ((k : Int) + 2) = k + 2:=IntWalk.i64_in _ (by omega);have q1 : IntKind.i64.wrap (IntKind.i64.wrap (qK (qw (l.take k)) : Int) + IntKind.i64.wrap (IntKind.i64.wrap (256 * IntKind.i64.wrap (l.getD (k : Int).toNat default)) + IntKind.i64.wrap (l.getD (IntKind.i64.wrap ((k : Int) + 1)).toNat default))) = qK (qw (l.take k)) + (256 * l.getD k default + l.getD (k + 1) default):=by
    rw [Int.toNat_natCast,w2,show ((k : Int) + 1).toNat = k + 1 by omega,w3,w4,w1,w6,w5,w7]
   have q2 : IntKind.i64.wrap (IntKind.i64.wrap (qK (qw (l.take k)) : Int) + IntKind.i64.wrap (256 * IntKind.i64.wrap (l.getD (k : Int).toNat default))) = qK (qw (l.take k)) + 256 * l.getD k default:=by
    rw [Int.toNat_natCast,w3,w1,w5,w8]
   repeat' (first | (apply And.intro<;>intro hc<;>(first | exact Bool.noConfusion hc | (simp only [qm] at hc) | skip)) | (refine And.intro Ql ?_) | (apply And.intro) | (intro s hs))
   . have hs' : s = (qK (IntKind.i64.wrap (IntKind.i64.wrap (qK (qw (l.take k)) : Int) + IntKind.i64.wrap (IntKind.i64.wrap (256 * IntKind.i64.wrap (l.getD (k : Int).toNat default)) + IntKind.i64.wrap (l.getD (IntKind.i64.wrap ((k : Int) + 1)).toNat default)))).toNat : Int):=hs;rw [q1] at hs';have ht:=totI_two hl (k:=k) (by omega) hk;have e : ((qK (qw (l.take k)) : Int) + (256 * l.getD k default + l.getD (k + 1) default)).toNat = qK (qw (l.take k)) + (256 * l.getD k default + l.getD (k + 1) default).toNat:=by omega
     rw [e,zGH,show qw (l.take k) + (256 * l.getD k default + l.getD (k + 1) default).toNat = qw (l.take (k + 2)) by omega] at hs';refine ⟨⟨k + 2,by omega,by omega⟩,[],by dsimp only<;>omega,rfl,?_,?_⟩
     . repeat' (first | exact qH | refine zF ?_ | refine zC ?_ | exact qI | apply And.intro)
       . exact hs'
       . exact zaw
     . exact QI
   . have hs' : s = (qK (IntKind.i64.wrap (IntKind.i64.wrap (qK (qw (l.take k)) : Int) + IntKind.i64.wrap (256 * IntKind.i64.wrap (l.getD (k : Int).toNat default)))).toNat : Int):=hs;rw [q2] at hs';have ht:=totI_one hl (k:=k) (by omega) hk;have e : ((qK (qw (l.take k)) : Int) + 256 * l.getD k default).toNat = qK (qw (l.take k)) + (256 * l.getD k default).toNat:=by omega
     rw [e,zGH,show qw (l.take k) + (256 * l.getD k default).toNat = qw (l.take (k + 2)) by omega] at hs';refine ⟨⟨k + 2,by omega,by omega⟩,[],by dsimp only<;>omega,rfl,?_,?_⟩
     . repeat' (first | exact qH | refine zF ?_ | refine zC ?_ | exact qI | apply And.intro)
       . exact hs'
       . exact zaw
     . exact QI
   . refine Done.mk (zF ?_);rw [List.take_of_length_le (by omega)]
 . refine ⟨rfl,?_,?_⟩
   . exact QI
   . exact QI
def LSm1 : Qb:=(87,some (ZH (AC.cons (qf eB Zb) AC.nil) (λa=>BL a.1 /\ a.1.length <= 70368744177664) (λa=>(qK (qw a.1) : Int)) (cI .u16).enc)) :: LSm0
theorem LSm1_ok : ZC Tryz.prog LSm1:=⟨zO ⟨_,Tryz.func87,rfl,by kernel_rfl⟩ λa h=>rsum_ok a.1 h.1 h.2,zEd⟩
theorem rinet_ok (L : List (List Int)) (hL : BLL L) (hn : L.length <= 16) (hf : L.flatten.length <= 70368744177664) : zY Tryz.prog 55 [(cLL eB Zb).enc L] ((cI .u16).enc (zB9 L.flatten)):=by
 have hF:=zDP (qw L.flatten);refine zG (wd:=1) (by decide) zM (zT LSm1_ok) zN Tryz.func55 rfl _ (by show 1 <= _;decide) _ ?_;repeat' (first | (apply And.intro<;>intro hc<;>(first | exact Bool.noConfusion hc | (simp only [qm] at hc) | skip)) | (refine And.intro Ql ?_) | (apply And.intro) | (intro s hs))
 refine zp (ZE LSm1_ok) (λs : {k : Nat // k <= L.length}=>(⟨[(0,one (.sl false L.length 1 (zC6 eB L))),(3,one (.os 40 0 (L.take s.1).flatten.length)),(4,one (.int .i64 (s.1 : Int)))],[(40,some (qD eB 5 (L.take s.1).flatten))],41⟩ : Hd)) (λs=>L.length - s.1) (λ_=>rfl) ?_ ⟨0,by omega⟩ [(40,none)] ?_
 . rintro ⟨k,hk⟩;dsimp only at hk ⊢;have hle:=zG6 L (k + 1);obtain ⟨Q,hQ⟩ : ∃ Q,Q = (L.take k).flatten:=⟨_,rfl⟩;have hQl : Q.length <= 70368744177664:=by have:=zG6 L k;rw [hQ];omega
   have hnext : k < L.length -> (L.take (k + 1)).flatten = Q ++ L.getD k []:=λh=>by rw [zDx h,hQ]
   have hbd : k < L.length -> Q.length + (L.getD k []).length <= 70368744177664:=λh=>by rw [hnext h,List.length_append] at hle;omega
   rw [<- hQ];repeat' (first | (apply And.intro<;>intro hc<;>(first | exact Bool.noConfusion hc | (simp only [qm] at hc) | skip)) | (refine And.intro Ql ?_) | (apply And.intro) | (intro s hs))
   all_goals first
    | exact rfl
    | (have:=hbd (by omega);rw [Int.natCast_one,Int.one_mul];omega)
    | (have:=hbd (by omega);rw [Int.toNat_natCast];omega)
    | omega
    | skip
   . have hk' : k < L.length:=by omega
     refine ⟨⟨k + 1,by omega⟩,[(40,some 50)],by dsimp only<;>omega,rfl,?_,?_⟩
     . repeat' (first | exact qH | refine zF ?_ | refine zC ?_ | exact qI | apply And.intro)
       . refine qM (zy rfl ?_);show _ = (L.take (k + 1)).flatten.length;rw [hnext hk',List.length_append];rfl
       . exact zaw
     . repeat' (first | exact qH | refine zF ?_ | refine zC ?_ | exact qI | apply And.intro)
       show LeN _ _ (qD eB _ (L.take (k + 1)).flatten);rw [hnext hk'];refine leN_app (E:=eB) rfl (λi hi j hj=>zCG (Nat.ble_eq_true_of_le hi) (Elem.flat _ _ _).le) λi hi j hj=>?_;refine zAl ?_ ?_
       . cases hb : Nat.blt (Q.length + i) Q.length with
         | false=>rfl
         | true=>have:=Nat.le_of_ble_eq_true hb;omega
       . rw [show Q.length + i - Q.length = i by omega];exact qd (E:=eB) rfl
   . dsimp only;rw [Zv,hQ,List.take_of_length_le (by omega)];exact hL.flat
   . dsimp only;rw [Zv];exact hQl
   . have hs' : s = (qK (qw L.flatten) : Int):=by
      refine hs.trans ?_;dsimp only;rw [Zv,hQ,List.take_of_length_le (by omega)]
     subst hs';exact Done.mk (zF (IntWalk.u16_in _ (by omega)))
 . refine ⟨rfl,?_,?_⟩
   . repeat' (first | exact qH | refine zF ?_ | refine zC ?_ | exact qI | apply And.intro)
     exact qM (qN rfl)
   . repeat' (first | exact qH | refine zF ?_ | refine zC ?_ | exact qI | apply And.intro)
     exact Zb
abbrev inetE : ZD:=ZH (AC.cons (cLL eB Zb) AC.nil) (λa=>BLL a.1 /\ a.1.length <= 16 /\ a.1.flatten.length <= 70368744177664) (λa=>zB9 a.1.flatten) (cI .u16).enc
def LSm : Qb:=(121,some inetE) :: (55,some inetE) :: (78,some zEx) :: (32,some zEx) :: (89,some uintE) :: (66,some uintE) :: (29,some sameE) :: []
theorem zG7 : ZC Tryz.prog LSm:=⟨zO ⟨_,Tryz.func121,rfl,by kernel_rfl⟩ λa h=>inet_ok a.1 h.1 h.2.1 h.2.2,zO ⟨_,Tryz.func55,rfl,by kernel_rfl⟩ λa h=>rinet_ok a.1 h.1 h.2.1 h.2.2,zHV,zEy,ouintE_ok,ruintE_ok,sameE_ok,trivial⟩
structure Hdr where
 cls : Int
 flow : Int
 nxt : Int
 hops : Int
 src : Fin 16 -> Int
 dst : Fin 16 -> Int
 sp : Int
 dp : Int
def eHdC (x : Hdr) (j : Nat) : CV:=bif Nat.beq j 0 then .int .u8 x.cls else bif Nat.beq j 1 then .int .u32 x.flow else bif Nat.beq j 2 then .int .u8 x.nxt else bif Nat.beq j 3 then .int .u8 x.hops else bif Nat.blt j 20 then .int .u8 (zQ x.src (j - 4)) else bif Nat.blt j 36 then .int .u8 (zQ x.dst (j - 20)) else bif Nat.beq j 36 then .int .u16 x.sp else (.int .u16 x.dp)
def Yv : Elem Hdr where
 sz:=38
 cell:=eHdC
 rd g:=⟨qY (g 0),qY (g 1),qY (g 2),qY (g 3),λq=>qY (g (4 + q.1)),λq=>qY (g (20 + q.1)),qY (g 36),qY (g 37)⟩
 ok g:=isK .u8 (g 0) && isK .u32 (g 1) && isK .u8 (g 2) && isK .u8 (g 3) && okA .u8 g 4 16 && okA .u8 g 20 16 && isK .u16 (g 36) && isK .u16 (g 37)
 ok_eq g h j hj:=by
  simp only [Bool.and_eq_true] at h;unfold eHdC;by_cases c0 : j < 1
  . have e : j = 0:=by omega
    subst e;exact Qo h.1.1.1.1.1.1.1
  by_cases c1 : j < 2
  . have e : j = 1:=by omega
    subst e;exact Qo h.1.1.1.1.1.1.2
  by_cases c2 : j < 3
  . have e : j = 2:=by omega
    subst e;exact Qo h.1.1.1.1.1.2
  by_cases c3 : j < 4
  . have e : j = 3:=by omega
    subst e;exact Qo h.1.1.1.1.2
  by_cases c4 : j < 20
  . have e:=zE0 h.1.1.1.2 (j - 4) (by omega);rw [show 4 + (j - 4) = j by omega] at e;have b0 : Nat.beq j 0 = false:=by cases hb : Nat.beq j 0 with | false=>rfl | true=>have:=Nat.eq_of_beq_eq_true hb;omega
    have b1 : Nat.beq j 1 = false:=by cases hb : Nat.beq j 1 with | false=>rfl | true=>have:=Nat.eq_of_beq_eq_true hb;omega
    have b2 : Nat.beq j 2 = false:=by cases hb : Nat.beq j 2 with | false=>rfl | true=>have:=Nat.eq_of_beq_eq_true hb;omega
    have b3 : Nat.beq j 3 = false:=by cases hb : Nat.beq j 3 with | false=>rfl | true=>have:=Nat.eq_of_beq_eq_true hb;omega
    rw [b0,cond_false,b1,cond_false,b2,cond_false,b3,cond_false,show Nat.blt j 20 = true from Nat.ble_eq_true_of_le c4,cond_true];rw [show zQ (λq : Fin 16=>qY (g (4 + q.1))) (j - 4) = qY (g (4 + (j - 4))) from ZV _ (by omega)];rw [show 4 + (j - 4) = j by omega];exact e
  by_cases c5 : j < 36
  . have e:=zE0 h.1.1.2 (j - 20) (by omega);rw [show 20 + (j - 20) = j by omega] at e;have b0 : Nat.beq j 0 = false:=by cases hb : Nat.beq j 0 with | false=>rfl | true=>have:=Nat.eq_of_beq_eq_true hb;omega
    have b1 : Nat.beq j 1 = false:=by cases hb : Nat.beq j 1 with | false=>rfl | true=>have:=Nat.eq_of_beq_eq_true hb;omega
    have b2 : Nat.beq j 2 = false:=by cases hb : Nat.beq j 2 with | false=>rfl | true=>have:=Nat.eq_of_beq_eq_true hb;omega
    have b3 : Nat.beq j 3 = false:=by cases hb : Nat.beq j 3 with | false=>rfl | true=>have:=Nat.eq_of_beq_eq_true hb;omega
    have b4 : Nat.blt j 20 = false:=by cases hb : Nat.blt j 20 with | false=>rfl | true=>have:=Nat.le_of_ble_eq_true hb;omega
    rw [b0,cond_false,b1,cond_false,b2,cond_false,b3,cond_false,b4,cond_false,show Nat.blt j 36 = true from Nat.ble_eq_true_of_le c5,cond_true];rw [show zQ (λq : Fin 16=>qY (g (20 + q.1))) (j - 20) = qY (g (20 + (j - 20))) from ZV _ (by omega)];rw [show 20 + (j - 20) = j by omega];exact e
  by_cases c6 : j < 37
  . have e : j = 36:=by omega
    subst e;exact Qo h.1.2
  by_cases c7 : j < 38
  . have e : j = 37:=by omega
    subst e;exact Qo h.2
  omega
 flat a j:=by
  unfold eHdC;cases Nat.beq j 0 with
  | true=>exact ZO
  | false=>
  cases Nat.beq j 1 with
  | true=>exact ZO
  | false=>
  cases Nat.beq j 2 with
  | true=>exact ZO
  | false=>
  cases Nat.beq j 3 with
  | true=>exact ZO
  | false=>
  cases Nat.blt j 20 with
  | true=>exact ZO
  | false=>
  cases Nat.blt j 36 with
  | true=>exact ZO
  | false=>
  cases Nat.beq j 36 with
  | true=>exact ZO
  | false=>
  exact ZO
theorem zCv (x : Hdr) (q : Nat) (h : q < 16) : Yv.cell x (4 + q) = .int .u8 (zQ x.src q):=by
 show eHdC x (4 + q) = _;unfold eHdC;rw [show Nat.beq (4 + q) 0 = false from by cases hb : Nat.beq (4 + q) 0 with | false=>rfl | true=>have:=Nat.eq_of_beq_eq_true hb;omega,cond_false];rw [show Nat.beq (4 + q) 1 = false from by cases hb : Nat.beq (4 + q) 1 with | false=>rfl | true=>have:=Nat.eq_of_beq_eq_true hb;omega,cond_false];rw [show Nat.beq (4 + q) 2 = false from by cases hb : Nat.beq (4 + q) 2 with | false=>rfl | true=>have:=Nat.eq_of_beq_eq_true hb;omega,cond_false];rw [show Nat.beq (4 + q) 3 = false from by cases hb : Nat.beq (4 + q) 3 with | false=>rfl | true=>have:=Nat.eq_of_beq_eq_true hb;omega,cond_false];rw [show Nat.blt (4 + q) 20 = true from Nat.ble_eq_true_of_le (by omega),cond_true];rw [show 4 + q - 4 = q by omega]
theorem eHd_src (x : Hdr) : (λq : Fin 16=>qY (Yv.cell x (4 + q.1))) = x.src:=by
 funext q
 rw [zCv x q.1 q.2];exact ZV _ q.2
theorem zCw (x : Hdr) (q : Nat) (h : q < 16) : Yv.cell x (20 + q) = .int .u8 (zQ x.dst q):=by
 show eHdC x (20 + q) = _;unfold eHdC;rw [show Nat.beq (20 + q) 0 = false from by cases hb : Nat.beq (20 + q) 0 with | false=>rfl | true=>have:=Nat.eq_of_beq_eq_true hb;omega,cond_false];rw [show Nat.beq (20 + q) 1 = false from by cases hb : Nat.beq (20 + q) 1 with | false=>rfl | true=>have:=Nat.eq_of_beq_eq_true hb;omega,cond_false];rw [show Nat.beq (20 + q) 2 = false from by cases hb : Nat.beq (20 + q) 2 with | false=>rfl | true=>have:=Nat.eq_of_beq_eq_true hb;omega,cond_false];rw [show Nat.beq (20 + q) 3 = false from by cases hb : Nat.beq (20 + q) 3 with | false=>rfl | true=>have:=Nat.eq_of_beq_eq_true hb;omega,cond_false];rw [show Nat.blt (20 + q) 20 = false from by cases hb : Nat.blt (20 + q) 20 with | false=>rfl | true=>have:=Nat.le_of_ble_eq_true hb;omega,cond_false];rw [show Nat.blt (20 + q) 36 = true from Nat.ble_eq_true_of_le (by omega),cond_true];rw [show 20 + q - 20 = q by omega]
theorem eHd_dst (x : Hdr) : (λq : Fin 16=>qY (Yv.cell x (20 + q.1))) = x.dst:=by
 funext q
 rw [zCw x q.1 q.2];exact ZV _ q.2
theorem eHd_rd (x : Hdr) : Yv.rd (Yv.cell x) = x:=by
 show (⟨x.cls,x.flow,x.nxt,x.hops,λq=>qY (Yv.cell x (4 + q.1)),λq=>qY (Yv.cell x (20 + q.1)),x.sp,x.dp⟩ : Hdr) = x;rw [eHd_src,eHd_dst]
abbrev Zz:=Hdr × List Int
abbrev cPk : Codec Zz:=cTail Yv eB Zb
theorem zHy (f g : Nat -> CV) (h : ∀ j,j < 38 -> f j = g j) : Yv.rd f = Yv.rd g:=by
 show Hdr.mk _ _ _ _ _ _ _ _ = Hdr.mk _ _ _ _ _ _ _ _;rw [h 0 (by omega),h 1 (by omega),h 2 (by omega),h 3 (by omega),h 36 (by omega),h 37 (by omega)];congr 1
 . funext q;rw [h (4 + q.1) (by omega)]
 . funext q;rw [h (20 + q.1) (by omega)]
theorem hd_tail (h : Hdr) (last : CV) : (Yv.rd λq=>QH Yv h last (0 + q)) = h:=by
 rw [zHy _ (Yv.cell h) λj hj=>by rw [Nat.zero_add];exact YD hj];exact eHd_rd h
theorem ZX (p : Zz) (last : CV) : ((Yv.rd λq=>QH Yv p.1 last (0 + q),Zw eB p.2.length (zn eB p.2)) : Zz) = p:=by rw [hd_tail,zx]
def ZP (a : Fin 16 -> Int) : Bool:=decide (zQ a 0 = 255)
theorem mcast_ok (a : Fin 16 -> Int) : zY Tryz.prog 73 [(cE (eA .u8 16)).enc a] (cB.enc (ZP a)):=by
 refine zG (wd:=1) (by decide) zM (zT ZG) zN Tryz.func73 rfl _ (by show 1 <= _;decide) _ ?_;repeat' (first | (apply And.intro<;>intro hc<;>(first | exact Bool.noConfusion hc | (simp only [qm] at hc) | skip)) | (refine And.intro Ql ?_) | (apply And.intro) | (intro s hs))
 exact Done.mk (zC rfl)
theorem rmcast_ok (a : Fin 16 -> Int) : zY Tryz.prog 22 [(cE (eA .u8 16)).enc a] (cB.enc (ZP a)):=by
 refine zG (wd:=1) (by decide) zM (zT ZG) zN Tryz.func22 rfl _ (by show 1 <= _;decide) _ ?_;repeat' (first | (apply And.intro<;>intro hc<;>(first | exact Bool.noConfusion hc | (simp only [qm] at hc) | skip)) | (refine And.intro Ql ?_) | (apply And.intro) | (intro s hs))
 exact Done.mk (zC rfl)
def ZB (p : Zz) : Int:=(if p.1.nxt = 17 then 48 else 40) + p.2.length
theorem size_ok (p : Zz) (hl : p.2.length <= 140737488355328) : zY Tryz.prog 62 [cPk.enc p] ((cI .i64).enc (ZB p)):=by
 refine zG (wd:=1) (by decide) zM (zT ZG) zN Tryz.func62 rfl _ (by show 1 <= _;decide) _ ?_;repeat' (first | (apply And.intro<;>intro hc<;>(first | exact Bool.noConfusion hc | (simp only [qm] at hc) | skip)) | (refine And.intro Ql ?_) | (apply And.intro) | (intro s hs))
 . refine Done.mk (zF ?_);unfold ZB;rw [if_pos hc];exact IntWalk.i64_in _ (by omega)
 . refine Done.mk (zF ?_);unfold ZB;rw [if_neg hc];exact IntWalk.i64_in _ (by omega)
def udpP (p : Zz) : Int:=if p.1.nxt = 17 then 8 else 0
theorem udp_ok (p : Zz) : zY Tryz.prog 43 [cPk.enc p] ((cI .i64).enc (udpP p)):=by
 refine zG (wd:=1) (by decide) zM (zT ZG) zN Tryz.func43 rfl _ (by show 1 <= _;decide) _ ?_;repeat' (first | (apply And.intro<;>intro hc<;>(first | exact Bool.noConfusion hc | (simp only [qm] at hc) | skip)) | (refine And.intro Ql ?_) | (apply And.intro) | (intro s hs))
 . exact Done.mk (zF (by unfold udpP;rw [if_pos hc]))
 . exact Done.mk (zF (by unfold udpP;rw [if_neg hc]))
abbrev PA : AC (Zz × Unit):=AC.cons cPk AC.nil
abbrev ipA : AC ((Fin 16 -> Int) × Unit):=AC.cons (cE (eA .u8 16)) AC.nil
abbrev sizeE : ZD:=ZH PA (λa=>a.1.2.length <= 140737488355328) (λa=>ZB a.1) (cI .i64).enc
abbrev mcastE : ZD:=ZH ipA (λ_=>True) (λa=>ZP a.1) cB.enc
def LPa : Qb:=(62,some sizeE) :: (43,some (ZH PA (λ_=>True) (λa=>udpP a.1) (cI .i64).enc)) :: (73,some mcastE) :: (22,some mcastE) :: LSm
theorem LPa_ok : ZC Tryz.prog LPa:=⟨zO ⟨_,Tryz.func62,rfl,by kernel_rfl⟩ λa h=>size_ok a.1 h,zO ⟨_,Tryz.func43,rfl,by kernel_rfl⟩ λa h=>udp_ok a.1,zO ⟨_,Tryz.func73,rfl,by kernel_rfl⟩ λa h=>mcast_ok a.1,zO ⟨_,Tryz.func22,rfl,by kernel_rfl⟩ λa h=>rmcast_ok a.1,zG7⟩
theorem zFa (p : Zz) (hl : p.2.length <= 140737488355328) : zY Tryz.prog 25 [cPk.enc p] ((cI .i64).enc (ZB p)):=by
 refine zG (wd:=1) (by decide) zM (zT LPa_ok) zN Tryz.func25 rfl _ (by show 1 <= _;decide) _ ?_;repeat' (first | (apply And.intro<;>intro hc<;>(first | exact Bool.noConfusion hc | (simp only [Zi] at hc<;>first | exact absurd rfl hc | skip) | skip)) | (refine And.intro Za ?_) | (apply And.intro) | (intro s hs;(have hs' : s = udpP p:=hs.trans (congrArg udpP (ZX p _)));clear hs;subst hs'))
 all_goals first
  | (refine Done.mk (zF ?_)
     unfold ZB udpP;split
     . rw [show IntKind.i64.wrap (40 + 8) = 48 from rfl];exact IntWalk.i64_in _ (by omega)
     . rw [show IntKind.i64.wrap (40 + 0) = 40 from rfl];exact IntWalk.i64_in _ (by omega))
  | exact rfl
def zj (p : Zz) : Bool:=decide (p.1.flow <= 1048575) && !ZP p.1.src && decide (ZB p <= 1280) && (decide (p.1.nxt = 17) || decide (p.1.sp = 0) && decide (p.1.dp = 0))
theorem zAx (h : Hdr) (last : CV) : ((eA .u8 16).rd λq=>QH Yv h last (0 + 4 + q)) = h.src:=by
 funext q
 show qY (QH Yv h last (0 + 4 + q.1)) = h.src q;rw [show 0 + 4 + q.1 = 4 + q.1 by omega,YD (show 4 + q.1 < 38 by omega),zCv _ _ q.2];exact ZV _ q.2
theorem pvalid_ok (p : Zz) (hl : p.2.length <= 140737488355328) : zY Tryz.prog 69 [cPk.enc p] (cB.enc (zj p)):=by
 refine zG (wd:=1) (by decide) zM (zT LPa_ok) zN Tryz.func69 rfl _ (by show 1 <= _;decide) _ ?_;repeat' (first | (apply And.intro<;>intro hc<;>(first | exact Bool.noConfusion hc | (simp only [Zi] at hc<;>first | exact absurd rfl hc | skip) | skip)) | (refine And.intro Za ?_) | (apply And.intro) | (intro s hs;(first | (have hs' : s = ZB p:=hs.trans (congrArg ZB (ZX p _))) | (have hs' : s = ZP p.1.src:=hs.trans (congrArg ZP (zAx p.1 _))));clear hs;subst hs'))
 all_goals first
  | (dsimp only;rw [zx];exact hl)
  | (refine Done.mk (zC ?_);unfold zj;simp [*];done)
  | (refine Done.mk (zC ?_);unfold zj;rw [Bool.eq_iff_iff];simp [*];omega)
abbrev validE : ZD:=ZH PA (λa=>a.1.2.length <= 140737488355328) (λa=>zj a.1) cB.enc
def LPb : Qb:=(25,some sizeE) :: (69,some validE) :: LPa
theorem LPb_ok : ZC Tryz.prog LPb:=⟨zO ⟨_,Tryz.func25,rfl,by kernel_rfl⟩ λa h=>zFa a.1 h,zO ⟨_,Tryz.func69,rfl,by kernel_rfl⟩ λa h=>pvalid_ok a.1 h,LPa_ok⟩
theorem zIW (p : Zz) (hl : p.2.length <= 140737488355328) : zY Tryz.prog 48 [cPk.enc p] (cB.enc (zj p)):=by
 refine zG (wd:=1) (by decide) zM (zT LPb_ok) zN Tryz.func48 rfl _ (by show 1 <= _;decide) _ ?_;repeat' (first | (apply And.intro<;>intro hc<;>(first | exact Bool.noConfusion hc | (simp only [Zi] at hc<;>first | exact absurd rfl hc | skip) | skip)) | (refine And.intro Za ?_) | (apply And.intro) | (intro s hs;(first | (have hs' : s = ZB p:=hs.trans (congrArg ZB (ZX p _))) | (have hs' : s = ZP p.1.src:=hs.trans (congrArg ZP (zAx p.1 _))));clear hs;subst hs'))
 all_goals first
  | (dsimp only;rw [zx];exact hl)
  | (refine Done.mk (zC ?_);unfold zj;simp [*];done)
  | (refine Done.mk (zC ?_);unfold zj;rw [Bool.eq_iff_iff];simp [*];omega)
  | skip
structure Num where
 val : Int
 n : Int
instance : Inhabited Num:=⟨⟨0,0⟩⟩
def eNumC (x : Num) (j : Nat) : CV:=bif Nat.beq j 0 then .int .u64 x.val else (.int .i64 x.n)
def eNum : Elem Num where
 sz:=2
 cell:=eNumC
 rd g:=⟨qY (g 0),qY (g 1)⟩
 ok g:=isK .u64 (g 0) && isK .i64 (g 1)
 ok_eq g h j hj:=by
  simp only [Bool.and_eq_true] at h;unfold eNumC;by_cases c0 : j < 1
  . have e : j = 0:=by omega
    subst e;exact Qo h.1
  by_cases c1 : j < 2
  . have e : j = 1:=by omega
    subst e;exact Qo h.2
  omega
 flat a j:=by
  unfold eNumC;cases Nat.beq j 0 with
  | true=>exact ZO
  | false=>
  exact ZO
theorem eNum_sz : 0 < eNum.sz:=by decide
def Yo (b : List Int) : List Num -> List Int
 | []=>b
 | x :: ns=>Yo (b ++ qk x.val x.n) ns
theorem zCS (v n : Int) : (qk v n).length <= 8:=by
 unfold qk;split
 . rw [zCN];omega
 . simp
theorem appN_len : ∀ (ns : List Num) (b : List Int),(Yo b ns).length <= b.length + 8 * ns.length:=by
 intro ns;induction ns with
 | nil=>intro b;simp [Yo]
 | cons x ns ih=>
   intro b;have h1:=ih (b ++ qk x.val x.n);have h2:=zCS x.val x.n;rw [Yo,List.length_cons];rw [List.length_append] at h1;omega
theorem appN_snoc : ∀ (ns : List Num) (b : List Int) (x : Num),Yo b (ns ++ [x]) = Yo b ns ++ qk x.val x.n:=by
 intro ns;induction ns with
 | nil=>intro b x;rfl
 | cons y ns ih=>intro b x;rw [List.cons_append,Yo,ih];rfl
theorem zFZ {l : List Num} {k : Nat} (h : k < l.length) : l.take (k + 1) = l.take k ++ [l.getD k default]:=by
 rw [List.take_succ_eq_append_getElem h,List.getD_eq_getElem?_getD,List.getElem?_eq_getElem h];rfl
theorem zIV (b : List Int) (ns : List Num) (hb : b.length <= 1048576) (hn : 0 < ns.length /\ ns.length <= 16) :
 ql Tryz.prog 116 [(qf eB Zb).enc b,(qf eNum eNum_sz).enc ns] (some (Yo b ns).length) none (qD eB 5 (Yo b ns)):=by
 refine ZR (wd:=1) (by decide) zM (zT zG7) zN Tryz.func116 rfl _ (by show 2 <= _;decide) (λi _ j _=>qU eB _ i j) ?_;repeat' (first | (apply And.intro<;>intro hc<;>(first | exact Bool.noConfusion hc | (simp only [qm] at hc) | skip)) | (refine And.intro Ql ?_) | (apply And.intro) | (intro s hs))
 refine zp (ZE zG7) (λs : {i : Nat // i <= ns.length}=>match s.1 with
  | 0=>(⟨[(0,one (.sl false b.length eB.sz (zn eB b))),(7,one (.sl false ns.length eNum.sz (zn eNum ns))),(8,one (.int .i64 (ns.length : Int))),(9,one (.int .i64 0))],[],41⟩ : Hd)
  | k + 1=>(⟨[(0,one (.os 40 0 (Yo b (ns.take (k + 1))).length)),(7,one (.sl false ns.length eNum.sz (zn eNum ns))),(8,one (.int .i64 (ns.length : Int))),(9,one (.int .i64 ((k + 1 : Nat) : Int)))],[(40,some (qD eB 5 (Yo b (ns.take (k + 1)))))],41⟩ : Hd)) (λs=>ns.length - s.1) (λs=>by obtain ⟨s,hs⟩:=s;cases s<;>rfl) ?_ ⟨0,by omega⟩ [] ?_
 . rintro ⟨k,hk⟩;cases k with
   | zero=>
     dsimp only at hk ⊢;have e0 : Yo b (ns.take 1) = b ++ qk (ns.getD 0 default).val (ns.getD 0 default).n:=by rw [zFZ hn.1];rfl
     repeat' (first | (apply And.intro<;>intro hc<;>(first | exact Bool.noConfusion hc | (simp only [qm] at hc) | skip)) | (refine And.intro Ql ?_) | (apply And.intro) | (intro s hs))
     all_goals first
      | (exfalso;omega)
      | (dsimp only;rw [zx];omega)
      | skip
     have hs' : s = Yo b (ns.take 1):=by
      rw [e0];refine hs.trans ?_;dsimp only;rw [zx];rfl
     subst hs';refine ⟨⟨1,by omega⟩,[(40,some 51)],by first | omega | (dsimp only;omega),rfl,?_,?_⟩
     . exact QI
     . repeat' (first | exact qH | refine zF ?_ | refine zC ?_ | exact qI | apply And.intro)
       exact qp
   | succ k=>
     dsimp only at hk ⊢;have hle:=appN_len (ns.take (k + 1)) b;rw [List.length_take] at hle;have e0 : k + 1 < ns.length -> Yo b (ns.take (k + 1 + 1)) = Yo b (ns.take (k + 1)) ++ qk (ns.getD (k + 1) default).val (ns.getD (k + 1) default).n:=λh=>by rw [zFZ h,appN_snoc]
     repeat' (first | (apply And.intro<;>intro hc<;>(first | exact Bool.noConfusion hc | (simp only [qm] at hc) | skip)) | (refine And.intro Ql ?_) | (apply And.intro) | (intro s hs))
     all_goals first
      | exact rfl
      | (dsimp only;rw [Zv];omega)
      | skip
     . have hlt : k + 1 < ns.length:=by omega
       have hs' : s = Yo b (ns.take (k + 1 + 1)):=by
        rw [e0 hlt];refine hs.trans ?_;dsimp only;rw [Zv];rfl
       subst hs';refine ⟨⟨k + 1 + 1,by omega⟩,[(40,some 51)],by first | omega | (dsimp only;omega),rfl,?_,?_⟩
       . repeat' (first | exact qH | refine zF ?_ | refine zC ?_ | exact qI | apply And.intro)
         . exact zaw
       . repeat' (first | exact qH | refine zF ?_ | refine zC ?_ | exact qI | apply And.intro)
         exact qp
     . have hkk : k + 1 = ns.length:=by omega
       rw [hkk,List.take_length];exact ⟨⟨some 40,qM (zy rfl rfl),qp⟩⟩
 . refine ⟨rfl,?_,?_⟩
   . exact QI
   . exact QI
def sum0 (l : List Int) : Int:=if zB9 l = 0 then 65535 else zB9 l
def zAV (b : List Int) : List Int:=(b.drop 8).take 32 ++ (qk ((b.length : Int) - 40) 4 ++ ([0,0,0,17] ++ ((b.drop 40).take 6 ++ ([0,0] ++ (b.drop 48)))))
theorem toL_dt (b : List Int) (a n : Nat) (h : a + n <= b.length) : (Zw eB n λi=>zn eB b (a + i)) = (b.drop a).take n:=by
 apply List.ext_getElem
 . rw [zS,List.length_take,List.length_drop];omega
 . intro i h1 h2;rw [zS] at h1;simp only [Zw,List.getElem_map,List.getElem_range,List.getElem_take,List.getElem_drop];show b.getD (a + i) default = _;rw [List.getD_eq_getElem?_getD,List.getElem?_eq_getElem (by omega)];rfl
theorem Yu (b : List Int) (a : Nat) (h : a <= b.length) : (Zw eB (b.length - a) λi=>zn eB b (a + i)) = b.drop a:=by
 rw [toL_dt b a (b.length - a) (by omega),List.take_of_length_le (by simp)]
theorem zAW (v n : Int) : BL (qk v n):=by
 unfold qk;split
 . exact beN_BL _ _
 . exact BL.nil
theorem cover_key {b : List Int} (hb : BL b) (hl : 48 <= b.length /\ b.length <= 1048576) {A B C D E F : List Int} (hA : A = (b.drop 8).take 32) (hB : B = qk ((b.length : Int) - 40) 4) (hC : C = [0,0,0,17]) (hD : D = (b.drop 40).take 6) (hE : E = [0,0]) (hF : F = b.drop 48) :
 [A,B,C,D,E,F].flatten = zAV b /\ BLL [A,B,C,D,E,F] /\ [A,B,C,D,E,F].flatten.length <= 70368744177664:=by
 subst hA hB hC hD hE hF;refine ⟨by simp [zAV],⟨λl h=>?_⟩,?_⟩
 . simp only [List.mem_cons,List.not_mem_nil,or_false] at h;rcases h with rfl | rfl | rfl | rfl | rfl | rfl
   . exact (hb.drop 8).take 32
   . exact zAW _ _
   . exact BL.cons (by omega) (BL.cons (by omega) (BL.cons (by omega) (BL.cons (by omega) BL.nil)))
   . exact (hb.drop 40).take 6
   . exact BL.cons (by omega) (BL.cons (by omega) BL.nil)
   . exact hb.drop 48
 . have h1:=zCS ((b.length : Int) - 40) 4;simp only [List.flatten_cons,List.flatten_nil,List.length_append,List.length_take,List.length_drop,List.length_cons,List.length_nil];omega
theorem udpSum_ok (b : List Int) (hb : BL b) (hl : 48 <= b.length /\ b.length <= 1048576) : zY Tryz.prog 90 [(qf eB Zb).enc b] ((cI .u16).enc (sum0 (zAV b))):=by
 have e1 : IntKind.i64.wrap ((b.length : Int) - 40) = b.length - 40:=IntWalk.i64_in _ (by omega);have e2 : IntKind.u64.wrap ((b.length : Int) - 40) = b.length - 40:=IntWalk.u64_in _ (by omega);have e3 : qk (IntKind.u64.wrap (IntKind.i64.wrap ((b.length : Int) - 40))) 4 = qk ((b.length : Int) - 40) 4:=by rw [e1,e2]
 have a1:=toL_dt b 8 32 (by omega);have a2:=toL_dt b 40 6 (by omega);have a3:=Yu b 48 (by omega);have kB : ∀ s : List Int,s = [] ++ qk (IntKind.u64.wrap (IntKind.i64.wrap ((b.length : Int) - 40))) 4 -> (Zw eB s.length λk j=>zn eB s (0 + k) j) = qk ((b.length : Int) - 40) 4:=λs h=>by rw [Zv,h,e3];rfl
 have k:=λs h=>cover_key hb hl a1 (kB s h) rfl a2 rfl a3;refine zG (wd:=1) (by decide) zM (zT zG7) zN Tryz.func90 rfl _ (by show 1 <= _;decide) _ ?_;repeat' (first | (apply And.intro<;>intro hc<;>(first | exact Bool.noConfusion hc | (simp only [qm] at hc) | skip)) | (refine And.intro Ql ?_) | (apply And.intro) | (intro s hs))
 all_goals first
  | exact rfl
  | exact Nat.zero_le _
  | exact (k _ ‹_›).2.1
  | exact (k _ ‹_›).2.2
  | exact (by decide : (6 : Nat) <= 16)
  | skip
 all_goals
  have hs' : s = zB9 (zAV b):=hs.trans (congrArg zB9 (k _ ‹_›).1);clear hs;subst hs';refine Done.mk (zF ?_);unfold sum0;first | rw [if_pos ‹_›] | rw [if_neg ‹_›]
def YN (a : Fin 16 -> Int) : List Int:=(List.range 16).map (zQ a)
theorem Zh (a : Fin 16 -> Int) : (YN a).length = 16:=by simp [YN]
def Qx (p : Zz) (sum : Int) : List Int:=
 qk (1610612736 + p.1.cls * 1048576 + p.1.flow) 4 ++ qk (ZB p - 40) 2 ++ [p.1.nxt,p.1.hops] ++ YN p.1.src ++ YN p.1.dst ++
  (if p.1.nxt = 17 then qk p.1.sp 2 ++ qk p.1.dp 2 ++ qk (ZB p - 40) 2 ++ qk sum 2 else []) ++ p.2
structure PkW (p : Zz) : Prop where
 cls : 0 <= p.1.cls /\ p.1.cls < 256
 flow : 0 <= p.1.flow /\ p.1.flow < 4294967296
 nxt : 0 <= p.1.nxt /\ p.1.nxt < 256
 hops : 0 <= p.1.hops /\ p.1.hops < 256
 src : ∀ i,0 <= zQ p.1.src i /\ zQ p.1.src i < 256
 dst : ∀ i,0 <= zQ p.1.dst i /\ zQ p.1.dst i < 256
 sp : 0 <= p.1.sp /\ p.1.sp < 65536
 dp : 0 <= p.1.dp /\ p.1.dp < 65536
 pay : BL p.2
def LPc : Qb:=(116,some (zBu (AC.cons (qf eB Zb) (AC.cons (qf eNum eNum_sz) AC.nil)) (λa=>a.1.length <= 1048576 /\ 0 < a.2.1.length /\ a.2.1.length <= 16) (λa=>Yo a.1 a.2.1) (λL=>some L.length) (λ_=>none) (λL=>qD eB 5 L))) ::
 (90,some (ZH (AC.cons (qf eB Zb) AC.nil) (λa=>BL a.1 /\ 48 <= a.1.length /\ a.1.length <= 1048576) (λa=>sum0 (zAV a.1)) (cI .u16).enc)) :: LPb
theorem LPc_ok : ZC Tryz.prog LPc:=⟨QF ⟨_,Tryz.func116,rfl,by kernel_rfl⟩ (λs l h=>by cases h) λa h=>zIV a.1 a.2.1 h.1 h.2,zO ⟨_,Tryz.func90,rfl,by kernel_rfl⟩ λa h=>udpSum_ok a.1 h.1 h.2,LPb_ok⟩
theorem beB1 (v : Int) (h : 0 <= v /\ v < 256) : qk v 1 = [v]:=by
 unfold qk;rw [if_pos (by omega)];show [v / 256 ^ 0 % 256] = [v];rw [Int.pow_zero,Int.ediv_one,Int.emod_eq_of_lt h.1 h.2]
structure IsRow (F : Nat -> Nat -> CV) (l : List Int) : Prop where
 at_ : ∀ k,k < l.length -> F k 0 = .int .u8 (l.getD k default)
theorem QK (l : List Int) : IsRow (zn eB l) l:=⟨λk _=>rfl⟩
theorem zEc {F : Nat -> Nat -> CV} {l : List Int} (h : IsRow F l) : IsRow (λk j=>F (0 + k) j) l:=⟨λk hk=>by show F (0 + k) 0 = _;rw [Nat.zero_add];exact h.at_ k hk⟩
theorem zG4 {a b : Nat} (h : b <= a) : Nat.blt a b = false:=by
 cases hb : Nat.blt a b with
 | false=>rfl
 | true=>have:=Nat.le_of_ble_eq_true hb;omega
theorem zD {A C : Nat -> Nat -> CV} {l1 l2 : List Int} {n : Nat} (hn : n = l1.length) (h1 : IsRow A l1) (h2 : ∀ k,k < l2.length -> C (n + k) 0 = .int .u8 (l2.getD k default)) : IsRow (λk j=>Zm (Nat.blt k n) (A k j) (C k j)) (l1 ++ l2):=⟨λk hk=>by
 rw [List.length_append] at hk;show Zm (Nat.blt k n) (A k 0) (C k 0) = _;subst hn;by_cases h : k < l1.length
 . rw [QO,zGg h,cond_true,h1.at_ k h,List.getD_eq_getElem?_getD,List.getD_eq_getElem?_getD,List.getElem?_append_left h]
 . obtain ⟨q,rfl⟩ : ∃ q,k = l1.length + q:=⟨k - l1.length,by omega⟩;rw [QO,zG4 (by omega),cond_false,h2 q (by omega),List.getD_eq_getElem?_getD,List.getD_eq_getElem?_getD,List.getElem?_append_right (by omega),show l1.length + q - l1.length = q by omega]⟩
theorem YX {F : Nat -> Nat -> CV} {l : List Int} {N : Nat} (hN : N = l.length) (h : IsRow F l) : Zw eB N F = l:=by
 subst hN;apply List.ext_getElem
 . rw [zS]
 . intro i g1 g2;simp only [Zw,List.getElem_map,List.getElem_range];show qY (F i 0) = _;rw [h.at_ i g2,List.getD_eq_getElem?_getD,List.getElem?_eq_getElem g2];rfl
theorem zGO {F : Nat -> Nat -> CV} {l : List Int} {s : Nat} (h : IsRow F l) (hs : s < l.length) : eB.ok (F s) = true:=by
 show isK .u8 (F s 0) = true;rw [h.at_ s hs];rfl
theorem leC_is {c : Wc} {F : Nat -> Nat -> CV} {l : List Int} (h : IsRow F l) {k : Nat} (hk : k < l.length) {j : Nat} (hj : j < 1) : LeC c (F k j) (zn eB l k j):=by
 obtain rfl : j = 0:=by omega
 rw [h.at_ k hk];exact zA rfl
theorem Zg {c : Wc} {F : Nat -> Nat -> CV} {l : List Int} {n : Nat} {t : TypeId} (hn : n = l.length) (h : IsRow F l) : LeN c ⟨t,n,eB.sz,false,F⟩ (qD eB t l):=zBe hn λi hi j hj=>leC_is h (by omega) hj
theorem toL_ip {B : Nat -> Nat -> CV} {a : Fin 16 -> Int} (h : ∀ k,k < 16 -> B k 0 = .int .u8 (zQ a k)) : Zw eB 16 B = YN a:=by
 unfold Zw YN;apply List.map_congr_left;intro k hk;show qY (B k 0) = _;rw [h k (List.mem_range.1 hk)];rfl
theorem zAJ {h : Hdr} {last : CV} {j k : Nat} (hj : j = 4 + k) (hk : k < 16) : QH Yv h last j = .int .u8 (zQ h.src k):=by
 subst hj;rw [YD (show 4 + k < 38 by omega)];exact zCv _ _ hk
theorem zAK {h : Hdr} {last : CV} {j k : Nat} (hj : j = 20 + k) (hk : k < 16) : QH Yv h last j = .int .u8 (zQ h.dst k):=by
 subst hj;rw [YD (show 20 + k < 38 by omega)];exact zCw _ _ hk
def encH (p : Zz) : List Int:=qk (1610612736 + p.1.cls * 1048576 + p.1.flow) 4 ++ qk (ZB p - 40) 2 ++ [p.1.nxt,p.1.hops]
def zCb (p : Zz) (sum : Int) : List Int:=qk p.1.sp 2 ++ qk p.1.dp 2 ++ qk (ZB p - 40) 2 ++ qk sum 2
theorem encB_eq (p : Zz) (sum : Int) : Qx p sum = ((encH p ++ YN p.1.src) ++ YN p.1.dst ++ (if p.1.nxt = 17 then zCb p sum else [])) ++ p.2:=by
 unfold Qx encH zCb;rfl
theorem zHx (p : Zz) (sum : Int) (hp : PkW p) (hl : p.2.length <= 2000) (hs : 0 <= sum /\ sum < 65536) : ql Tryz.prog 79 [cPk.enc p,(cI .u16).enc sum] (some (Qx p sum).length) none (qD eB 5 (Qx p sum)):=by
 have hsz : 40 <= ZB p /\ ZB p <= 4000:=by unfold ZB;split<;>omega
 have c1:=hp.cls;have c2:=hp.flow;have w1 : IntKind.u64.wrap p.1.cls = p.1.cls:=IntWalk.u64_in _ (by omega);have w2 : zCZ .u64 (IntKind.u64.wrap p.1.cls) 20 = p.1.cls * 1048576:=by
  rw [w1];unfold zCZ;rw [show min (20 : Int).toNat (IntKind.bits .u64) = 20 from rfl];exact IntWalk.u64_in _ (by omega)
 have w3 : IntKind.u64.wrap (IntKind.u64.wrap (1610612736 + zCZ .u64 (IntKind.u64.wrap p.1.cls) 20) + IntKind.u64.wrap p.1.flow) = 1610612736 + p.1.cls * 1048576 + p.1.flow:=by
  rw [w2,IntWalk.u64_in p.1.flow (by omega),IntWalk.u64_in (1610612736 + p.1.cls * 1048576) (by omega)];exact IntWalk.u64_in _ (by omega)
 have w4 : IntKind.u64.wrap (IntKind.i64.wrap (ZB p - 40)) = ZB p - 40:=by
  rw [IntWalk.i64_in _ (by omega)];exact IntWalk.u64_in _ (by omega)
 have hk:=hp.hops;have hnx:=hp.nxt;have hsp:=hp.sp;have hdp:=hp.dp;have n1 : Yo [] [⟨IntKind.u64.wrap (IntKind.u64.wrap (1610612736 + zCZ .u64 (IntKind.u64.wrap p.1.cls) 20) + IntKind.u64.wrap p.1.flow),4⟩,⟨IntKind.u64.wrap (IntKind.i64.wrap (ZB p - 40)),2⟩,⟨IntKind.u64.wrap p.1.nxt,1⟩,⟨IntKind.u64.wrap p.1.hops,1⟩] = encH p:=by
  unfold encH Yo Yo Yo Yo Yo;dsimp only;rw [w3,w4,IntWalk.u64_in p.1.nxt (by omega),IntWalk.u64_in p.1.hops (by omega),beB1 _ hnx,beB1 _ hk];simp
 have n2 : ∀ L,Yo L [⟨IntKind.u64.wrap p.1.sp,2⟩,⟨IntKind.u64.wrap p.1.dp,2⟩,⟨IntKind.u64.wrap (IntKind.i64.wrap (ZB p - 40)),2⟩,⟨IntKind.u64.wrap sum,2⟩] = L ++ zCb p sum:=λL=>by
  unfold zCb Yo Yo Yo Yo Yo;dsimp only;rw [w4,IntWalk.u64_in p.1.sp (by omega),IntWalk.u64_in p.1.dp (by omega),IntWalk.u64_in sum (by omega)];simp
 have hH : (encH p).length = 8:=by unfold encH qk;simp [zCN]
 have hU : (zCb p sum).length = 8:=by unfold zCb qk;simp [zCN]
 rw [encB_eq];obtain ⟨H0,eH0⟩ : ∃ H0,encH p = H0:=⟨_,rfl⟩;obtain ⟨U0,eU0⟩ : ∃ U0,zCb p sum = U0:=⟨_,rfl⟩;obtain ⟨sL,eS⟩ : ∃ sL,YN p.1.src = sL:=⟨_,rfl⟩;obtain ⟨dL,eD⟩ : ∃ dL,YN p.1.dst = dL:=⟨_,rfl⟩;have hS:=Zh p.1.src;have hD:=Zh p.1.dst;rw [eS] at hS;rw [eD] at hD;rw [eH0] at n1 hH;rw [eU0] at n2 hU;rw [eH0,eU0,eS,eD];have gS : ∀ k,k < 16 -> sL.getD k default = zQ p.1.src k:=λk hk=>by rw [<- eS];unfold YN;rw [List.getD_eq_getElem?_getD,List.getElem?_map,List.getElem?_range hk];rfl
 have gD : ∀ k,k < 16 -> dL.getD k default = zQ p.1.dst k:=λk hk=>by rw [<- eD];unfold YN;rw [List.getD_eq_getElem?_getD,List.getElem?_map,List.getElem?_range hk];rfl
 clear eS eD eU0 eH0;have row40 : ∀ {h : List Int} {last : CV},h.length = 8 -> IsRow (λk j=>(λk j=>Zm (Nat.blt k (h.length + (16 - 0))) ((λk j=>Zm (Nat.blt k h.length) (zn eB h k j) (QH Yv p.1 last (0 + 4 + 0 * 1 + ((k - h.length) * 1 + j)))) k j) (QH Yv p.1 last (0 + 20 + 0 * 1 + ((k - (h.length + (16 - 0))) * 1 + j)))) k j) (h ++ sL ++ dL):=fun {h last} hh=>by
  refine zD (by rw [List.length_append];omega) (zD rfl (QK h) λk hk=>?_) λk hk=>?_
  . rw [gS k (by omega)];exact zAJ (by omega) (by omega)
  . rw [gD k (by omega)];exact zAK (by omega) (by omega)
 by_cases hu : p.1.nxt = 17
 . rw [if_pos hu];refine ZR (wd:=1) (by decide) zM (zT LPc_ok) zN Tryz.func79 rfl _ (by show 2 <= _;decide) (λi _ j _=>qU eB _ i j) ?_;repeat' (first | (apply And.intro<;>intro hc<;>(first | exact Bool.noConfusion hc | (exfalso;first | exact absurd hu hc | exact absurd hc hu) | (simp only [Zi] at hc<;>first | exact absurd rfl hc | (exfalso;first | exact absurd hu hc | exact absurd hc hu) | skip) | skip)) | (refine And.intro Za ?_) | (apply And.intro) | (intro s hs;(first | (have hs' : s = ZB p:=hs.trans (congrArg ZB (ZX p _));clear hs;subst hs') | (have hs':=hs.trans n1;clear hs;subst hs') | (have hs':=hs.trans ((congrArg (λx=>Yo x _) (YX (by rw [List.length_append,List.length_append];omega) (zEc (row40 hH)))).trans (n2 _));clear hs;subst hs') | skip)))
   . dsimp only;rw [zx];omega
   . dsimp only;rw [zx];omega
   . rename_i hs4;rcases (show s = 0 \/ s = 1 \/ s = 2 \/ s = 3 by omega) with rfl | rfl | rfl | rfl<;>rfl
   . dsimp only;rw [zS];decide
   . dsimp only;rw [zS];decide
   . dsimp only;rw [zS];decide
   . omega
   . omega
   . exact zGO (zEc (row40 hH)) (by rw [List.length_append,List.length_append];omega)
   . rename_i hs4;rcases (show s = 0 \/ s = 1 \/ s = 2 \/ s = 3 by omega) with rfl | rfl | rfl | rfl<;>rfl
   . dsimp only;rw [zS];omega
   . dsimp only;rw [zS];decide
   . dsimp only;rw [zS];decide
   . rw [List.length_append,List.length_append,List.length_append];omega
   . rw [List.length_append,List.length_append,List.length_append];omega
   . refine ⟨⟨some 69,qM (zy rfl (List.length_append).symm),Zg (List.length_append).symm (zD rfl (QK _) λk hk=>?_)⟩⟩;show zn eB p.2 _ 0 = _;rw [Nat.add_sub_cancel_left];rfl
 . rw [if_neg hu,List.append_nil];refine ZR (wd:=1) (by decide) zM (zT LPc_ok) zN Tryz.func79 rfl _ (by show 2 <= _;decide) (λi _ j _=>qU eB _ i j) ?_;repeat' (first | (apply And.intro<;>intro hc<;>(first | exact Bool.noConfusion hc | (exfalso;first | exact absurd hu hc | exact absurd hc hu) | (simp only [Zi] at hc<;>first | exact absurd rfl hc | (exfalso;first | exact absurd hu hc | exact absurd hc hu) | skip) | skip)) | (refine And.intro Za ?_) | (apply And.intro) | (intro s hs;(first | (have hs' : s = ZB p:=hs.trans (congrArg ZB (ZX p _));clear hs;subst hs') | (have hs':=hs.trans n1;clear hs;subst hs') | skip)))
   . dsimp only;rw [zx];omega
   . dsimp only;rw [zx];omega
   . rename_i hs4;rcases (show s = 0 \/ s = 1 \/ s = 2 \/ s = 3 by omega) with rfl | rfl | rfl | rfl<;>rfl
   . dsimp only;rw [zS];decide
   . dsimp only;rw [zS];decide
   . dsimp only;rw [zS];decide
   . omega
   . omega
   . refine ⟨⟨some 51,qM (zy rfl (by rw [List.length_append,List.length_append,List.length_append];omega)),Zg (by rw [List.length_append,List.length_append,List.length_append];omega) (zD (by rw [List.length_append,List.length_append];omega) (row40 hH) λk hk=>?_)⟩⟩;show zn eB p.2 _ 0 = _;rw [Nat.add_sub_cancel_left];rfl
theorem zFY {a : Fin 16 -> Int} (h : ∀ i,0 <= zQ a i /\ zQ a i < 256) : BL (YN a):=⟨λx hx=>by
 unfold YN at hx;obtain ⟨i,_,rfl⟩:=List.mem_map.1 hx;exact h i⟩
theorem encB_BL {p : Zz} (hp : PkW p) (sum : Int) : BL (Qx p sum):=by
 unfold Qx;refine (((((zAW _ _).append (zAW _ _)).append (BL.cons hp.nxt (BL.cons hp.hops BL.nil))).append (zFY hp.src)).append (zFY hp.dst)).append ?_ |>.append hp.pay
 split
 . exact (((zAW _ _).append (zAW _ _)).append (zAW _ _)).append (zAW _ _)
 . exact BL.nil
theorem zAv (p : Zz) (sum : Int) : ((Qx p sum).length : Int) = ZB p:=by
 have h8 : (encH p).length = 8:=by unfold encH qk;simp [zCN]
 rw [encB_eq,List.length_append,List.length_append,List.length_append,List.length_append,Zh,Zh,h8];unfold ZB;split
 . have hU : (zCb p sum).length = 8:=by unfold zCb qk;simp [zCN]
   rw [hU];omega
 . rw [List.length_nil];omega
theorem zAw {p : Zz} (h : zj p = true) : ZB p <= 1280:=by
 unfold zj at h;simp only [Bool.and_eq_true,decide_eq_true_eq] at h;exact h.1.2
theorem YT {p : Zz} (h : zj p = true) : p.2.length <= 1240:=by
 have:=zAw h;unfold ZB at this;split at this<;>omega
abbrev encodingE : ZD:=zBu (AC.cons cPk (AC.cons (cI .u16) AC.nil)) (λa=>PkW a.1 /\ a.1.2.length <= 2000 /\ 0 <= a.2.1 /\ a.2.1 < 65536) (λa=>Qx a.1 a.2.1) (λL=>some L.length) (λ_=>none) (λL=>qD eB 5 L)
def LPd : Qb:=(79,some encodingE) :: LPc
theorem LPd_ok : ZC Tryz.prog LPd:=⟨QF ⟨_,Tryz.func79,rfl,by kernel_rfl⟩ (λs l h=>by cases h) λa h=>zHx a.1 a.2.1 h.1 h.2.1 h.2.2,LPc_ok⟩
def qZ (p : Zz) : Int:=if zj p = true /\ p.1.nxt = 17 then sum0 (zAV (Qx p 0)) else 0
theorem inetF_r (l : List Int) : 0 <= zB9 l /\ zB9 l < 65536:=by
 have:=zDP (qw l);unfold zB9;omega
theorem zBn (p : Zz) : 0 <= qZ p /\ qZ p < 65536:=by
 unfold qZ;split
 . unfold sum0;have:=inetF_r (zAV (Qx p 0));split<;>omega
 . omega
theorem zG3 (p : Zz) (hp : PkW p) (hl : p.2.length <= 140737488355328) : zY Tryz.prog 63 [cPk.enc p] ((cI .u16).enc (qZ p)):=by
 refine zG (wd:=1) (by decide) zM (zT LPd_ok) zN Tryz.func63 rfl _ (by show 1 <= _;decide) _ ?_;repeat' (first | (apply And.intro<;>intro hc<;>(first | exact Bool.noConfusion hc | (simp only [Zi] at hc<;>first | exact absurd rfl hc | skip) | skip)) | (refine And.intro Za ?_) | (apply And.intro) | (intro s hs;(first | (have hs' : s = zj p:=hs.trans (congrArg zj (ZX p _));clear hs;subst hs') | (have hq : s = Qx p 0:=hs.trans (congrArg (λx=>Qx x 0) (ZX p _));clear hs) | skip)))
 . dsimp only;rw [zx];exact hl
 . exact Done.mk (zF (by unfold qZ;rw [if_neg λh=>by first | exact absurd h.1 ‹_› | exact absurd h.2 ‹_› | exact Bool.noConfusion (h.1.symm.trans ‹_›)]))
 . exact Done.mk (zF (by unfold qZ;rw [if_neg λh=>by first | exact absurd h.1 ‹_› | exact absurd h.2 ‹_› | exact Bool.noConfusion (h.1.symm.trans ‹_›)]))
 . dsimp only;rw [ZX];exact hp
 . have hv : zj p = true:=by assumption
   have:=YT hv;dsimp only;rw [zx];omega
 . dsimp only;omega
 . exact rfl
 . dsimp only;rw [Zv,hq];exact encB_BL hp 0
 . dsimp only;rw [Zv,hq];have h1:=zAv p 0;have h2 : p.1.nxt = 17:=by assumption
   unfold ZB at h1;rw [if_pos h2] at h1;omega
 . dsimp only;rw [Zv,hq];have h1:=zAv p 0;have h2:=zAw (p:=p) ‹_›;omega
 . have hs' : s = sum0 (zAV (Qx p 0)):=by
    rw [hs];dsimp only;rw [Zv,hq]
   clear hs;refine Done.mk (zF ?_);rw [hs'];unfold qZ;rw [if_pos ⟨by assumption,by assumption⟩]
abbrev sumE : ZD:=ZH PA (λa=>PkW a.1 /\ a.1.2.length <= 140737488355328) (λa=>qZ a.1) (cI .u16).enc
def LPe : Qb:=(63,some sumE) :: LPd
theorem LPe_ok : ZC Tryz.prog LPe:=⟨zO ⟨_,Tryz.func63,rfl,by kernel_rfl⟩ λa h=>zG3 a.1 h.1 h.2,LPd_ok⟩
def zAC (p : Zz) : Option (List Int):=if zj p = true then some (Qx p (qZ p)) else none
def ecR (o : Option (List Int)) : Int:=if o.isSome then 0 else 1
abbrev zB8 (n : Int) : EV:=.c (.int .i64 n)
theorem zIU (p : Zz) (hp : PkW p) (hl : p.2.length <= 140737488355328) : ql Tryz.prog 47 [cPk.enc p] (some ((zAC p).getD []).length) (some [zB8 (ecR (zAC p))]) (qD eB 5 ((zAC p).getD [])):=by
 refine ZR (wd:=1) (by decide) zM (zT LPe_ok) zN Tryz.func47 rfl _ (by show 1 <= _;decide) (λi _ j _=>qU eB _ i j) ?_;repeat' (first | (apply And.intro<;>intro hc<;>(first | exact Bool.noConfusion hc | (simp only [Zi] at hc<;>first | exact absurd rfl hc | skip) | skip)) | (refine And.intro Za ?_) | (apply And.intro) | (intro s hs;(first | (have hs' : s = zj p:=hs.trans (congrArg zj (ZX p _));clear hs;subst hs') | (have hs' : s = qZ p:=hs.trans (congrArg qZ (ZX p _));clear hs;subst hs') | (have hq : s = Qx p (qZ p):=hs.trans (congrArg (λx=>Qx x (qZ p)) (ZX p _));clear hs) | skip)))
 . dsimp only;rw [zx];exact hl
 . have e : zAC p = none:=if_neg (λh=>by simp_all);rw [e];exact ⟨⟨none,zE ⟨qN rfl,zA rfl,trivial⟩,rfl,rfl,by decide⟩⟩
 . dsimp only;rw [ZX];exact hp
 . dsimp only;rw [zx];exact hl
 . dsimp only;rw [ZX];exact hp
 . have hv : zj p = true:=by simp_all
   have:=YT hv;dsimp only;rw [zx];omega
 . exact (zBn p).1
 . exact (zBn p).2
 . have hv : zj p = true:=by simp_all
   have e : zAC p = some s:=by unfold zAC;rw [if_pos hv,hq]
   rw [e];exact ⟨⟨some 9,zE ⟨zy rfl rfl,zA rfl,trivial⟩,qp⟩⟩
abbrev encE : ZD:=zBu PA (λa=>PkW a.1 /\ a.1.2.length <= 140737488355328) (λa=>zAC a.1) (λs=>some (s.getD []).length) (λs=>some [zB8 (ecR s)]) (λs=>qD eB 5 (s.getD []))
def LPf : Qb:=(47,some encE) :: LPe
theorem LPf_ok : ZC Tryz.prog LPf:=⟨QF ⟨_,Tryz.func47,rfl,by kernel_rfl⟩ (λs l h x hx=>by injection h with h;subst h;obtain rfl:=List.mem_singleton.1 hx;exact zC7 QS) λa h=>zIU a.1 h.1 h.2,LPe_ok⟩
def cPs {α : Type} [Inhabited α] (E : Elem α) (hsz : 0 < E.sz) : Codec (List α) where
 enc l:=.e (.c (.rp false 1 λ_=>.sl false l.length E.sz (zn E l)))
 dec H x:=match x with
  | .e (.c (.ptr k 0 0 _))=>match zP H k with
    | some e=>bif Nat.blt 0 e.n && Nat.blt 0 e.sz then
       match zAZ H E.sz (.e (.c (e.f 0 0))) with
       | some ⟨n,g,p,rd⟩=>some (Zw E n g,zBF p (some (∀ i,i < n -> E.ok (g i) = true)),k :: rd)
       | none=>none
      else none
    | none=>none
  | _=>none
 sound H H' x a p rd h hp hh:=by
  split at h
  . rename_i k fl;split at h
    . rename_i e he;obtain ⟨hb,h⟩ : (Nat.blt 0 e.n && Nat.blt 0 e.sz) = true /\ (match zAZ H E.sz (.e (.c (e.f 0 0))) with
       | some ⟨n,g,p,rd⟩=>some (Zw E n g,zBF p (some (∀ i,i < n -> E.ok (g i) = true)),k :: rd)
       | none=>none) = some (a,p,rd):=by
       cases hb : (Nat.blt 0 e.n && Nat.blt 0 e.sz) with
       | true=>rw [hb] at h;exact ⟨rfl,h⟩
       | false=>rw [hb] at h;cases h
      rw [Bool.and_eq_true] at hb;split at h
      . rename_i n g q rd' hs;injection h with h;injection h with h h';injection h' with h' h'';subst h h' h'';obtain ⟨p1,p2⟩:=Qq.1 hp;have he' : zP H' k = some e:=by rw [<- hh k (List.mem_cons_self ..)];exact he
        have hl:=bo_sl hsz (YE hs λk2 hk2=>hh k2 (List.mem_cons_of_mem _ hk2)) p1 p2;rintro cx r w v st ⟨y,hy,rfl⟩;obtain ⟨u,hu,hr⟩:=Qt st he' hy (i:=0) (j:=0) (Nat.le_of_ble_eq_true hb.1) (Nat.le_of_ble_eq_true hb.2);refine ⟨⟨y.b,0 * y.sz + 0,none⟩,rfl,rfl,?_,(λh=>by cases h),(st.dom k y hy.1).1,λj hj=>⟨u,?_,?_⟩⟩
        . rintro ⟨k2,e2,z,q1,q2,q3,q4⟩;have:=st.inj k2 k e2 _ z y q1 he' q2 hy.1 q3;exact q4 (by rw [this];exact List.mem_cons_self ..)
        . obtain rfl : j = 0:=by omega
          exact hu
        . exact CV.rel_w (λb ⟨nm,e,x,h1,h2,h3,h4⟩=>⟨nm,e,x,h1,h2,h3,λh=>h4 (List.mem_cons_of_mem _ h)⟩) _ _ (hl cx r w u st hr)
      . cases h
    . cases h
  . cases h
def uI (b : List Int) (a n : Int) : Int:=(ZL b a n).1
theorem dec1_ok (b : List Int) (a n : Int) (hb : BL b) (hl : b.length <= 70368744177664) : zY Tryz.prog 88 [(cI .i64).enc a,(cI .i64).enc n,(cPs eB Zb).enc b] ((cI .u64).enc (uI b a n)):=by
 refine zG (wd:=1) (by decide) zM (zT LPf_ok) zN Tryz.func88 rfl _ (by show 3 <= _;decide) _ ?_;repeat' (first | (apply And.intro<;>intro hc<;>(first | exact Bool.noConfusion hc | (simp only [Zi] at hc<;>first | exact absurd rfl hc | skip) | skip)) | (refine And.intro Za ?_) | (apply And.intro) | (intro s hs;skip))
 . dsimp only;rw [zx];exact hb
 . dsimp only;rw [zx];exact hl
 . have hs' : s = ZL b a n:=by rw [hs];dsimp only;rw [zx]
   clear hs;exact Done.mk (zF (by rw [hs'];rfl))
abbrev dec1E : ZD:=ZH (AC.cons (cI .i64) (AC.cons (cI .i64) (AC.cons (cPs eB Zb) AC.nil))) (λa=>BL a.2.2.1 /\ a.2.2.1.length <= 70368744177664) (λa=>uI a.2.2.1 a.1 a.2.1) (cI .u64).enc
def LPg : Qb:=(88,some dec1E) :: LPf
theorem LPg_ok : ZC Tryz.prog LPg:=⟨zO ⟨_,Tryz.func88,rfl,by kernel_rfl⟩ λa h=>dec1_ok a.2.2.1 a.1 a.2.1 h.1 h.2,LPf_ok⟩
def pk0 : Zz:=(⟨0,0,0,0,λ_=>0,λ_=>0,0,0⟩,[])
def hd1 (b : List Int) (sp dp : Int) : Hdr:=⟨IntKind.u8.wrap (Zn .u64 (uI b 0 4) 20),IntKind.u32.wrap (bits .and .u64 (uI b 0 4) 1048575),b.getD 6 default,b.getD 7 default,λi=>b.getD (8 + i.1) default,λi=>b.getD (24 + i.1) default,sp,dp⟩
def pkU (b : List Int) : Zz:=(hd1 b (IntKind.u16.wrap (uI b 40 2)) (IntKind.u16.wrap (uI b 42 2)),b.drop 48)
def pkN (b : List Int) : Zz:=(hd1 b 0 0,b.drop 40)
def pkF (b : List Int) : Zz:=if b.getD 6 default = 17 then pkU b else pkN b
def Qa (b : List Int) : Zz × Int:=
 if 1280 < b.length then (pk0,3)
 else if b.length < 40 \/ b.length < 48 /\ b.getD 6 default = 17 then (pk0,4)
 else if Zn .u64 (uI b 0 4) 28 ≠ 6 \/ uI b 4 2 ≠ IntKind.u64.wrap (IntKind.i64.wrap (b.length - 40)) then (pk0,5)
 else if b.getD 6 default = 17 /\ uI b 44 2 ≠ IntKind.u64.wrap (IntKind.i64.wrap (b.length - 40)) then (pk0,5)
 else if zj (pkF b) = false then (pk0,5)
 else if b.getD 6 default = 17 /\ IntKind.u16.wrap (uI b 46 2) ≠ sum0 (zAV b) then (pk0,6)
 else (pkF b,0)
def zB7 (s : Zz × Int) : FV:=.tup [zAk Yv eB s.1,.c (.int .i64 s.2)]
theorem zDW {z : Nat -> Nat -> CV} {n : Nat} {g : Nat -> Nat -> CV} {l : List Int} (hn : l.length <= n) (hg : ∀ k,k < l.length -> g k 0 = .int .u8 (l.getD k default)) : IsRow (λk j=>ovE z 0 n g (0 + k) j) l:=⟨λk hk=>by
 show Zm (Nat.ble 0 (0 + k) && Nat.blt (0 + k) (0 + n)) (g (0 + k - 0) 0) _ = _;rw [show Nat.ble 0 (0 + k) = true from Nat.ble_eq_true_of_le (Nat.zero_le _),zGg (show 0 + k < 0 + n by omega),Bool.and_true,QO,cond_true,show 0 + k - 0 = k by omega];exact hg k hk⟩
theorem zBm (b : List Int) (a k : Nat) : (b.drop a).getD k default = b.getD (a + k) default:=by
 rw [List.getD_eq_getElem?_getD,List.getD_eq_getElem?_getD,List.getElem?_drop]
theorem Yk {z : Nat -> Nat -> CV} {n : Nat} {b : List Int} (hn : b.length - 40 <= n) : IsRow (λk j=>ovE z 0 n (λi=>zn eB b (40 + i)) (0 + k) j) (b.drop 40):=
 zDW (by rw [List.length_drop];exact hn) λk hk=>by rw [zBm];rfl
theorem zAI {z : Nat -> Nat -> CV} {n : Nat} {b : List Int} (hn : b.length - 48 <= n) : IsRow (λk j=>ovE z 0 n (λi=>(λi=>zn eB b (40 + i)) (8 + i)) (0 + k) j) (b.drop 48):=
 zDW (by rw [List.length_drop];exact hn) λk hk=>by rw [zBm,show 48 + k = 40 + (8 + k) by omega];rfl
theorem zFW {F : Nat -> Nat -> CV} {l : List Int} (h : IsRow (λk j=>F (0 + k) j) l) : IsRow F l:=⟨λk hk=>by
 have:=h.at_ k hk;rw [Nat.zero_add] at this;exact this⟩
theorem zX {c : Wc} {sh : Bool} {k n : Nat} {e : Ent} {l : List Int} (he : zP c.H k = some e) (hd : c.dead k = true) (hz : e.sz = 1) (hn : n = l.length) (hle : n <= e.n) (h : IsRow (λq j=>e.f (0 + q) j) l) : LeC c (.os k 0 n) (.sl sh l.length eB.sz (zn eB l)):=
 zF1 he hd hz hn (by rw [Nat.zero_add];exact hle) λq hq j hj=>leC_is h (by omega) hj
theorem YM {a b c : Nat} (h1 : a <= b) (h2 : a <= c) : a <= Nat.min b c:=Nat.le_min.2 ⟨h1,h2⟩
theorem Zq {G : Nat -> CV} {h : Hdr} {n : Nat} {F : Nat -> Nat -> CV} {l : List Int} (h1 : ∀ j,j < 38 -> G j = Yv.cell h j) (h2 : Zw eB n F = l) : ((Yv.rd G,Zw eB n F) : Zz) = (h,l):=by
 rw [h2,zHy G (Yv.cell h) h1,eHd_rd]
theorem zFX (b : List Int) (hb : BL b) (hl : b.length <= 140737488355328) : zY Tryz.prog 59 [(qf eB Zb).enc b] (zB7 (Qa b)):=by
 obtain ⟨L0,eL⟩ : ∃ L0,Qa b = L0:=⟨_,rfl⟩;rw [eL];by_cases hu : b.getD 6 default = 17
 . have eF : pkF b = pkU b:=if_pos hu;refine zG (wd:=1) (by decide) zM (zT LPg_ok) zN Tryz.func59 rfl _ (by show 1 <= _;decide) _ ?_;repeat' (first | (apply And.intro<;>intro hc<;>(first | exact Bool.noConfusion hc | (exfalso;first | exact absurd hu hc | exact absurd hc hu) | (simp only [Zi] at hc<;>first | exact absurd rfl hc | (exfalso;first | exact absurd hu hc | exact absurd hc hu) | skip) | skip)) | (refine And.intro Za ?_) | (apply And.intro) | (intro s hs;(first | (have q : s = zj (pkU b):=by (refine hs.trans (congrArg zj (Zq (h:=(pkU b).1) (l:=(pkU b).2) (λj hj=>?_) (YX ?_ (zAI ?_))));(iterate 38 (rcases j with _ | j;exact rfl));exact absurd hj (by omega);(show _ = (b.drop 48).length;rw [List.length_drop];omega);exact YM (by omega) (by omega));clear hs;subst q) | (have q:=hs;dsimp only at q;rw [zx] at q;clear hs;subst q) | skip)))
   all_goals first
    | (dsimp only;rw [zx];exact hb)
    | (dsimp only;rw [zx];omega)
    | (dsimp only;rw [zx];omega)
    | (show 8 <= ((b.length - 40 : Nat) : Int);omega)
    | (refine zGO (zAI (YM (by omega) (by omega))) ?_;rw [List.length_drop];omega)
    | (show (Zw eB _ _).length <= _;rw [zS];omega)
    | skip
   . have e : L0 = (pk0,3):=by
      rw [<- eL];unfold Qa;rw [if_pos (by omega)]
     rw [e];exact zq3
   . have e : L0 = (pk0,4):=by
      rw [<- eL];unfold Qa;rw [if_neg (by omega),if_pos (by omega)]
     rw [e];exact zq3
   . have e : L0 = (pk0,4):=by
      rw [<- eL];unfold Qa;rw [if_neg (by omega),if_pos (by omega)]
     rw [e];exact zq3
   . have e : L0 = (pk0,5):=by
      rw [<- eL];unfold Qa;rw [if_neg (by omega),if_neg (by omega),if_pos (by omega)]
     rw [e];exact zq3
   . have e : L0 = (pk0,5):=by
      rw [<- eL];unfold Qa;rw [if_neg (by omega),if_neg (by omega),if_pos (by omega)]
     rw [e];exact zq3
   . have e : L0 = (pk0,5):=by
      rw [<- eL];unfold Qa;rw [if_neg (by omega),if_neg (by omega),if_neg (by omega),if_pos (by omega)]
     rw [e];exact zq3
   . refine zGO (zFW (zAI ?_)) ?_
     . exact YM (by omega) (by omega)
     . rw [List.length_drop];omega
   . have q : s = zj (pkU b):=by
      refine hs.trans (congrArg zj (Zq (h:=(pkU b).1) (l:=(pkU b).2) (λj hj=>?_) (YX ?_ (zAI ?_))))
      . iterate 38 (rcases j with _ | j;exact rfl)
        exact absurd hj (by omega)
      . show _ = (b.drop 48).length;rw [List.length_drop];omega
      . exact YM (by omega) (by omega)
     have q':=(q.symm.trans ‹_› : zj (pkU b) = false);have e : L0 = (pk0,5):=by
      rw [<- eL];unfold Qa;rw [if_neg (by omega),if_neg (by omega),if_neg (by omega),if_neg (by omega),if_pos (by rw [eF];exact q')]
     rw [e];exact zq3
   . have q : s = zj (pkU b):=by
      refine hs.trans (congrArg zj (Zq (h:=(pkU b).1) (l:=(pkU b).2) (λj hj=>?_) (YX ?_ (zAI ?_))))
      . iterate 38 (rcases j with _ | j;exact rfl)
        exact absurd hj (by omega)
      . show _ = (b.drop 48).length;rw [List.length_drop];omega
      . exact YM (by omega) (by omega)
     have q':=(q.symm.trans ‹_› : zj (pkU b) = true);have e : L0 = (pk0,6):=by
      rw [<- eL];unfold Qa;rw [if_neg (by omega),if_neg (by omega),if_neg (by omega),if_neg (by omega),if_neg (by rw [eF,q'];decide),if_pos ⟨hu,by assumption⟩]
     rw [e];exact zq3
   . have q : s = zj (pkU b):=by
      refine hs.trans (congrArg zj (Zq (h:=(pkU b).1) (l:=(pkU b).2) (λj hj=>?_) (YX ?_ (zAI ?_))))
      . iterate 38 (rcases j with _ | j;exact rfl)
        exact absurd hj (by omega)
      . show _ = (b.drop 48).length;rw [List.length_drop];omega
      . exact YM (by omega) (by omega)
     have q':=(q.symm.trans ‹_› : zj (pkU b) = true);have e : L0 = (pkU b,0):=by
      rw [<- eL];unfold Qa;rw [if_neg (by omega),if_neg (by omega),if_neg (by omega),if_neg (by omega),if_neg (by rw [eF,q'];decide),if_neg (λh=>h.2 ‹_›),eF]
     rw [e];refine Done.mk (zE ⟨zk rfl (λj hj=>?_) (zX (l:=b.drop 48) rfl rfl rfl ?_ ?_ ?_),zA rfl,trivial⟩)
     . revert j;exact zt9
     . rw [List.length_drop];omega
     . show _ <= _;dsimp only;omega
     . dsimp only;refine zAI ?_;exact YM (by omega) (by omega)
 . have eF : pkF b = pkN b:=if_neg hu;refine zG (wd:=1) (by decide) zM (zT LPg_ok) zN Tryz.func59 rfl _ (by show 1 <= _;decide) _ ?_;repeat' (first | (apply And.intro<;>intro hc<;>(first | exact Bool.noConfusion hc | (exfalso;first | exact absurd hu hc | exact absurd hc hu) | (simp only [Zi] at hc<;>first | exact absurd rfl hc | (exfalso;first | exact absurd hu hc | exact absurd hc hu) | skip) | skip)) | (refine And.intro Za ?_) | (apply And.intro) | (intro s hs;(first | (have q:=hs;dsimp only at q;rw [zx] at q;clear hs;subst q) | skip)))
   all_goals first
    | (dsimp only;rw [zx];exact hb)
    | (dsimp only;rw [zx];omega)
    | (show (Zw eB _ _).length <= _;rw [zS];omega)
    | skip
   . have e : L0 = (pk0,3):=by
      rw [<- eL];unfold Qa;rw [if_pos (by omega)]
     rw [e];exact zq3
   . have e : L0 = (pk0,4):=by
      rw [<- eL];unfold Qa;rw [if_neg (by omega),if_pos (by omega)]
     rw [e];exact zq3
   . have e : L0 = (pk0,5):=by
      rw [<- eL];unfold Qa;rw [if_neg (by omega),if_neg (by omega),if_pos (by omega)]
     rw [e];exact zq3
   . have e : L0 = (pk0,5):=by
      rw [<- eL];unfold Qa;rw [if_neg (by omega),if_neg (by omega),if_pos (by omega)]
     rw [e];exact zq3
   . refine zGO (zFW (Yk ?_)) ?_
     . exact YM (by omega) (by omega)
     . rw [List.length_drop];omega
   . have q : s = zj (pkN b):=by
      refine hs.trans (congrArg zj (Zq (h:=(pkN b).1) (l:=(pkN b).2) (λj hj=>?_) (YX ?_ (Yk ?_))))
      . iterate 38 (rcases j with _ | j;exact rfl)
        exact absurd hj (by omega)
      . show _ = (b.drop 40).length;rw [List.length_drop];omega
      . exact YM (by omega) (by omega)
     have q':=(q.symm.trans ‹_› : zj (pkN b) = false);have e : L0 = (pk0,5):=by
      rw [<- eL];unfold Qa;rw [if_neg (by omega),if_neg (by omega),if_neg (by omega),if_neg (λh=>hu h.1),if_pos (by rw [eF];exact q')]
     rw [e];exact zq3
   . have q : s = zj (pkN b):=by
      refine hs.trans (congrArg zj (Zq (h:=(pkN b).1) (l:=(pkN b).2) (λj hj=>?_) (YX ?_ (Yk ?_))))
      . iterate 38 (rcases j with _ | j;exact rfl)
        exact absurd hj (by omega)
      . show _ = (b.drop 40).length;rw [List.length_drop];omega
      . exact YM (by omega) (by omega)
     have q':=(q.symm.trans ‹_› : zj (pkN b) = true);have e : L0 = (pkN b,0):=by
      rw [<- eL];unfold Qa;rw [if_neg (by omega),if_neg (by omega),if_neg (by omega),if_neg (λh=>hu h.1),if_neg (by rw [eF,q'];decide),if_neg (λh=>hu h.1),eF]
     rw [e];refine Done.mk (zE ⟨zk rfl (λj hj=>?_) (zX (l:=b.drop 40) rfl rfl rfl ?_ ?_ ?_),zA rfl,trivial⟩)
     . revert j;exact zt9
     . rw [List.length_drop];omega
     . show _ <= _;dsimp only;omega
     . dsimp only;refine Yk ?_;exact YM (by omega) (by omega)
   . have e : L0 = (pk0,5):=by
      rw [<- eL];unfold Qa;rw [if_neg (by omega),if_neg (by omega),if_pos (by omega)]
     rw [e];exact zq3
   . have e : L0 = (pk0,5):=by
      rw [<- eL];unfold Qa;rw [if_neg (by omega),if_neg (by omega),if_pos (by omega)]
     rw [e];exact zq3
   . refine zGO (zFW (Yk ?_)) ?_
     . exact YM (by omega) (by omega)
     . rw [List.length_drop];omega
   . have q : s = zj (pkN b):=by
      refine hs.trans (congrArg zj (Zq (h:=(pkN b).1) (l:=(pkN b).2) (λj hj=>?_) (YX ?_ (Yk ?_))))
      . iterate 38 (rcases j with _ | j;exact rfl)
        exact absurd hj (by omega)
      . show _ = (b.drop 40).length;rw [List.length_drop];omega
      . exact YM (by omega) (by omega)
     have q':=(q.symm.trans ‹_› : zj (pkN b) = false);have e : L0 = (pk0,5):=by
      rw [<- eL];unfold Qa;rw [if_neg (by omega),if_neg (by omega),if_neg (by omega),if_neg (λh=>hu h.1),if_pos (by rw [eF];exact q')]
     rw [e];exact zq3
   . have q : s = zj (pkN b):=by
      refine hs.trans (congrArg zj (Zq (h:=(pkN b).1) (l:=(pkN b).2) (λj hj=>?_) (YX ?_ (Yk ?_))))
      . iterate 38 (rcases j with _ | j;exact rfl)
        exact absurd hj (by omega)
      . show _ = (b.drop 40).length;rw [List.length_drop];omega
      . exact YM (by omega) (by omega)
     have q':=(q.symm.trans ‹_› : zj (pkN b) = true);have e : L0 = (pkN b,0):=by
      rw [<- eL];unfold Qa;rw [if_neg (by omega),if_neg (by omega),if_neg (by omega),if_neg (λh=>hu h.1),if_neg (by rw [eF,q'];decide),if_neg (λh=>hu h.1),eF]
     rw [e];refine Done.mk (zE ⟨zk rfl (λj hj=>?_) (zX (l:=b.drop 40) rfl rfl rfl ?_ ?_ ?_),zA rfl,trivial⟩)
     . revert j;exact zt9
     . rw [List.length_drop];omega
     . show _ <= _;dsimp only;omega
     . dsimp only;refine Yk ?_;exact YM (by omega) (by omega)
abbrev decE : ZD:=ZH (AC.cons (qf eB Zb) AC.nil) (λa=>BL a.1 /\ a.1.length <= 140737488355328) (λa=>Qa a.1) zB7
def LPh : Qb:=(59,some decE) :: LPg
theorem LPh_ok : ZC Tryz.prog LPh:=⟨zO ⟨_,Tryz.func59,rfl,by kernel_rfl⟩ λa h=>zFX a.1 h.1 h.2,LPg_ok⟩
theorem pkF_hops (b : List Int) : (pkF b).1.hops = b.getD 7 default:=by
 unfold pkF;split<;>rfl
def LPi : Qb:=LPh
theorem LPi_ok : ZC Tryz.prog LPi:=LPh_ok
theorem beB4 (v : Int) : qk v 4 = [v / 16777216 % 256,v / 65536 % 256,v / 256 % 256,v % 256]:=by
 simp [qk,beN]
theorem zAd (v : Int) : qk v 2 = [v / 256 % 256,v % 256]:=by
 simp [qk,beN]
theorem zDV (a : Fin 16 -> Int) : YN a = [zQ a 0,zQ a 1,zQ a 2,zQ a 3,zQ a 4,zQ a 5,zQ a 6,zQ a 7,zQ a 8,zQ a 9,zQ a 10,zQ a 11,zQ a 12,zQ a 13,zQ a 14,zQ a 15]:=rfl
def hdL (p : Zz) : List Int:=[(1610612736 + p.1.cls * 1048576 + p.1.flow) / 16777216 % 256,(1610612736 + p.1.cls * 1048576 + p.1.flow) / 65536 % 256,(1610612736 + p.1.cls * 1048576 + p.1.flow) / 256 % 256,(1610612736 + p.1.cls * 1048576 + p.1.flow) % 256,(ZB p - 40) / 256 % 256,(ZB p - 40) % 256,p.1.nxt,p.1.hops,zQ p.1.src 0,zQ p.1.src 1,zQ p.1.src 2,zQ p.1.src 3,zQ p.1.src 4,zQ p.1.src 5,zQ p.1.src 6,zQ p.1.src 7,zQ p.1.src 8,zQ p.1.src 9,zQ p.1.src 10,zQ p.1.src 11,zQ p.1.src 12,zQ p.1.src 13,zQ p.1.src 14,zQ p.1.src 15,zQ p.1.dst 0,zQ p.1.dst 1,zQ p.1.dst 2,zQ p.1.dst 3,zQ p.1.dst 4,zQ p.1.dst 5,zQ p.1.dst 6,zQ p.1.dst 7,zQ p.1.dst 8,zQ p.1.dst 9,zQ p.1.dst 10,zQ p.1.dst 11,zQ p.1.dst 12,zQ p.1.dst 13,zQ p.1.dst 14,zQ p.1.dst 15]
def ulL (p : Zz) (s : Int) : List Int:=[p.1.sp / 256 % 256,p.1.sp % 256,p.1.dp / 256 % 256,p.1.dp % 256,(ZB p - 40) / 256 % 256,(ZB p - 40) % 256,s / 256 % 256,s % 256]
theorem encB_hd (p : Zz) (s : Int) : Qx p s = hdL p ++ ((if p.1.nxt = 17 then ulL p s else []) ++ p.2):=by
 unfold Qx;rw [beB4,zAd,zDV,zDV];by_cases h : p.1.nxt = 17
 . rw [if_pos h,if_pos h,zAd,zAd,zAd];rfl
 . rw [if_neg h,if_neg h];rfl
theorem split40 {b : List Int} (h : 40 <= b.length) : b = [b.getD 0 default,b.getD 1 default,b.getD 2 default,b.getD 3 default,b.getD 4 default,b.getD 5 default,b.getD 6 default,b.getD 7 default,b.getD 8 default,b.getD 9 default,b.getD 10 default,b.getD 11 default,b.getD 12 default,b.getD 13 default,b.getD 14 default,b.getD 15 default,b.getD 16 default,b.getD 17 default,b.getD 18 default,b.getD 19 default,b.getD 20 default,b.getD 21 default,b.getD 22 default,b.getD 23 default,b.getD 24 default,b.getD 25 default,b.getD 26 default,b.getD 27 default,b.getD 28 default,b.getD 29 default,b.getD 30 default,b.getD 31 default,b.getD 32 default,b.getD 33 default,b.getD 34 default,b.getD 35 default,b.getD 36 default,b.getD 37 default,b.getD 38 default,b.getD 39 default] ++ b.drop 40:=by
 have e : b.take 40 = (List.range 40).map λi=>b.getD i default:=by
  apply List.ext_getElem
  . simp;omega
  . intro i h1 h2;simp only [List.getElem_take,List.getElem_map,List.getElem_range,List.getD_eq_getElem?_getD];rw [List.getElem?_eq_getElem (by simp at h1;omega)];rfl
 conv=>lhs;rw [<- List.take_append_drop 40 b,e]
 rfl
theorem split48 {b : List Int} (h : 48 <= b.length) : b.drop 40 = [b.getD 40 default,b.getD 41 default,b.getD 42 default,b.getD 43 default,b.getD 44 default,b.getD 45 default,b.getD 46 default,b.getD 47 default] ++ b.drop 48:=by
 have e : (b.drop 40).take 8 = (List.range 8).map λi=>b.getD (40 + i) default:=by
  apply List.ext_getElem
  . simp;omega
  . intro i h1 h2;simp only [List.getElem_take,List.getElem_map,List.getElem_range,List.getD_eq_getElem?_getD,List.getElem_drop];rw [List.getElem?_eq_getElem (by simp at h1;omega)];rfl
 conv=>lhs;rw [<- List.take_append_drop 8 (b.drop 40),e,List.drop_drop]
 rfl
theorem take4_at {b : List Int} {a : Nat} (h : a + 4 <= b.length) : (b.drop a).take 4 = [b.getD a default,b.getD (a + 1) default,b.getD (a + 2) default,b.getD (a + 3) default]:=by
 have e : (b.drop a).take 4 = (List.range 4).map λi=>b.getD (a + i) default:=by
  apply List.ext_getElem
  . simp;omega
  . intro i h1 h2;simp only [List.getElem_take,List.getElem_map,List.getElem_range,List.getD_eq_getElem?_getD,List.getElem_drop];rw [List.getElem?_eq_getElem (by simp at h1;omega)];rfl
 exact e
theorem take2_at {b : List Int} {a : Nat} (h : a + 2 <= b.length) : (b.drop a).take 2 = [b.getD a default,b.getD (a + 1) default]:=by
 have e : (b.drop a).take 2 = (List.range 2).map λi=>b.getD (a + i) default:=by
  apply List.ext_getElem
  . simp;omega
  . intro i h1 h2;simp only [List.getElem_take,List.getElem_map,List.getElem_range,List.getD_eq_getElem?_getD,List.getElem_drop];rw [List.getElem?_eq_getElem (by simp at h1;omega)];rfl
 exact e
theorem uI_4 {b : List Int} (h : 4 <= b.length) : uI b 0 4 = b.getD 0 default * 16777216 + b.getD 1 default * 65536 + b.getD 2 default * 256 + b.getD 3 default:=by
 unfold uI ZL;rw [if_pos (by omega)];show ZT ((b.drop 0).take 4) = _;rw [take4_at (by omega)];unfold ZT;simp only [List.foldl_cons,List.foldl_nil,Nat.zero_add];omega
theorem uI_2 {b : List Int} {a : Int} {k : Nat} (e : a = k) (h : k + 2 <= b.length) : uI b a 2 = b.getD k default * 256 + b.getD (k + 1) default:=by
 subst e;unfold uI ZL;rw [if_pos (by omega)];show ZT ((b.drop k).take 2) = _;rw [take2_at h];unfold ZT;simp only [List.foldl_cons,List.foldl_nil];omega
theorem and20 {x : Int} (h : 0 <= x /\ x < 4294967296) : bits .and .u64 x 1048575 = x % 1048576:=by
 rw [u64_and x 1048575 h.1 (by omega) (by decide) (by decide)];rw [show (1048575 : Int).toNat = 2 ^ 20 - 1 from rfl,Nat.and_two_pow_sub_one_eq_mod];omega
theorem shr_lit (x : Int) (n : Nat) (h : n <= 64) : Zn .u64 x (n : Int) = x / 2 ^ n:=by
 unfold Zn;rw [show min (n : Int).toNat (IntKind.bits .u64) = n from by show min n 64 = n;omega];rw [Int.fdiv_eq_ediv_of_nonneg _ (by exact Int.le_of_lt (Int.pow_pos (by decide)))]
theorem shr28 (x : Int) : Zn .u64 x 28 = x / 268435456:=shr_lit x 28 (by decide)
theorem shr20 (x : Int) : Zn .u64 x 20 = x / 1048576:=shr_lit x 20 (by decide)
theorem zGK {x0 x1 x2 x3 c f : Int} (h0 : 0 <= x0 /\ x0 < 256) (h1 : 0 <= x1 /\ x1 < 256) (h2 : 0 <= x2 /\ x2 < 256) (h3 : 0 <= x3 /\ x3 < 256)
 (hc : c = IntKind.u8.wrap (Zn .u64 (x0 * 16777216 + x1 * 65536 + x2 * 256 + x3) 20)) (hf : f = IntKind.u32.wrap (bits .and .u64 (x0 * 16777216 + x1 * 65536 + x2 * 256 + x3) 1048575)) :
 (Zn .u64 (x0 * 16777216 + x1 * 65536 + x2 * 256 + x3) 28 = 6 ↔ x0 = (1610612736 + c * 1048576 + f) / 16777216 % 256) /\ x1 = (1610612736 + c * 1048576 + f) / 65536 % 256 /\ x2 = (1610612736 + c * 1048576 + f) / 256 % 256 /\ x3 = (1610612736 + c * 1048576 + f) % 256 /\ (0 <= c /\ c < 256) /\ 0 <= f /\ f < 1048576:=by
 rw [shr20] at hc;rw [and20 (by omega),IntWalk.u32_in _ (by omega)] at hf;rw [show ∀ z : Int,IntKind.u8.wrap z = z % 256 from λz=>by simp [IntKind.wrap,IntKind.signed,IntKind.bits]] at hc;rw [shr28];omega
theorem zCR (b : List Int) : (pkF b).1.nxt = b.getD 6 default:=by
 unfold pkF;split<;>rfl
theorem zG2 (b : List Int) : (pkF b).2 = if b.getD 6 default = 17 then b.drop 48 else b.drop 40:=by
 unfold pkF;split<;>rfl
theorem zGL {b : List Int} (h : 40 <= b.length) (h2 : b.getD 6 default = 17 -> 48 <= b.length) : ZB (pkF b) = b.length:=by
 unfold ZB;rw [zCR,zG2];split
 . have:=h2 ‹_›;rw [List.length_drop];omega
 . rw [List.length_drop];omega
theorem hd1_F {b : List Int} {sp dp : Int} (hb : BL b) (h : 40 <= b.length) :
 (0 <= (hd1 b sp dp).cls /\ (hd1 b sp dp).cls < 256) /\ (0 <= (hd1 b sp dp).flow /\ (hd1 b sp dp).flow < 1048576):=by
 have:=(zGK (hb.get 0) (hb.get 1) (hb.get 2) (hb.get 3) rfl rfl).2.2.2.2;rw [<- uI_4 (by omega)] at this;exact this
theorem u16_2 {x y : Int} (hx : 0 <= x /\ x < 256) (hy : 0 <= y /\ y < 256) : IntKind.u16.wrap (x * 256 + y) = x * 256 + y:=IntWalk.u16_in _ (by omega)
theorem pkF_w {b : List Int} (hb : BL b) (h : 40 <= b.length) : PkW (pkF b):=by
 have hv : ∀ o i,0 <= zQ (λq : Fin 16=>b.getD (o + q.1) default) i /\ zQ (λq : Fin 16=>b.getD (o + q.1) default) i < 256:=λo i=>by
  unfold zQ;split
  . exact hb.get _
  . omega
 have hw : ∀ z,0 <= IntKind.u16.wrap z /\ IntKind.u16.wrap z < 65536:=λz=>by
  simp only [IntKind.wrap,IntKind.signed,IntKind.bits];exact ⟨Int.emod_nonneg _ (by decide),Int.emod_lt_of_pos _ (by decide)⟩
 unfold pkF;split
 . obtain ⟨c1,c2⟩:=hd1_F (sp:=IntKind.u16.wrap (uI b 40 2)) (dp:=IntKind.u16.wrap (uI b 42 2)) hb h;exact ⟨c1,⟨c2.1,Int.lt_trans c2.2 (by decide)⟩,hb.get 6,hb.get 7,hv 8,hv 24,hw _,hw _,hb.drop 48⟩
 . obtain ⟨c1,c2⟩:=hd1_F (sp:=0) (dp:=0) hb h;exact ⟨c1,⟨c2.1,Int.lt_trans c2.2 (by decide)⟩,hb.get 6,hb.get 7,hv 8,hv 24,⟨Int.le_refl _,(by show (0 : Int) < 65536;decide)⟩,⟨Int.le_refl _,(by show (0 : Int) < 65536;decide)⟩,hb.drop 40⟩
theorem len_w {n : Nat} (h : 40 <= n /\ n <= 1280) : IntKind.u64.wrap (IntKind.i64.wrap ((n : Int) - 40)) = n - 40:=by
 rw [IntWalk.i64_in _ (by omega)];exact IntWalk.u64_in _ (by omega)
theorem hdL_pkF {b : List Int} (hb : BL b) (h : 40 <= b.length /\ b.length <= 1280) (h2 : b.getD 6 default = 17 -> 48 <= b.length) :
 hdL (pkF b) = b.take 40 ↔ Zn .u64 (uI b 0 4) 28 = 6 /\ uI b 4 2 = IntKind.u64.wrap (IntKind.i64.wrap (b.length - 40)):=by
 have e40 : b.take 40 = [b.getD 0 default,b.getD 1 default,b.getD 2 default,b.getD 3 default,b.getD 4 default,b.getD 5 default,b.getD 6 default,b.getD 7 default,b.getD 8 default,b.getD 9 default,b.getD 10 default,b.getD 11 default,b.getD 12 default,b.getD 13 default,b.getD 14 default,b.getD 15 default,b.getD 16 default,b.getD 17 default,b.getD 18 default,b.getD 19 default,b.getD 20 default,b.getD 21 default,b.getD 22 default,b.getD 23 default,b.getD 24 default,b.getD 25 default,b.getD 26 default,b.getD 27 default,b.getD 28 default,b.getD 29 default,b.getD 30 default,b.getD 31 default,b.getD 32 default,b.getD 33 default,b.getD 34 default,b.getD 35 default,b.getD 36 default,b.getD 37 default,b.getD 38 default,b.getD 39 default]:=by
  conv=>lhs;rw [split40 h.1]
  rfl
 rw [len_w h,uI_4 (by omega),uI_2 (a:=4) (k:=4) rfl (by omega),e40];have hs:=zGL h.1 h2;have g0:=hb.get 0;have g1:=hb.get 1;have g2:=hb.get 2;have g3:=hb.get 3;have g4:=hb.get 4;have g5:=hb.get 5;have hc : (pkF b).1.cls = IntKind.u8.wrap (Zn .u64 (uI b 0 4) 20):=by unfold pkF;split<;>rfl
 have hf : (pkF b).1.flow = IntKind.u32.wrap (bits .and .u64 (uI b 0 4) 1048575):=by unfold pkF;split<;>rfl
 rw [uI_4 (by omega)] at hc hf;obtain ⟨f0,f1,f2,f3,fc,ff⟩:=zGK g0 g1 g2 g3 hc hf;have hsrc : (pkF b).1.src = λq=>b.getD (8 + q.1) default:=by unfold pkF;split<;>rfl
 have hdst : (pkF b).1.dst = λq=>b.getD (24 + q.1) default:=by unfold pkF;split<;>rfl
 have hhop:=pkF_hops b;have hnx:=zCR b;constructor
 . intro e;unfold hdL at e;rw [hs] at e;simp only [List.cons.injEq] at e;obtain ⟨k0,_,_,_,k4,k5,_⟩:=e;refine ⟨f0.2 k0.symm,?_⟩;show b.getD 4 default * 256 + b.getD 5 default = _;omega
 . rintro ⟨k0,k1⟩;have k1' : b.getD 4 default * 256 + b.getD 5 default = (b.length : Int) - 40:=k1;unfold hdL;rw [hsrc,hdst,hhop,hnx,hs,<- f0.1 k0,<- f1,<- f2,<- f3];rw [show ((b.length : Int) - 40) / 256 % 256 = b.getD 4 default by omega,show ((b.length : Int) - 40) % 256 = b.getD 5 default by omega];rfl
theorem app_iff {a b c d : List Int} (h : a.length = b.length) : a ++ c = b ++ d ↔ a = b /\ c = d:=
 ⟨λe=>List.append_inj e h,λ⟨e1,e2⟩=>by rw [e1,e2]⟩
theorem encB_pkF {b : List Int} (hb : BL b) (h : 40 <= b.length /\ b.length <= 1280) (h2 : b.getD 6 default = 17 -> 48 <= b.length) {s : Int} (hs : 0 <= s /\ s < 65536) :
 Qx (pkF b) s = b ↔ (Zn .u64 (uI b 0 4) 28 = 6 /\ uI b 4 2 = IntKind.u64.wrap (IntKind.i64.wrap (b.length - 40))) /\ (b.getD 6 default = 17 -> uI b 44 2 = IntKind.u64.wrap (IntKind.i64.wrap (b.length - 40)) /\ s = uI b 46 2):=by
 have hz:=zGL h.1 h2;rw [<- hdL_pkF hb h h2,encB_hd,zCR,zG2];have hl : (hdL (pkF b)).length = (b.take 40).length:=by rw [List.length_take];show 40 = _;omega
 conv=>lhs;rhs;rw [<- List.take_append_drop 40 b]
 rw [app_iff hl];by_cases hu : b.getD 6 default = 17
 . rw [if_pos hu,if_pos hu];refine and_congr_right λ_=>?_;have h48:=h2 hu;have g:=λi=>hb.get i;have a0:=hb.get 40;have a1:=hb.get 41;have a2:=hb.get 42;have a3:=hb.get 43;have a4:=hb.get 44;have a5:=hb.get 45;have a6:=hb.get 46;have a7:=hb.get 47;have hsp : (pkF b).1.sp = b.getD 40 default * 256 + b.getD 41 default:=by
    unfold pkF;rw [if_pos hu];show IntKind.u16.wrap (uI b 40 2) = _;rw [uI_2 (a:=40) (k:=40) rfl (by omega)];exact u16_2 a0 a1
   have hdp : (pkF b).1.dp = b.getD 42 default * 256 + b.getD 43 default:=by
    unfold pkF;rw [if_pos hu];show IntKind.u16.wrap (uI b 42 2) = _;rw [uI_2 (a:=42) (k:=42) rfl (by omega)];exact u16_2 a2 a3
   rw [len_w h,uI_2 (a:=44) (k:=44) rfl (by omega),uI_2 (a:=46) (k:=46) rfl (by omega),split48 h48];unfold ulL;rw [hsp,hdp,hz,List.append_cancel_right_eq];simp only [List.cons.injEq,and_true];constructor
   . rintro ⟨_,_,_,_,k4,k5,k6,k7⟩ _;show b.getD 44 default * 256 + b.getD 45 default = _ /\ _ = b.getD 46 default * 256 + b.getD 47 default;omega
   . intro k;obtain ⟨k1,k2⟩:=k hu;have k1' : b.getD 44 default * 256 + b.getD 45 default = (b.length : Int) - 40:=k1;have k2' : s = b.getD 46 default * 256 + b.getD 47 default:=k2;omega
 . rw [if_neg hu,if_neg hu,List.nil_append];exact ⟨λh=>⟨h.1,λk=>absurd k hu⟩,λh=>⟨h.1,rfl⟩⟩
def covL (p : Zz) : List Int:=[zQ p.1.src 0,zQ p.1.src 1,zQ p.1.src 2,zQ p.1.src 3,zQ p.1.src 4,zQ p.1.src 5,zQ p.1.src 6,zQ p.1.src 7,zQ p.1.src 8,zQ p.1.src 9,zQ p.1.src 10,zQ p.1.src 11,zQ p.1.src 12,zQ p.1.src 13,zQ p.1.src 14,zQ p.1.src 15,zQ p.1.dst 0,zQ p.1.dst 1,zQ p.1.dst 2,zQ p.1.dst 3,zQ p.1.dst 4,zQ p.1.dst 5,zQ p.1.dst 6,zQ p.1.dst 7,zQ p.1.dst 8,zQ p.1.dst 9,zQ p.1.dst 10,zQ p.1.dst 11,zQ p.1.dst 12,zQ p.1.dst 13,zQ p.1.dst 14,zQ p.1.dst 15] ++ (qk (ZB p - 40) 4 ++ ([0,0,0,17] ++ ([p.1.sp / 256 % 256,p.1.sp % 256,p.1.dp / 256 % 256,p.1.dp % 256,(ZB p - 40) / 256 % 256,(ZB p - 40) % 256] ++ ([0,0] ++ p.2))))
theorem zGM {p : Zz} (h : p.1.nxt = 17) (s : Int) : zAV (Qx p s) = covL p:=by
 unfold zAV;rw [zAv,encB_hd,if_pos h];rfl
theorem zGN {p : Zz} (hv : zj p = true) (h : p.1.nxt = 17) : qZ p = sum0 (covL p):=by
 unfold qZ;rw [if_pos ⟨hv,h⟩,zGM h]
theorem zDt {l : List Ctx} {a : Fin 16 -> Int} {now : Int} (h : (Zc l a now).2 = true) : Zd l = true /\ vt now = true /\ (Zc l a now).1 ∈ l /\ mt a now (Zc l a now).1 = true:=by
 unfold Zc at h ⊢;split at h
 . rename_i hv;rw [if_pos hv];refine ⟨hv.1,hv.2,?_⟩;rcases (fold_spec a now l (default,false) (-1) hv.1 (λh=>by cases h)).2.2 with g | g
   . rw [g] at h;cases h
   . exact g.2
 . cases h
theorem beN_snoc (x c : Int) (hc : 0 <= c /\ c < 256) : ∀ n,beN (x * 256 + c) (n + 1) = beN x n ++ [c]:=by
 intro n;induction n with
 | zero=>
   show [(x * 256 + c) / 256 ^ 0 % 256] = [c];rw [Int.pow_zero,Int.ediv_one];congr 1
   omega
 | succ n ih=>
   show (x * 256 + c) / 256 ^ (n + 1) % 256 :: beN (x * 256 + c) (n + 1) = (x / 256 ^ n % 256 :: beN x n) ++ [c];rw [ih,List.cons_append];congr 1
   rw [Int.pow_succ,Int.mul_comm (256 ^ n) 256,<- Int.ediv_ediv_of_nonneg (show (0 : Int) <= 256 by decide),show (x * 256 + c) / 256 = x by omega]
theorem zDu : ∀ (n : Nat) (l : List Int),BL l -> l.length = n -> beN (ZT l) n = l:=by
 intro n;induction n with
 | zero=>intro l _ h;rw [List.length_eq_zero_iff.1 h];rfl
 | succ n ih=>
   intro l hl h;have hne : l ≠ []:=λe=>by rw [e] at h;cases h
   have e:=List.dropLast_concat_getLast hne;have hb : BL l.dropLast:=⟨λx hx=>hl.m x ((List.dropLast_sublist l).subset hx)⟩;have hc:=hl.m _ (List.getLast_mem hne);rw [<- e,YJ,beN_snoc _ _ hc,ih _ hb (by rw [List.length_dropLast];omega)]
def hiF (a : Fin 16 -> Int) : Int:=ZT ((YN a).take 8)
def loF (a : Fin 16 -> Int) : Int:=ZT ((YN a).drop 8)
def zBX (a : Fin 16 -> Int) : Int × Int:=(hiF a,loF a)
def jn (a : Fin 16 -> Int) (y : Int) : Fin 16 -> Int:=λq=>if q.1 < 8 then a q else QB y 8 (q.1 - 8)
theorem ipBL {a : Fin 16 -> Int} (h : byteOk a) : BL (YN a):=zFY λi=>h.v i
theorem be_hi {a : Fin 16 -> Int} (h : byteOk a) : beN (hiF a) 8 = (YN a).take 8:=zDu 8 _ ((ipBL h).take 8) (by rw [List.length_take,Zh];rfl)
theorem be_lo {a : Fin 16 -> Int} (h : byteOk a) : beN (loF a) 8 = (YN a).drop 8:=zDu 8 _ ((ipBL h).drop 8) (by rw [List.length_drop,Zh])
theorem beB8 (v : Int) : qk v 8 = beN v 8:=by unfold qk;rw [if_pos (by decide)];rfl
theorem beB_hi {a : Fin 16 -> Int} (h : byteOk a) : qk (hiF a) 8 ++ qk (loF a) 8 = YN a:=by
 rw [beB8,beB8,be_hi h,be_lo h,List.take_append_drop]
theorem zCQ (a : Fin 16 -> Int) {k : Nat} (hk : k < 16) : (YN a).getD k default = zQ a k:=by
 unfold YN;rw [List.getD_eq_getElem?_getD,List.getElem?_map,List.getElem?_range hk];rfl
theorem ip_fun {a b : Fin 16 -> Int} (h : ∀ k,k < 16 -> zQ a k = zQ b k) : a = b:=by
 funext q
 have:=h q.1 q.2;rw [ZV _ q.2,ZV _ q.2] at this;exact this
theorem ipL_inj {a b : Fin 16 -> Int} (h : YN a = YN b) : a = b:=ip_fun λk hk=>by rw [<- zCQ a hk,<- zCQ b hk,h]
theorem jn_at (a : Fin 16 -> Int) (y : Int) {k : Nat} (hk : k < 16) : zQ (jn a y) k = if k < 8 then zQ a k else QB y 8 (k - 8):=by
 rw [ZV _ hk];unfold jn;split
 . rw [ZV _ hk]
 . rfl
theorem byteM_r (v : Int) (m j : Nat) : 0 <= QB v m j /\ QB v m j < 256:=by
 unfold QB;simp only [IntKind.wrap,IntKind.signed,IntKind.bits];constructor
 . exact Int.emod_nonneg _ (by decide)
 . exact Int.emod_lt_of_pos _ (by decide)
theorem jn_ok {a : Fin 16 -> Int} (h : byteOk a) (y : Int) : byteOk (jn a y):=⟨λq=>by
 unfold jn;split
 . exact h.q q
 . exact byteM_r _ _ _⟩
theorem jn_L (a : Fin 16 -> Int) (y : Int) : YN (jn a y) = (YN a).take 8 ++ beN y 8:=by
 rw [<- zDh y 8 (by decide)];apply List.ext_getElem
 . rw [Zh,List.length_append,List.length_take,Zh];simp [beM]
 . intro k h1 h2;rw [Zh] at h1;rw [List.getElem_append];split
   . rename_i h;rw [List.length_take,Zh] at h;simp only [YN,List.getElem_map,List.getElem_range,List.getElem_take];rw [jn_at a y h1,if_pos (by omega)]
   . rename_i h;rw [List.length_take,Zh] at h;simp only [YN,beM,List.getElem_map,List.getElem_range,List.length_take,List.length_map,List.length_range];rw [jn_at a y h1,if_neg (by omega)];rfl
theorem jn_hi {a : Fin 16 -> Int} (y : Int) : hiF (jn a y) = hiF a:=by
 unfold hiF;rw [jn_L,List.take_left' (by rw [List.length_take,Zh];rfl)]
theorem jn_iff {p a : Fin 16 -> Int} (hp : byteOk p) (ha : byteOk a) : jn p (loF a) = a ↔ hiF p = hiF a:=by
 constructor
 . intro h;have:=congrArg hiF h;rw [jn_hi] at this;exact this
 . intro h;apply ipL_inj;rw [jn_L,be_lo ha,<- be_hi hp,h,be_hi ha,List.take_append_drop]
theorem ofF_eq (x y : Int) : ofF x y = λq=>if q.1 < 8 then QB x 8 q.1 else QB y 8 (q.1 - 8):=by
 funext q
 unfold ofF ofB;split
 . rename_i h;rw [show Nat.blt q.1 8 = true from Nat.ble_eq_true_of_le h,cond_true];unfold QB;rw [show (56 : Int) - 8 * ((q.1 % 8 : Nat) : Int) = 8 * (((8 : Nat) : Int) - 1 - (q.1 : Int)) by omega]
 . rename_i h;rw [show Nat.blt q.1 8 = false from by cases hb : Nat.blt q.1 8 with
    | false=>rfl
    | true=>have:=Nat.le_of_ble_eq_true hb;omega,cond_false]
   unfold QB;have:=q.2;rw [show (56 : Int) - 8 * ((q.1 % 8 : Nat) : Int) = 8 * (((8 : Nat) : Int) - 1 - ((q.1 - 8 : Nat) : Int)) by omega]
theorem of_hi {a : Fin 16 -> Int} (h : byteOk a) (y : Int) : ofF (hiF a) y = jn a y:=by
 rw [ofF_eq];funext q
 unfold jn;split
 . rename_i hq;have e:=be_hi h;rw [<- zDh _ 8 (by decide)] at e;have e2:=congrArg (λl=>l.getD q.1 default) e;have e3 : ((YN a).take 8).getD q.1 default = zQ a q.1:=by rw [<- zCQ a q.2,List.getD_eq_getElem?_getD,List.getD_eq_getElem?_getD,List.getElem?_take,if_pos hq]
   have e4 : (beM (hiF a) 8).getD q.1 default = zQ a q.1:=e2.trans e3;rw [ZV _ q.2] at e4;rw [<- e4];simp [beM,hq]
 . rfl
def llP : Pfx:=⟨λq=>if q.1 = 0 then 254 else if q.1 = 1 then 128 else 0,64⟩
theorem llP_b : byteOk llP.ip:=⟨λq=>by show 0 <= (if q.1 = 0 then (254 : Int) else if q.1 = 1 then 128 else 0) /\ (if q.1 = 0 then (254 : Int) else if q.1 = 1 then 128 else 0) < 256;split<;>(try split)<;>omega⟩
theorem llP_v : vpf llP = true:=by decide +kernel
theorem llP_hi : hiF llP.ip = 18338657682652659712:=by decide +kernel
theorem llP_of (y : Int) : ofF 18338657682652659712 y = jn llP.ip y:=by rw [<- llP_hi];exact of_hi llP_b y
structure Adr where
 mode : Int
 short : Int
 eui : Int
def eAdrC (x : Adr) (j : Nat) : CV:=bif Nat.beq j 0 then .int .i64 x.mode else bif Nat.beq j 1 then .int .u16 x.short else (.int .u64 x.eui)
def ZF : Elem Adr where
 sz:=3
 cell:=eAdrC
 rd g:=⟨qY (g 0),qY (g 1),qY (g 2)⟩
 ok g:=isK .i64 (g 0) && isK .u16 (g 1) && isK .u64 (g 2)
 ok_eq g h j hj:=by
  simp only [Bool.and_eq_true] at h;unfold eAdrC;by_cases c0 : j < 1
  . have e : j = 0:=by omega
    subst e;exact Qo h.1.1
  by_cases c1 : j < 2
  . have e : j = 1:=by omega
    subst e;exact Qo h.1.2
  by_cases c2 : j < 3
  . have e : j = 2:=by omega
    subst e;exact Qo h.2
  omega
 flat a j:=by
  unfold eAdrC;cases Nat.beq j 0 with
  | true=>exact ZO
  | false=>
  cases Nat.beq j 1 with
  | true=>exact ZO
  | false=>
  exact ZO
theorem eAdr_rd (x : Adr) : ZF.rd (ZF.cell x) = x:=by
 show (⟨x.mode,x.short,x.eui⟩ : Adr) = x;rfl
theorem zt (x : Adr) : ZF.rd (λq=>ZF.cell x (0 + q)) = x:=by
 simp only [Nat.zero_add];exact eAdr_rd x
theorem word_ok (n : Nat) (l : List Int) (q : Int) (ht : TapeOk n (rI l) q) :
 ∃ (r q' : Int),True /\ TapeOk n (rI l) q' /\ ze Tryz.prog 41 [] (Zf n (rI l) q) ((cI .u64).enc r) (Zf n (rI l) q'):=by
 refine qE (wd:=1) (by decide) zM (zT LT0_ok) zN Tryz.func41 rfl _ (by show 0 + 1 <= _;decide) (λ_=>zDT) ?_;repeat' (first | (apply And.intro<;>intro hc<;>(first | exact Bool.noConfusion hc | (simp only [qm] at hc) | skip)) | (refine And.intro Za ?_) | (apply And.intro) | (intro s hs))
 all_goals exact ⟨(_,_),⟨trivial,by assumption⟩,⟨zF rfl,ZI⟩⟩
abbrev wordE : ZD:=Yt AC.nil (λ_=>True) (λa (r : Int)=>True) (cI .u64).enc
def LT1 : Qb:=(18,some boolE) :: (41,some wordE) :: (LT0 ++ LR2)
theorem zCA : ZC Tryz.prog LT1:=⟨qv ⟨_,Tryz.func18,rfl,by kernel_rfl⟩ λn l q a ht hp=>bool_ok n l q a.1 ht hp.1 hp.2,qv ⟨_,Tryz.func41,rfl,by kernel_rfl⟩ λn l q a ht _=>word_ok n l q ht,Qe LT0_ok LR2_ok⟩
theorem prefix_ok (n : Nat) (l : List Int) (q : Int) (ht : TapeOk n (rI l) q) :
 ∃ (r : Pfx) (q' : Int),(vpf r = true /\ byteOk r.ip) /\ TapeOk n (rI l) q' /\ ze Tryz.prog 19 [] (Zf n (rI l) q) ((cE qS).enc r) (Zf n (rI l) q'):=by
 refine qE (wd:=1) (by decide) zM (zT zCA) zN Tryz.func19 rfl _ (by show 0 + 1 <= _;decide) (zAu qS) ?_;repeat' (first | (apply And.intro<;>intro hc<;>(first | exact Bool.noConfusion hc | (simp only [qm] at hc) | skip)) | (refine And.intro Za ?_) | (apply And.intro) | (intro s hs))
 . rename_i so hso sn hsn;show byteOk ((eA .u8 16).rd ((eA .u8 16).cell so));rw [zD8,hso];exact zDw _ _
 . rename_i so hso sn hsn sq hsq;have hb : byteOk so:=by rw [hso];exact zDw _ _
   obtain ⟨b,e⟩ : ∃ b,s = qu so b:=⟨_,hs.trans (congrArg (qu · _) (zD8 (k:=.u8) so))⟩;exact ⟨(s,_),⟨⟨by rw [e];exact mask_vpf hb b,by rw [e];exact zB5 hb b⟩,by assumption⟩,⟨ZS (zd (by repeat' (first | exact zw2 | refine zd ?_ | exact zH ‹_› | apply And.intro))),ZI⟩⟩
theorem device_ok (n : Nat) (l : List Int) (q : Int) (ht : TapeOk n (rI l) q) :
 ∃ (r : Adr) (q' : Int),True /\ TapeOk n (rI l) q' /\ ze Tryz.prog 17 [] (Zf n (rI l) q) ((cE ZF).enc r) (Zf n (rI l) q'):=by
 refine qE (wd:=1) (by decide) zM (zT zCA) zN Tryz.func17 rfl _ (by show 0 + 1 <= _;decide) (zAu ZF) ?_;repeat' (first | (apply And.intro<;>intro hc<;>(first | exact Bool.noConfusion hc | (simp only [qm] at hc) | skip)) | (refine And.intro Za ?_) | (apply And.intro) | (intro s hs))
 . exact ⟨(⟨3,0,_⟩,_),⟨trivial,by assumption⟩,⟨ZS (zd ⟨⟨⟨trivial,zA rfl⟩,zA rfl⟩,zA rfl⟩),ZI⟩⟩
 . exact ⟨(⟨2,_,0⟩,_),⟨trivial,by assumption⟩,⟨ZS (zd ⟨⟨⟨trivial,zA rfl⟩,zA rfl⟩,zA rfl⟩),ZI⟩⟩
def ZQ (a : Adr) : Bool:=if a.mode = 0 then (a.short == 0) && (a.eui == 0) else if a.mode = 2 then (a.eui == 0) else if a.mode = 3 then (a.short == 0) else false
theorem zH0 (a : Adr) : zY Tryz.prog 80 [(cE ZF).enc a] (cB.enc (ZQ a)):=by
 refine zG (wd:=1) (by decide) zM (zT ZG) zN Tryz.func80 rfl _ (by show 1 <= _;decide) _ ?_;repeat' (first | (apply And.intro<;>intro hc<;>(first | exact Bool.noConfusion hc | (simp only [qm] at hc) | skip)) | (refine And.intro Ql ?_) | (apply And.intro) | (intro s hs))
 all_goals (refine Done.mk (zC ?_);simp [ZQ, *])
def Yw (a : Adr) : Bool:=ZQ a && (a.mode != 0)
def LA0 : Qb:=(80,some (ZH (AC.cons (cE ZF) AC.nil) (λ_=>True) (λa=>ZQ a.1) cB.enc)) :: []
theorem LA0_ok : ZC Tryz.prog LA0:=⟨zO ⟨_,Tryz.func80,rfl,by kernel_rfl⟩ λa _=>zH0 a.1,trivial⟩
theorem zIX (a : Adr) : zY Tryz.prog 68 [(cE ZF).enc a] (cB.enc (Yw a)):=by
 refine zG (wd:=1) (by decide) zM (zT LA0_ok) zN Tryz.func68 rfl _ (by show 1 <= _;decide) _ ?_;repeat' (first | (apply And.intro<;>intro hc<;>(first | exact Bool.noConfusion hc | (simp only [qm] at hc) | skip)) | (refine And.intro Ql ?_) | (apply And.intro) | (intro s hs))
 all_goals (
  have e1 : s = ZQ a:=hs.trans (congrArg ZQ (zt a));refine Done.mk (zC ?_);simp [Yw,<- e1,hc])
def ZJ (a : Adr) : Int × Bool:=if Yw a = true then (if a.mode = 3 then (bits .xor .u64 a.eui 144115188075855872,true) else (IntKind.u64.wrap (1099478073344 + IntKind.u64.wrap a.short),true)) else (0,false)
def encIB (r : Int × Bool) : FV:=.tup [.c (.int .u64 r.1),.c (.bool r.2)]
def LA1 : Qb:=(68,some (ZH (AC.cons (cE ZF) AC.nil) (λ_=>True) (λa=>Yw a.1) cB.enc)) :: LA0
theorem LA1_ok : ZC Tryz.prog LA1:=⟨zO ⟨_,Tryz.func68,rfl,by kernel_rfl⟩ λa _=>zIX a.1,LA0_ok⟩
theorem iid_ok (a : Adr) : zY Tryz.prog 40 [(cE ZF).enc a] (encIB (ZJ a)):=by
 refine zG (wd:=1) (by decide) zM (zT LA1_ok) zN Tryz.func40 rfl _ (by show 1 <= _;decide) _ ?_;repeat' (first | (apply And.intro<;>intro hc<;>(first | exact Bool.noConfusion hc | (simp only [qm] at hc) | skip)) | (refine And.intro Ql ?_) | (apply And.intro) | (intro s hs))
 all_goals (
  have e1 : s = Yw a:=hs.trans (congrArg Yw (zt a));clear hs;subst e1;refine Done.mk (zE ⟨zA ?_,zH ?_,trivial⟩)<;>simp [ZJ, *])
def setV (a : Fin 16 -> Int) (i : Nat) (v : Int) : Fin 16 -> Int:=λq=>if q.1 = i then v else a q
theorem zG8 {a : Fin 16 -> Int} {i : Nat} {v : Int} (ha : byteOk a) (hv : 0 <= v /\ v < 256) : byteOk (setV a i v):=⟨λq=>by
 unfold setV;split
 . exact hv
 . exact ha.q q⟩
theorem setV_at {a : Fin 16 -> Int} {i off j : Nat} {v : Int} (h : off = i) (hj : j < 16) : (bif Nat.ble off j && Nat.blt j (off + 1) then v else zQ a j) = zQ (setV a i v) j:=by
 rw [ZV _ hj,ZV _ hj];unfold setV;by_cases e : j = i
 . rw [zCk (by omega),cond_true,if_pos e]
 . rw [zA6 (by omega),cond_false,if_neg e]
theorem u8r (z : Int) : 0 <= IntKind.u8.wrap z /\ IntKind.u8.wrap z < 256:=by
 simp only [IntKind.wrap,IntKind.signed,IntKind.bits];constructor
 . exact Int.emod_nonneg _ (by decide)
 . exact Int.emod_lt_of_pos _ (by decide)
structure GrpS (n : Nat) (l : List Int) where
 i : Nat
 a : Fin 16 -> Int
 q : Int
 hi : i <= 15
 ha : byteOk a
 ht : TapeOk n (rI l) q
theorem group_ok (n : Nat) (l : List Int) (q : Int) (ht : TapeOk n (rI l) q) :
 ∃ (r : Fin 16 -> Int) (q' : Int),byteOk r /\ TapeOk n (rI l) q' /\ ze Tryz.prog 42 [] (Zf n (rI l) q) ((cE (eA .u8 16)).enc r) (Zf n (rI l) q'):=by
 refine qE (wd:=1) (by decide) zM (zT zCA) zN Tryz.func42 rfl _ (by show 0 + 1 <= _;decide) (zAu (eA .u8 16)) ?_;repeat' (first | (apply And.intro<;>intro hc<;>(first | exact Bool.noConfusion hc | (simp only [qm] at hc) | skip)) | (refine And.intro Za ?_) | (apply And.intro) | (intro s hs))
 . rename_i s1 hs1;refine zp (ZE zCA) (λs : GrpS n l=>(⟨[(0,one (.ptr 0 0 0 false)),(2,one (.ptr 1 0 0 false)),(3,one (.ptr 3 0 0 false)),(4,one (.int .i64 (s.i : Int)))],
    [(0,some (Zf n (rI l) s.q)),(1,some ⟨24,1,16,true,λ_ _=>.top⟩),(3,some ⟨24,1,16,true,λ_=>(eA .u8 16).cell s.a⟩)],50⟩ : Hd)) (λs=>s.i) (λ_=>rfl) ?_ ⟨15,λq=>if q.1 = 0 then 255 else if q.1 = 1 then IntKind.u8.wrap s1 else 0,_,by omega,⟨λq=>by have:=u8r s1;split<;>(try split)<;>omega⟩,hs⟩ [] ?_
   . rintro ⟨i,a,q1,hi,ha,ht1⟩;dsimp only at hi ⊢;repeat' (first | (apply And.intro<;>intro hc<;>(first | exact Bool.noConfusion hc | (simp only [qm] at hc) | skip)) | (refine And.intro Za ?_) | (apply And.intro) | (intro s hs))
     . rename_i s1 hs1 sq1 hsq1 s2 hs2;have hs1' : 0 <= s1 /\ s1 < 15:=hs1;have hw : IntKind.i64.wrap (15 - s1) = 15 - s1:=IntWalk.i64_in _ (by omega);have hc' : IntKind.i64.wrap (15 - s1) < (i : Int):=by assumption
       have hi2 : 1 <= i:=by omega
       refine ⟨⟨i - 1,setV a i (IntKind.u8.wrap s2),_,by omega,zG8 ha (u8r _),hs⟩,[],by dsimp only;omega,rfl,?_,?_⟩
       . repeat' (first | exact qH | refine zF ?_ | refine zC ?_ | exact qI | apply And.intro)
         refine (IntWalk.i64_in _ ?_).trans ?_
         . constructor<;>omega
         . dsimp only;omega
       . repeat' (first | exact qH | refine zF ?_ | refine zC ?_ | exact qI | apply And.intro)
         . exact ZI
         . refine Ys λj hj=>?_;exact zA (setV_at (j:=j) (by omega) hj)
     . exact ⟨(a,_),⟨ha,by assumption⟩,⟨ZS (zd (by repeat' (first | exact zw2 | refine zd ?_ | exact zH ‹_› | apply And.intro))),ZI⟩⟩
   . refine ⟨rfl,?_,?_⟩
     . exact QI
     . repeat' (first | exact qH | refine zF ?_ | refine zC ?_ | exact qI | apply And.intro)
       . exact ZI
       . refine zh ?_;repeat' (first | exact trivial | exact zA rfl | apply And.intro)
 . skip
   refine zp (ZE zCA) (λs : GrpS n l=>(⟨[(0,one (.ptr 0 0 0 false)),(2,one (.ptr 1 0 0 false)),(3,one (.ptr 3 0 0 false)),(4,one (.int .i64 (s.i : Int)))],
    [(0,some (Zf n (rI l) s.q)),(1,some ⟨24,1,16,true,λ_ _=>.top⟩),(3,some ⟨24,1,16,true,λ_=>(eA .u8 16).cell s.a⟩)],50⟩ : Hd)) (λs=>s.i) (λ_=>rfl) ?_ ⟨15,λq=>if q.1 = 0 then 255 else if q.1 = 1 then 2 else 0,_,by omega,⟨λq=>by split<;>(try split)<;>omega⟩,hs⟩ [] ?_
   . rintro ⟨i,a,q1,hi,ha,ht1⟩;dsimp only at hi ⊢;repeat' (first | (apply And.intro<;>intro hc<;>(first | exact Bool.noConfusion hc | (simp only [qm] at hc) | skip)) | (refine And.intro Za ?_) | (apply And.intro) | (intro s hs))
     . rename_i s1 hs1 sq1 hsq1 s2 hs2;have hs1' : 0 <= s1 /\ s1 < 15:=hs1;have hw : IntKind.i64.wrap (15 - s1) = 15 - s1:=IntWalk.i64_in _ (by omega);have hc' : IntKind.i64.wrap (15 - s1) < (i : Int):=by assumption
       have hi2 : 1 <= i:=by omega
       refine ⟨⟨i - 1,setV a i (IntKind.u8.wrap s2),_,by omega,zG8 ha (u8r _),hs⟩,[],by dsimp only;omega,rfl,?_,?_⟩
       . repeat' (first | exact qH | refine zF ?_ | refine zC ?_ | exact qI | apply And.intro)
         refine (IntWalk.i64_in _ ?_).trans ?_
         . constructor<;>omega
         . dsimp only;omega
       . repeat' (first | exact qH | refine zF ?_ | refine zC ?_ | exact qI | apply And.intro)
         . exact ZI
         . refine Ys λj hj=>?_;exact zA (setV_at (j:=j) (by omega) hj)
     . exact ⟨(a,_),⟨ha,by assumption⟩,⟨ZS (zd (by repeat' (first | exact zw2 | refine zd ?_ | exact zH ‹_› | apply And.intro))),ZI⟩⟩
   . refine ⟨rfl,?_,?_⟩
     . exact QI
     . repeat' (first | exact qH | refine zF ?_ | refine zC ?_ | exact qI | apply And.intro)
       . exact ZI
       . refine zh ?_;repeat' (first | exact trivial | exact zA rfl | apply And.intro)
abbrev pfxE : ZD:=Yt AC.nil (λ_=>True) (λa (r : Pfx)=>vpf r = true /\ byteOk r.ip) (cE qS).enc
abbrev devE : ZD:=Yt AC.nil (λ_=>True) (λa (r : Adr)=>True) (cE ZF).enc
abbrev grpE : ZD:=Yt AC.nil (λ_=>True) (λa (r : Fin 16 -> Int)=>byteOk r) (cE (eA .u8 16)).enc
def LT2a : Qb:=(19,some pfxE) :: (17,some devE) :: (42,some grpE) :: (40,some (ZH (AC.cons (cE ZF) AC.nil) (λ_=>True) (λa=>ZJ a.1) encIB)) :: []
theorem LT2a_ok : ZC Tryz.prog LT2a:=⟨qv ⟨_,Tryz.func19,rfl,by kernel_rfl⟩ λn l q a ht hp=>prefix_ok n l q ht,qv ⟨_,Tryz.func17,rfl,by kernel_rfl⟩ λn l q a ht hp=>device_ok n l q ht,qv ⟨_,Tryz.func42,rfl,by kernel_rfl⟩ λn l q a ht hp=>group_ok n l q ht,zO ⟨_,Tryz.func40,rfl,by kernel_rfl⟩ λa _=>iid_ok a.1,trivial⟩
def LT2 : Qb:=LT2a ++ LT1
theorem zAX : ZC Tryz.prog LT2:=Qe LT2a_ok zCA
structure Fm where
 ctx : Bool
 id : Int
 mode : Int
instance : Inhabited Fm:=⟨⟨false,0,0⟩⟩
def eFmC (x : Fm) (j : Nat) : CV:=bif Nat.beq j 0 then .bool x.ctx else bif Nat.beq j 1 then .int .i64 x.id else (.int .i64 x.mode)
def eFm : Elem Fm where
 sz:=3
 cell:=eFmC
 rd g:=⟨valB (g 0),qY (g 1),qY (g 2)⟩
 ok g:=isB (g 0) && isK .i64 (g 1) && isK .i64 (g 2)
 ok_eq g h j hj:=by
  simp only [Bool.and_eq_true] at h;unfold eFmC;by_cases c0 : j < 1
  . have e : j = 0:=by omega
    subst e;exact isB_eq h.1.1
  by_cases c1 : j < 2
  . have e : j = 1:=by omega
    subst e;exact Qo h.1.2
  by_cases c2 : j < 3
  . have e : j = 2:=by omega
    subst e;exact Qo h.2
  omega
 flat a j:=by
  unfold eFmC;cases Nat.beq j 0 with
  | true=>exact zFy
  | false=>
  cases Nat.beq j 1 with
  | true=>exact ZO
  | false=>
  exact ZO
abbrev Form:=Fm × List Int
def zI : Fin 16 -> Int:=λ_=>0
def QW (iid : Int) (k : Adr) : Int × List Int:=
 if ZJ k = (iid,true) then (3,[]) else if bits .andNot .u64 iid 65535 = 1099478073344 then (2,qk iid 2) else (1,qk iid 8)
def zBj (a : Fin 16 -> Int) (l : List Ctx) (now : Int) : Bool:=(Zc l a now).2 && decide ((Zc l a now).1.bits <= 64) && decide (hiF (Zc l a now).1.ip = hiF a)
def QZ (a : Fin 16 -> Int) (k : Adr) (source : Bool) (l : List Ctx) (now : Int) : Form:=
 if source = true /\ zBk a zI = true then (⟨true,0,0⟩,[])
 else if hiF a = 18338657682652659712 then (⟨false,0,(QW (loF a) k).1⟩,(QW (loF a) k).2)
 else if zBj a l now = true then (⟨true,(Zc l a now).1.id,(QW (loF a) k).1⟩,(QW (loF a) k).2)
 else (⟨false,0,0⟩,YN a)
def zr (a : Fin 16 -> Int) (i j : Nat) : Bool:=(((YN a).drop i).take (j - i)).all λx=>x == 0
def zBH (a : Fin 16 -> Int) : Form:=
 if zQ a 1 = 2 /\ zr a 2 15 = true then (⟨false,0,3⟩,[zQ a 15])
 else if zr a 2 13 = true then (⟨false,0,2⟩,[zQ a 1,zQ a 13,zQ a 14,zQ a 15])
 else if zr a 2 11 = true then (⟨false,0,1⟩,[zQ a 1,zQ a 11,zQ a 12,zQ a 13,zQ a 14,zQ a 15])
 else (⟨false,0,0⟩,YN a)
def Zx (p : Zz) : Int × List Int:=
 if p.1.cls ≠ 0 /\ p.1.flow ≠ 0 then (0,[p.1.cls] ++ qk p.1.flow 3)
 else if p.1.flow ≠ 0 then (1,[] ++ qk p.1.flow 3)
 else if p.1.cls ≠ 0 then (2,[p.1.cls])
 else (3,[])
def zAB (h : Int) : Int:=if h = 1 then 1 else if h = 64 then 2 else if h = 255 then 3 else 0
def qL (b : Bool) (v : Int) : Int:=if b = true then v else 0
def zA1 (p : Zz) : List Int:=(Zx p).2 ++ (if p.1.nxt = 17 then [] else [p.1.nxt]) ++ (if zAB p.1.hops = 0 then [p.1.hops] else [])
def Qi (p : Zz) : Int:=96 + 8 * (Zx p).1 + qL (decide (p.1.nxt = 17)) 4 + zAB p.1.hops
def Zj (f t : Adr) (l : List Ctx) (now : Int) : Int:=if ZQ f = true /\ ZQ t = true /\ Zd l = true then (if vt now = true then 0 else 2) else 1
def zCt (p : Zz) (t : Adr) (l : List Ctx) (now : Int) : Form:=if ZP p.1.dst = true then zBH p.1.dst else QZ p.1.dst t false l now
def zAS (s d : Fm) (m : Bool) : Int:=qL (decide (16 * s.id + d.id ≠ 0)) 128 + qL s.ctx 64 + 16 * s.mode + qL m 8 + qL d.ctx 4 + d.mode
def zCf (p : Zz) (s d : Form) : List Int:=[Qi p,zAS s.1 d.1 (ZP p.1.dst)] ++ (if 16 * s.1.id + d.1.id ≠ 0 then [16 * s.1.id + d.1.id] else []) ++ zA1 p ++ s.2 ++ d.2
def qt (p : Zz) (f t : Adr) (l : List Ctx) (now : Int) : List Int × Int:=
 if zj p = false then ([],1)
 else if Zj f t l now ≠ 0 then ([],Zj f t l now)
 else (zCf p (QZ p.1.src f true l now) (zCt p t l now),0)
theorem zGI (v : Int) (n : Nat) (h : n <= 8) : (qk v n).length = n:=by
 unfold qk;rw [if_pos (by omega),zCN];omega
theorem iids_len (y : Int) (k : Adr) : (QW y k).2.length <= 8:=by
 unfold QW;split
 . simp
 . split
   . exact Nat.le_trans (Nat.le_of_eq (zGI y 2 (by decide))) (by decide)
   . exact Nat.le_of_eq (zGI y 8 (by decide))
theorem zBA (a : Fin 16 -> Int) (k : Adr) (s : Bool) (l : List Ctx) (now : Int) : (QZ a k s l now).2.length <= 16:=by
 have:=iids_len (loF a) k;unfold QZ;split
 . simp
 . split
   . dsimp only;omega
   . split
     . dsimp only;omega
     . dsimp only;rw [Zh];exact Nat.le_refl _
theorem zGx (a : Fin 16 -> Int) : (zBH a).2.length <= 16 /\ (zBH a).1.id = 0:=by
 unfold zBH;split
 . exact ⟨by simp,rfl⟩
 . split
   . exact ⟨by simp,rfl⟩
   . split
     . exact ⟨by simp,rfl⟩
     . exact ⟨by dsimp only;rw [Zh];exact Nat.le_refl _,rfl⟩
theorem zGy (p : Zz) : (zA1 p).length <= 6:=by
 have h3:=zGI p.1.flow 3 (by decide);have h3' : (qk p.1.flow 3).length = 3:=h3;have h1 : (Zx p).2.length <= 4:=by
  unfold Zx;split
  . simp [h3']
  . split
    . simp [h3']
    . split<;>simp
 unfold zA1;rw [List.length_append,List.length_append];have h4 : (if p.1.nxt = 17 then [] else [p.1.nxt]).length <= 1:=by split<;>simp
 have h5 : (if zAB p.1.hops = 0 then [p.1.hops] else []).length <= 1:=by split<;>simp
 omega
theorem zHp (p : Zz) (s d : Form) : (zCf p s d).length = 2 + (if 16 * s.1.id + d.1.id ≠ 0 then 1 else 0) + (zA1 p).length + s.2.length + d.2.length:=by
 unfold zCf;simp only [List.length_append,List.length_cons,List.length_nil];split<;>simp
theorem forCom_id {l : List Ctx} {a : Fin 16 -> Int} {now : Int} (h : (Zc l a now).2 = true) : 0 <= (Zc l a now).1.id /\ (Zc l a now).1.id < 16:=by
 obtain ⟨h1,_,h2,_⟩:=zDt h;have:=zFP h1 h2;omega
theorem uni_id (a : Fin 16 -> Int) (k : Adr) (s : Bool) (l : List Ctx) (now : Int) : 0 <= (QZ a k s l now).1.id /\ (QZ a k s l now).1.id < 16:=by
 unfold QZ;split
 . exact ⟨(by decide : (0 : Int) <= 0),(by decide : (0 : Int) < 16)⟩
 . split
   . exact ⟨(by decide : (0 : Int) <= 0),(by decide : (0 : Int) < 16)⟩
   . split
     . rename_i h;unfold zBj at h;simp only [Bool.and_eq_true] at h;exact forCom_id h.1.1
     . exact ⟨(by decide : (0 : Int) <= 0),(by decide : (0 : Int) < 16)⟩
theorem dst_len (p : Zz) (k : Adr) (l : List Ctx) (now : Int) : (zCt p k l now).2.length <= 16:=by
 unfold zCt;split
 . exact (zGx _).1
 . exact zBA _ _ _ _ _
theorem zEY {p : Zz} {f t : Adr} {l : List Ctx} {now : Int} (hp : zj p = true) (hf : ZQ f = true) (ht : ZQ t = true) (hl : Zd l = true) (hn : vt now = true) : qt p f t l now = (zCf p (QZ p.1.src f true l now) (zCt p t l now),0):=by
 have hc : Zj f t l now = 0:=by unfold Zj;rw [if_pos ⟨hf,ht,hl⟩,if_pos hn]
 unfold qt;rw [if_neg (by rw [hp];decide),if_neg (by rw [hc];decide)]
theorem zHq {k : Adr} {y : Int} (h : ZJ k = (y,true)) : QW y k = (3,[]):=if_pos h
def hP (hops : Int) (src dst : Fin 16 -> Int) : Zz:=(⟨0,0,17,hops,src,dst,0,0⟩,[])
theorem hP_v {hops : Int} {src dst : Fin 16 -> Int} (h : zQ src 0 ≠ 255) : zj (hP hops src dst) = true:=by
 unfold zj ZP;rw [show (hP hops src dst).1.src = src from rfl,decide_eq_false h];rfl
abbrev RD (α : Type):=(α × Int) × Int
def zo {α β : Type} (x : RD α) (z : β) (f : α -> Int -> RD β) : RD β:=if x.1.2 = 0 then f x.1.1 x.2 else ((z,x.1.2),x.2)
theorem YK {α β : Type} {v : α} {q : Int} {z : β} {f : α -> Int -> RD β} : zo ((v,0),q) z f = f v q:=if_pos rfl
theorem zCP {α β : Type} {v : α} {e q : Int} {z : β} {f : α -> Int -> RD β} (h : e ≠ 0) : zo ((v,e),q) z f = ((z,e),q):=if_neg h
def zB (b : List Int) (q n : Int) : RD Int:=if (ZL b q n).2 = true then (((ZL b q n).1,0),q + n) else ((0,4),q)
def ipAt (b : List Int) (q : Int) : Fin 16 -> Int:=λi=>b.getD (q.toNat + i.1) default
def QT (b : List Int) (q : Int) : RD (Fin 16 -> Int):=if (b.length : Int) - q < 16 then ((zI,4),q) else ((ipAt b q,0),q + 16)
def qG (y k : Int) : Bool:=decide (y / k % 2 = 1)
def zBW (y : Int) : Bool:=qG y 4 && (qG y 8 || decide (y % 4 = 0))
abbrev I3:=Int × Int × Int
def z3 : I3:=(0,0,0)
def qR (b : List Int) (q : Int) : RD I3:=
 zo (zB b q 1) z3 λx q=>if x < 96 \/ 127 < x then ((z3,5),q) else
  zo (zB b q 1) z3 λy q=>if zBW y = true then ((z3,5),q) else if 128 <= y then zo (zB b q 1) z3 λi q=>(((x,y,i),0),q) else (((x,y,0),0),q)
def zJ : Hdr:=⟨0,0,0,0,zI,zI,0,0⟩
def Qr (h : Int) : Int:=if h = 1 then 1 else if h = 2 then 64 else if h = 3 then 255 else 0
def zL (b : List Int) (x q : Int) : RD Hdr:=
 zo (if x / 8 % 4 = 0 \/ x / 8 % 4 = 2 then zB b q 1 else ((0,0),q)) zJ λc q=>
 zo (if x / 8 % 4 = 0 \/ x / 8 % 4 = 1 then zB b q 3 else ((0,0),q)) zJ λfl q=>if 1048575 < fl then ((zJ,5),q) else
 zo (if x / 4 % 2 = 0 then zB b q 1 else ((17,0),q)) zJ λnx q=>if x / 4 % 2 = 0 /\ nx = 17 then ((zJ,5),q) else
 zo (if x % 4 = 0 then zB b q 1 else ((Qr (x % 4),0),q)) zJ λhp q=>((⟨c,fl,nx,hp,zI,zI,0,0⟩,0),q)
def zB4 (ctx : Bool) (C : Ctx × Bool) : Pfx:=if ctx = true then Zy C.1 else llP
def zBs (b : List Int) (mode : Int) (k : Adr) (P : Pfx) (q : Int) : RD (Fin 16 -> Int):=
 if mode = 0 then QT b q else if mode = 1 then zo (zB b q 8) zI λv q=>((jn P.ip v,0),q)
 else if mode = 2 then zo (zB b q 2) zI λv q=>((jn P.ip (v + 1099478073344),0),q)
 else ((jn P.ip (ZJ k).1,0),q)
def qz (b : List Int) (ctx : Bool) (mode : Int) (k : Adr) (C : Ctx × Bool) (q : Int) : RD (Fin 16 -> Int):=
 if mode = 3 /\ (ZJ k).2 = false then ((zI,5),q)
 else if ctx = true /\ C.2 = false then ((zI,9),q)
 else if ctx = true /\ 64 < C.1.bits then ((zI,5),q)
 else zo (zBs b mode k (zB4 ctx C) q) zI λa q=>if ZP a = true then ((zI,5),q) else ((a,0),q)
def grpN (mode : Int) : Int:=if mode = 1 then 6 else if mode = 2 then 4 else 1
def zBi (n : Nat) (w : List Int) : Fin 16 -> Int:=λi=>if i.1 = 0 then 255 else if i.1 = 1 then (if n = 1 then 2 else w.getD 0 default) else if i.1 + n < 17 /\ n ≠ 1 \/ i.1 < 15 /\ n = 1 then 0 else w.getD (i.1 + n - 16) default
def zAb (b : List Int) (mode q : Int) : RD (Fin 16 -> Int):=
 if mode = 0 then zo (QT b q) zI λa q=>if ZP a = true then ((a,0),q) else ((a,5),q)
 else zo (zB b q (grpN mode)) zI λv q'=>((zBi (grpN mode).toNat ((b.drop q.toNat).take (grpN mode).toNat),0),q')
def zDs (b : List Int) (y ids : Int) (f : Adr) (l : List Ctx) (now q : Int) : RD (Fin 16 -> Int):=
 if qG y 64 = false \/ y / 16 % 4 ≠ 0 then qz b (qG y 64) (y / 16 % 4) f (zK l (ids / 16) now) q else ((zI,0),q)
def zCa (b : List Int) (y ids : Int) (t : Adr) (l : List Ctx) (now q : Int) : RD (Fin 16 -> Int):=
 if qG y 8 = true then zAb b (y % 4) q else qz b (qG y 4) (y % 4) t (zK l (ids % 16) now) q
def qi (b : List Int) (f t : Adr) (l : List Ctx) (now : Int) : RD Hdr:=
 zo (qR b 0) zJ λs q=>zo (zL b s.1 q) zJ λh q=>
 zo (zDs b s.2.1 s.2.2 f l now q) zJ λsrc q=>zo (zCa b s.2.1 s.2.2 t l now q) zJ λdst q=>(({ h with src:=src,dst:=dst },0),q)
def Zr (b : List Int) (f t : Adr) (l : List Ctx) (now : Int) : (Zz × Int) × Int:=
 if Zj f t l now ≠ 0 then (((zJ,[]),0),Zj f t l now)
 else if (qi b f t l now).1.2 = 0 then ((((qi b f t l now).1.1,[]),(qi b f t l now).2),0) else (((zJ,[]),0),(qi b f t l now).1.2)
theorem zero_eq3 (b : Adr) (h : b.mode = 0) : zz (λq=>ZF.cell b q) (nth [CV.int .i64 0,.int .u16 0,.int .u64 0]) 3 0 = ((b.short == 0) && (b.eui == 0)):=by
 rw [Bool.eq_iff_iff,zAE];constructor
 . intro g;have g1:=g 1 (by decide);have g2:=g 2 (by decide);have g1' : Qp (.int .u16 b.short) (.int .u16 0) = true:=g1;have g2' : Qp (.int .u64 b.eui) (.int .u64 0) = true:=g2;simp [Qp] at g1' g2';simp [g1',g2']
 . intro g;simp at g;intro i hi;rcases i with _ | _ | _ | i
   . show Qp (.int .i64 b.mode) (.int .i64 0) = true;rw [h];rfl
   . show Qp (.int .u16 b.short) (.int .u16 0) = true;rw [g.1];rfl
   . show Qp (.int .u64 b.eui) (.int .u64 0) = true;rw [g.2];rfl
   . omega
theorem avalid_ok (a : Adr) : zY Tryz.prog 104 [(cE ZF).enc a] (cB.enc (ZQ a)):=by
 refine zG (wd:=1) (by decide) zM (zT ZG) zN Tryz.func104 rfl _ (by show 1 <= _;decide) _ ?_;repeat' (first | (apply And.intro<;>intro hc<;>(first | exact Bool.noConfusion hc | (simp only [qm] at hc) | skip)) | (refine And.intro Ql ?_) | (apply And.intro) | (intro s hs))
 all_goals first
  | (refine Done.mk (zC ?_);simp [ZQ, *];done)
  | (refine Done.mk (zC ((zero_eq3 a ‹_›).trans ?_));simp [ZQ, *])
def LAd0 : Qb:=(104,some (ZH (AC.cons (cE ZF) AC.nil) (λ_=>True) (λa=>ZQ a.1) cB.enc)) :: (LE3 ++ LPb)
theorem zEe : ZC Tryz.prog LAd0:=⟨zO ⟨_,Tryz.func104,rfl,by kernel_rfl⟩ λa _=>avalid_ok a.1,Qe zFR LPb_ok⟩
theorem iid_2 {a : Adr} (h : ZQ a = true) (h2 : a.mode = 2) : ZJ a = (IntKind.u64.wrap (1099478073344 + IntKind.u64.wrap a.short),true):=by
 unfold ZJ Yw;rw [if_pos (by rw [h,h2];rfl),if_neg (by rw [h2];decide)]
theorem iid_3 {a : Adr} (h : ZQ a = true) (h2 : a.mode = 3) : ZJ a = (bits .xor .u64 a.eui 144115188075855872,true):=by
 unfold ZJ Yw;rw [if_pos (by rw [h,h2];rfl),if_pos h2]
theorem iid_no {a : Adr} (h : ZQ a = false) : ZJ a = (0,false):=by
 unfold ZJ Yw;rw [h];rfl
theorem iid_0 {a : Adr} (h : ZQ a = true) (h2 : ¬ a.mode = 2) (h3 : ¬ a.mode = 3) : ZJ a = (0,false):=by
 have : a.mode = 0:=by
  unfold ZQ at h;rw [if_neg h2,if_neg h3] at h;split at h
  . assumption
  . cases h
 unfold ZJ Yw;rw [if_neg (by rw [this];simp)]
theorem aiid_ok (a : Adr) : zY Tryz.prog 113 [(cE ZF).enc a] (encIB (ZJ a)):=by
 refine zG (wd:=1) (by decide) zM (zT zEe) zN Tryz.func113 rfl _ (by show 1 <= _;decide) _ ?_;repeat' (first | (apply And.intro<;>intro hc<;>(first | exact Bool.noConfusion hc | (simp only [Zi] at hc<;>first | exact absurd rfl hc | skip) | skip)) | (refine And.intro Za ?_) | (apply And.intro) | (intro s hs;(have q : s = ZQ a:=hs.trans (congrArg ZQ (zt a));clear hs;subst q)))
 all_goals first
  | (rw [iid_no ‹_›];exact Done.mk (zE ⟨zA rfl,zH rfl,trivial⟩))
  | (rw [iid_2 ‹_› ‹_›];exact Done.mk (zE ⟨zA rfl,zH rfl,trivial⟩))
  | (rw [iid_3 ‹_› ‹_›];exact Done.mk (zE ⟨zA rfl,zH rfl,trivial⟩))
  | (rw [iid_0 ‹_› ‹_› ‹_›];exact Done.mk (zE ⟨zA rfl,zH rfl,trivial⟩))
def encUU (r : Int × Int) : FV:=.tup [.c (.int .u64 r.1),.c (.int .u64 r.2)]
theorem uint_hi (a : Fin 16 -> Int) : ZL (YN a) 0 8 = (hiF a,true):=by
 unfold ZL hiF;rw [if_pos (by rw [Zh];omega)];rfl
theorem uint_lo (a : Fin 16 -> Int) : ZL (YN a) 8 8 = (loF a,true):=by
 unfold ZL loF;rw [if_pos (by rw [Zh];omega)];show (ZT ((List.drop 8 (YN a)).take 8),true) = _;rw [List.take_of_length_le (by rw [List.length_drop,Zh];decide)]
theorem ip_toL (a : Fin 16 -> Int) {n : Nat} {F : Nat -> Nat -> CV} (hn : n = 16) (h : ∀ k,F k 0 = .int .u8 (zQ a k)) : Zw eB n F = YN a:=by
 subst hn;exact toL_ip λk _=>h k
theorem ip_fn (a : Fin 16 -> Int) : Zw eB (16 - 0) (λk q=>(λx : Nat=>(eA IntKind.u8 16).cell a) 0 (0 + 0 * 1 + (k * 1 + q))) = YN a:=ip_toL a rfl λk=>congrArg (λj=>CV.int .u8 (zQ a j)) (by omega)
theorem ip_len' (a : Fin 16 -> Int) : (YN a).length <= 70368744177664:=by rw [Zh];decide
theorem asplit_ok (a : Fin 16 -> Int) (ha : byteOk a) : zY Tryz.prog 106 [(cE (eA .u8 16)).enc a] (encUU (zBX a)):=by
 have g1:=trivial;refine zG (wd:=1) (by decide) zM (zT zEe) zN Tryz.func106 rfl _ (by show 1 <= _;decide) _ ?_;repeat' (first | (apply And.intro<;>intro hc<;>(first | exact Bool.noConfusion hc | (simp only [Zi] at hc<;>first | exact absurd rfl hc | skip) | skip)) | (refine And.intro Za ?_) | (apply And.intro) | (intro s hs;(first | (clear g1;have q : s = (hiF a,true):=hs.trans ((congrArg (λl=>ZL l 0 8) (ip_fn a)).trans (uint_hi a));clear hs;subst q) | (have q : s = (loF a,true):=hs.trans ((congrArg (λl=>ZL l 8 8) (ip_fn a)).trans (uint_lo a));clear hs;subst q))))
 all_goals first
  | exact λi hi=>rfl
  | exact Eq.mp (congrArg BL (ip_fn a).symm) (ipBL ha)
  | exact Eq.mp (congrArg (λl : List Int=>l.length <= 70368744177664) (ip_fn a).symm) (ip_len' a)
  | exact Done.mk (zE ⟨zA rfl,zA rfl,trivial⟩)
def Qn (p : Pfx) (y : Int) : (Fin 16 -> Int) × Bool:=if vpf p = true /\ p.bits <= 64 then (jn p.ip y,true) else (zI,false)
def zHE (r : (Fin 16 -> Int) × Bool) : FV:=.tup [.agg 16 ((eA .u8 16).cell r.1),.c (.bool r.2)]
theorem beB_M (y : Int) : [] ++ qk y 8 = beM y 8:=by rw [List.nil_append,beB8,zDh y 8 (by decide)]
theorem ajoin_ok (p : Pfx) (y : Int) : zY Tryz.prog 108 [(cE qS).enc p,(cI .u64).enc y] (zHE (Qn p y)):=by
 have g1:=trivial;obtain ⟨J,eJ⟩ : ∃ J,Qn p y = J:=⟨_,rfl⟩;rw [eJ];refine zG (wd:=1) (by decide) zM (zT zEe) zN Tryz.func108 rfl _ (by show 2 <= _;decide) _ ?_;repeat' (first | (apply And.intro<;>intro hc<;>(first | exact Bool.noConfusion hc | (simp only [Zi] at hc<;>first | exact absurd rfl hc | skip) | skip)) | (refine And.intro Za ?_) | (apply And.intro) | (intro s hs;(first | (clear g1;have q : s = vpf p:=hs.trans (congrArg vpf (zDv p));clear hs;subst q) | (have q : s = beM y 8:=hs.trans (beB_M y);clear hs;subst q))))
 . have e : J = (zI,false):=by rw [<- eJ];unfold Qn;rw [if_neg (λh=>by have:=h.1;simp_all)]
   rw [e];refine Done.mk (zE ?_);repeat' (first | exact zw2 | refine zd ?_ | exact zH ‹_› | apply And.intro)
 . have e : J = (zI,false):=by rw [<- eJ];unfold Qn;rw [if_neg (λh=>by have:=h.2;omega)]
   rw [e];refine Done.mk (zE ?_);repeat' (first | exact zw2 | refine zd ?_ | exact zH ‹_› | apply And.intro)
 . exact Nat.zero_le _
 . exact Nat.le_refl _
 . have e : J = (jn p.ip y,true):=by rw [<- eJ];unfold Qn;rw [if_pos ⟨by assumption,by omega⟩]
   rw [e];exact Done.mk (zE ⟨zd (by repeat' (first | exact zw2 | refine zd ?_ | exact zH ‹_› | apply And.intro)),zH rfl,trivial⟩)
abbrev aIp : AC ((Fin 16 -> Int) × Unit):=AC.cons (cE (eA .u8 16)) AC.nil
def LAd : Qb:=(113,some (ZH (AC.cons (cE ZF) AC.nil) (λ_=>True) (λa=>ZJ a.1) encIB)) ::
 (106,some (ZH aIp (λa=>byteOk a.1) (λa=>zBX a.1) encUU)) ::
 (108,some (ZH (AC.cons (cE qS) (AC.cons (cI .u64) AC.nil)) (λ_=>True) (λa=>Qn a.1 a.2.1) zHE)) :: LAd0
theorem zBo : ZC Tryz.prog LAd:=⟨zO ⟨_,Tryz.func113,rfl,by kernel_rfl⟩ λa _=>aiid_ok a.1,zO ⟨_,Tryz.func106,rfl,by kernel_rfl⟩ λa h=>asplit_ok a.1 h,zO ⟨_,Tryz.func108,rfl,by kernel_rfl⟩ λa _=>ajoin_ok a.1 a.2.1,zEe⟩
def cPv {α : Type} (E : Elem α) : Codec α where
 enc a:=.e (.c (.rp false E.sz (E.cell a)))
 dec H x:=match x with
  | .e (.c (.ptr k 0 0 _))=>match zP H k with
    | some e=>bif Nat.blt 0 e.n && Nat.beq e.sz E.sz && E.ok (e.f 0) then some (E.rd (e.f 0),none,[k]) else none
    | none=>none
  | _=>none
 sound H H' x a p rd h hp hh:=by
  split at h
  . rename_i k fl;split at h
    . rename_i e he;obtain ⟨hb,h⟩:=ZN h;injection h with h h';injection h' with h' h'';subst h h' h'';rw [Bool.and_eq_true,Bool.and_eq_true] at hb;have hsz:=Nat.eq_of_beq_eq_true hb.1.2;have he' : zP H' k = some e:=by rw [<- hh k (List.mem_cons_self ..)];exact he
      rintro cx r w v st ⟨y,hy,rfl⟩;refine ⟨⟨y.b,0 * y.sz + 0,none⟩,rfl,rfl,?_,(λh=>by cases h),(st.dom k y hy.1).1,λj hj=>?_⟩
      . rintro ⟨k2,e2,z,q1,q2,q3,q4⟩;have:=st.inj k2 k e2 _ z y q1 he' q2 hy.1 q3;exact q4 (by rw [this];exact List.mem_cons_self ..)
      . obtain ⟨u,hu,hr⟩:=Qt st he' hy (i:=0) (j:=j) (Nat.le_of_ble_eq_true hb.1.1) (by omega);refine ⟨u,hu,?_⟩;rw [E.ok_eq _ hb.2 j hj] at hr;exact E.flat _ _ _ _ _ _ _ _ _ _ _ hr
    . cases h
  . cases h
theorem llp_ok : zY Tryz.prog 109 [] ((cE qS).enc llP):=by
 refine zG (wd:=1) (by decide) zM (zT ZG) zN Tryz.func109 rfl _ (by show 0 <= _;decide) _ ?_;exact Done.mk (ZS (zd (by repeat' (first | exact zw2 | refine zd ?_ | exact zH ‹_› | apply And.intro))))
theorem flag_ok (b : Bool) (v : Int) : zY Tryz.prog 75 [cB.enc b,(cI .i64).enc v] ((cI .i64).enc (qL b v)):=by
 refine zG (wd:=1) (by decide) zM (zT ZG) zN Tryz.func75 rfl _ (by show 2 <= _;decide) _ ?_;repeat' (first | (apply And.intro<;>intro hc<;>(first | exact Bool.noConfusion hc | (simp only [qm] at hc) | skip)) | (refine And.intro Ql ?_) | (apply And.intro) | (intro s hs))
 all_goals exact Done.mk (zF (by simp [qL, *]))
theorem high_ok (a : Fin 16 -> Int) (ha : byteOk a) : zY Tryz.prog 111 [(cE (eA .u8 16)).enc a] ((cI .u64).enc (hiF a)):=by
 refine zG (wd:=1) (by decide) zM (zT zBo) zN Tryz.func111 rfl _ (by show 1 <= _;decide) _ ?_;repeat' (first | (apply And.intro<;>intro hc<;>(first | exact Bool.noConfusion hc | (simp only [Zi] at hc<;>first | exact absurd rfl hc | skip) | skip)) | (refine And.intro Za ?_) | (apply And.intro) | (intro s hs;(have q : s = zBX a:=hs.trans (congrArg zBX (YV a));clear hs;subst q)))
 . exact Eq.mp (congrArg byteOk (YV a).symm) ha
 . exact Done.mk (zF rfl)
def zAL (y : Int) : List Int × Bool:=if bits .andNot .u64 y 65535 = 1099478073344 then (qk y 2,true) else ([],false)
def boolV (b : Bool) : EV:=.c (.bool b)
theorem short_ok (y : Int) : ql Tryz.prog 114 [(cI .u64).enc y] (some (zAL y).1.length) (some [boolV (zAL y).2]) (qD eB 5 (zAL y).1):=by
 obtain ⟨w,eW⟩ : ∃ w,zAL y = w:=⟨_,rfl⟩;rw [eW];refine ZR (wd:=1) (by decide) zM (zT zBo) zN Tryz.func114 rfl _ (by show 1 <= _;decide) (λi _ j _=>qU eB _ i j) ?_;repeat' (first | (apply And.intro<;>intro hc<;>(first | exact Bool.noConfusion hc | (simp only [Zi] at hc<;>first | exact absurd rfl hc | skip) | skip)) | (refine And.intro Za ?_) | (apply And.intro) | (intro s hs;(have q : s = qk y 2:=hs;clear hs;subst q)))
 . have e : w = ([],false):=by rw [<- eW];unfold zAL;rw [if_neg hc]
   rw [e];exact ⟨⟨none,zE ⟨qN rfl,zH rfl,trivial⟩,rfl,rfl,(by show 0 < 1;omega)⟩⟩
 . exact Nat.zero_le _
 . have e : w = (qk y 2,true):=by rw [<- eW];unfold zAL;rw [if_pos hc]
   rw [e];exact ⟨⟨some _,zE ⟨zy rfl rfl,zH rfl,trivial⟩,qp⟩⟩
def YA (p : Pfx) (y : Int) (a : Fin 16 -> Int) : Bool:=decide (vpf p = true /\ p.bits <= 64) && zBk (jn p.ip y) a
theorem ip_from (a b : Fin 16 -> Int) : zz ((eA .u8 16).cell a) ((eA .u8 16).cell b) 16 0 = zBk a b:=by
 rw [Bool.eq_iff_iff,zAE];unfold zBk;simp only [List.all_eq_true,List.mem_range,beq_iff_eq];constructor
 . intro h j hj;have:=h j hj;rw [Nat.zero_add] at this;simpa [eA,Qp] using this
 . intro h j hj;rw [Nat.zero_add];have:=h j hj;simpa [eA,Qp] using this
theorem within_ok (p : Pfx) (y : Int) (a : Fin 16 -> Int) : zY Tryz.prog 107 [(cE qS).enc p,(cPv (eI .u64)).enc y,(cPv (eA .u8 16)).enc a] (cB.enc (YA p y a)):=by
 refine zG (wd:=1) (by decide) zM (zT zBo) zN Tryz.func107 rfl _ (by show 3 <= _;decide) _ ?_;repeat' (first | (apply And.intro<;>intro hc<;>(first | exact Bool.noConfusion hc | (simp only [Zi] at hc<;>first | exact absurd rfl hc | skip) | skip)) | (refine And.intro Za ?_) | (apply And.intro) | (intro s hs;(have q : s = Qn p y:=hs.trans (congrArg (Qn · y) (zDv p));clear hs;subst q)))
 . have e : YA p y a = zBk (Qn p y).1 a:=by
    unfold YA Qn at *;split at hc
    . rename_i h;rw [decide_eq_true h,Bool.true_and,if_pos h]
    . cases hc
   rw [e];exact Done.mk (zC (ip_from (Qn p y).1 a))
 . have e : YA p y a = false:=by
    unfold YA Qn at *;split at hc
    . cases hc
    . rename_i h;rw [decide_eq_false h,Bool.false_and]
   rw [e];exact Done.mk (zC rfl)
theorem rtime_ok (t : Int) : zY Tryz.prog 82 [(cI .i64).enc t] (cB.enc (vt t)):=by
 refine zG (wd:=1) (by decide) zM (zT ZG) zN Tryz.func82 rfl _ (by show 1 <= _;decide) _ ?_;repeat' (first | (apply And.intro<;>intro hc<;>(first | exact Bool.noConfusion hc | (simp only [qm] at hc) | skip)) | (refine And.intro Ql ?_) | (apply And.intro) | (intro s hs))
 all_goals (refine Done.mk (zC ?_);simp [vt, *])
theorem rcompr_ok (c : Ctx) (now : Int) : zY Tryz.prog 118 [(cE zb).enc c,(cI .i64).enc now] (cB.enc (Qz c now)):=by
 refine zG (wd:=1) (by decide) zM (zT ZG) zN Tryz.func118 rfl _ (by show 2 <= _;decide) _ ?_;repeat' (first | (apply And.intro<;>intro hc<;>(first | exact Bool.noConfusion hc | (simp only [qm] at hc) | skip)) | (refine And.intro Ql ?_) | (apply And.intro) | (intro s hs))
 all_goals (refine Done.mk (zC ?_);simp [Qz, *])
theorem rexp_ok (c : Ctx) (now : Int) : zY Tryz.prog 135 [(cE zb).enc c,(cI .i64).enc now] (cB.enc (zAt c now)):=by
 refine zG (wd:=1) (by decide) zM (zT ZG) zN Tryz.func135 rfl _ (by show 2 <= _;decide) _ ?_;repeat' (first | (apply And.intro<;>intro hc<;>(first | exact Bool.noConfusion hc | (simp only [qm] at hc) | skip)) | (refine And.intro Ql ?_) | (apply And.intro) | (intro s hs))
 all_goals (refine Done.mk (zC ?_);simp [zAt, *])
structure bytesL (l : List Ctx) : Prop where
 b : ∀ c ∈ l,byteOk c.ip
 n : l.length <= 2932031007317
theorem zH1 {L : List Ctx} {i : Nat} (h : i < L.length) : L.getD i default ∈ L:=by
 rw [List.getD_eq_getElem?_getD,List.getElem?_eq_getElem h];exact List.getElem_mem h
def LQ0 : Qb:=(82,some (ZH (AC.cons (cI .i64) AC.nil) (λ_=>True) (λa=>vt a.1) cB.enc)) ::
 (118,some (ZH (AC.cons (cE zb) (AC.cons (cI .i64) AC.nil)) (λ_=>True) (λa=>Qz a.1 a.2.1) cB.enc)) ::
 (135,some (ZH (AC.cons (cE zb) (AC.cons (cI .i64) AC.nil)) (λ_=>True) (λa=>zAt a.1 a.2.1) cB.enc)) :: LR2
theorem LQ0_ok : ZC Tryz.prog LQ0:=⟨zO ⟨_,Tryz.func82,rfl,by kernel_rfl⟩ λa _=>rtime_ok a.1,zO ⟨_,Tryz.func118,rfl,by kernel_rfl⟩ λa _=>rcompr_ok a.1 a.2.1,zO ⟨_,Tryz.func135,rfl,by kernel_rfl⟩ λa _=>rexp_ok a.1 a.2.1,LR2_ok⟩
def pv (l : List Ctx) (i : Nat) : Int:=if i = 0 then -1 else (l.getD (i - 1) default).id
theorem rvalid_ok (l : List Ctx) (hl : bytesL l) : zY Tryz.prog 81 [(qf zb zq).enc l] (cB.enc (Zd l)):=by
 have hn:=hl.n;refine zG (wd:=1) (by decide) zM (zT LQ0_ok) zN Tryz.func81 rfl _ (by show 1 <= _;decide) _ ?_;refine zp (ZE LQ0_ok) (λi : {i : Nat // i <= l.length /\ Zd l = qX (pv l i) (l.drop i) /\ -1 <= pv l i}=>(⟨[(0,one (.sl false l.length zb.sz (zn zb l))),(3,one (.int .i64 (i.1 : Int)))],[],5⟩ : Hd)) (λi=>l.length - i.1) (λ_=>rfl) ?_ ⟨0,by omega,rfl,by simp [pv]⟩ [] ?_
 . rintro ⟨i,hi,hv,hm⟩;dsimp only at hi hv hm ⊢;have w1 : IntKind.i64.wrap ((i : Int) - 1) = (i : Int) - 1:=IntWalk.i64_in _ (by omega);have hpv : 0 < (i : Int) -> pv l i = (l.getD (IntKind.i64.wrap ((i : Int) - 1)).toNat default).id:=λh=>by
    rw [w1,show ((i : Int) - 1).toNat = i - 1 by omega,pv,if_neg (by omega)]
   have hp0 : ¬ 0 < (i : Int) -> pv l i = -1:=λh=>by rw [pv,if_pos (by omega)]
   have hps : pv l (i + 1) = (l.getD i default).id:=by simp [pv]
   have hpr : qS.rd (λj=>zb.cell (l.getD i default) (0 + 1 + j)) = Zy (l.getD i default):=by simp only [Nat.zero_add];exact YL _
   repeat' (first | (apply And.intro<;>intro hc<;>(first | exact Bool.noConfusion hc | (simp only [qm] at hc) | skip)) | (refine And.intro Ql ?_) | (apply And.intro) | (intro s hs))
   all_goals first
    | (show byteOk (qS.rd λj=>zb.cell (l.getD i default) (0 + 1 + j)).ip
       rw [hpr];exact hl.b _ (zH1 (by omega)))
    | (refine Done.mk (zC ?_)
       symm
       rw [hv,Yh _ (show i < l.length by omega),Bool.eq_false_iff];intro h;simp only [Bool.and_eq_true,decide_eq_true_eq] at h;obtain ⟨⟨⟨⟨h1,h2⟩,h3⟩,h4⟩,_⟩:=h;first
        | (have q : (l.getD i default).id < 0:=by assumption
           omega)
        | (have q : 16 <= (l.getD i default).id:=by assumption
           omega)
        | (have q:=hpv ‹_›
           have q2 : (l.getD i default).id <= (l.getD (IntKind.i64.wrap ((i : Int) - 1)).toNat default).id:=by assumption
           omega)
        | (have q : s = false:=by assumption
           have e : s = vt (l.getD i default).til:=hs;rw [e,h4] at q;cases q)
        | (have q : s = false:=by assumption
           have e : s = vpf (qS.rd λj=>zb.cell (l.getD i default) (0 + 1 + j)):=hs;rw [hpr,h3,q] at e;cases e))
    | (rename_i s1 hs1 c1
       have e1 : s1 = vpf (qS.rd λj=>zb.cell (l.getD i default) (0 + 1 + j)):=hs1;rw [hpr] at e1;have e2 : s = vt (l.getD i default).til:=hs;have g1 : ¬ (l.getD i default).id < 0:=by assumption
       have g2 : ¬ 16 <= (l.getD i default).id:=by assumption
       have d1 : decide (pv l i < (l.getD i default).id) = true:=decide_eq_true (by
        first
         | (have q:=hp0 ‹_›
            omega)
         | (have q:=hpv ‹_›
            have q2 : ¬ (l.getD i default).id <= (l.getD (IntKind.i64.wrap ((i : Int) - 1)).toNat default).id:=by assumption
            omega))
       have d2 : decide ((l.getD i default).id < 16) = true:=decide_eq_true (by omega);refine ⟨⟨i + 1,by omega,?_,by rw [hps];omega⟩,[],by dsimp only;omega,rfl,?_,?_⟩
       . rw [hv,Yh _ (show i < l.length by omega),hps,d1,d2,<- e1,<- e2,c1,hc];rfl
       . repeat' (first | exact qH | refine zF ?_ | refine zC ?_ | exact qI | apply And.intro)
         refine (IntWalk.i64_in _ ?_).trans ?_
         . constructor<;>omega
         . dsimp only;omega
       . repeat' (first | exact qH | refine zF ?_ | refine zC ?_ | exact qI | apply And.intro))
    | (refine Done.mk (zC ?_)
       have hil : i = l.length:=by omega
       rw [hv,hil,List.drop_length];rfl)
 . refine ⟨rfl,?_,?_⟩
   . exact QI
   . exact QI
def LQ1 : Qb:=(81,some (ZH (AC.cons (qf zb zq) AC.nil) (λa=>bytesL a.1) (λa=>Zd a.1) cB.enc)) :: LQ0
theorem zFc : ZC Tryz.prog LQ1:=⟨zO ⟨_,Tryz.func81,rfl,by kernel_rfl⟩ λa h=>rvalid_ok a.1 h,LQ0_ok⟩
abbrev withinE : ZD:=ZH (AC.cons (cE qS) (AC.cons (cPv (eI .u64)) (AC.cons (cPv (eA .u8 16)) AC.nil))) (λ_=>True) (λa=>YA a.1 a.2.1 a.2.2.1) cB.enc
abbrev comE : ZD:=ZH (AC.cons (qf zb zq) (AC.cons (cE (eA .u8 16)) (AC.cons (cI .i64) AC.nil))) (λa=>a.1.length <= 9223372036854775807) (λa=>Zc a.1 a.2.1 a.2.2.1) zCg
abbrev shortE : ZD:=zBu (AC.cons (cI .u64) AC.nil) (λ_=>True) (λa=>zAL a.1) (λs=>some s.1.length) (λs=>some [boolV s.2]) (λs=>qD eB 5 s.1)
def LIh0 : Qb:=(109,some (ZH AC.nil (λ_=>True) (λ_=>llP) (cE qS).enc)) ::
 (75,some (ZH (AC.cons cB (AC.cons (cI .i64) AC.nil)) (λ_=>True) (λa=>qL a.1 a.2.1) (cI .i64).enc)) ::
 (111,some (ZH aIp (λa=>byteOk a.1) (λa=>hiF a.1) (cI .u64).enc)) ::
 (114,some shortE) :: (107,some withinE) :: (110,some comE) :: LAd
theorem LIh0_ok : ZC Tryz.prog LIh0:=⟨zO ⟨_,Tryz.func109,rfl,by kernel_rfl⟩ λ_ _=>llp_ok,zO ⟨_,Tryz.func75,rfl,by kernel_rfl⟩ λa _=>flag_ok a.1 a.2.1,zO ⟨_,Tryz.func111,rfl,by kernel_rfl⟩ λa h=>high_ok a.1 h,
 QF ⟨_,Tryz.func114,rfl,by kernel_rfl⟩ (λs l h x hx=>by injection h with h;subst h;obtain rfl:=List.mem_singleton.1 hx;exact zC7 nf_bool) λa _=>short_ok a.1,
 zO ⟨_,Tryz.func107,rfl,by kernel_rfl⟩ λa _=>within_ok a.1 a.2.1 a.2.2.1,zO ⟨_,Tryz.func110,rfl,by kernel_rfl⟩ λa h=>forCom_ok a.1 a.2.1 a.2.2.1 h,zBo⟩
def chE : ZD:=inlE T (mkQ LAd) 1 Tryz.f112.ntmps Tryz.f112.results.toList (Tryz.f112.body.getD Code.ret)
theorem chE_ok : EntOk Tryz.prog 112 chE:=zGw (by decide) zM (zT zBo) (ZE zBo) zN Tryz.func112 rfl rfl
def LIh1 : Qb:=(112,some chE) :: LIh0
theorem LIh1_ok : ZC Tryz.prog LIh1:=⟨chE_ok,LIh0_ok⟩
abbrev zEG (r : Form) : FV:=.e (zAk eFm eB r)
theorem zCT (a : Fin 16 -> Int) : zz (λq=>(eA .u8 16).cell a (0 + q)) (zf [CV.int .u8 0,CV.int .u8 0,CV.int .u8 0,CV.int .u8 0,CV.int .u8 0,CV.int .u8 0,CV.int .u8 0,CV.int .u8 0,CV.int .u8 0,CV.int .u8 0,CV.int .u8 0,CV.int .u8 0,CV.int .u8 0,CV.int .u8 0,CV.int .u8 0,CV.int .u8 0]) 16 0 = zBk a zI:=by
 refine (zDR (λj hj=>by rw [Nat.zero_add]) (λj hj=>?_)).trans (ip_from a zI);iterate 16 (rcases j with _ | j;exact rfl)
 exact absurd hj (by omega)
theorem pfx_rd {c : Ctx} {g : Nat -> CV} (h : ∀ q,g q = zb.cell c (1 + q)) : qS.rd g = Zy c:=by rw [funext h];exact YL c
theorem within_ll {a : Fin 16 -> Int} (ha : byteOk a) : YA llP (loF a) a = decide (hiF a = 18338657682652659712):=by
 unfold YA;rw [decide_eq_true (show vpf llP = true /\ llP.bits <= 64 from ⟨llP_v,by decide⟩),Bool.true_and,Bool.eq_iff_iff,zFT,jn_iff llP_b ha,llP_hi,decide_eq_true_eq];exact eq_comm
theorem within_cx {a : Fin 16 -> Int} {l : List Ctx} {now : Int} (ha : byteOk a) (hl : bytesL l) : zBj a l now = ((Zc l a now).2 && YA (Zy (Zc l a now).1) (loF a) a):=by
 unfold zBj;cases h : (Zc l a now).2 with
 | false=>rfl
 | true=>
   obtain ⟨h1,_,h2,_⟩:=zDt h;have hv:=(zFP h1 h2).2.2.2;have hb:=hl.b _ h2;rw [Bool.true_and,Bool.true_and];unfold YA;rw [show (Zy (Zc l a now).1).bits = (Zc l a now).1.bits from rfl,hv,Bool.eq_iff_iff];simp only [Bool.and_eq_true,decide_eq_true_eq,zFT,true_and];rw [jn_iff (show byteOk (Zy (Zc l a now).1).ip from hb) ha];exact Iff.rfl
theorem uni_0 {a : Fin 16 -> Int} {k : Adr} {source : Bool} {l : List Ctx} {now : Int} (h : source = true /\ zBk a zI = true) : QZ a k source l now = (⟨true,0,0⟩,[]):=if_pos h
theorem uni_1 {a : Fin 16 -> Int} {k : Adr} {source : Bool} {l : List Ctx} {now : Int} (h : ¬ (source = true /\ zBk a zI = true)) (h1 : hiF a = 18338657682652659712) : QZ a k source l now = (⟨false,0,(QW (loF a) k).1⟩,(QW (loF a) k).2):=by
 unfold QZ;rw [if_neg h,if_pos h1]
theorem uni_2 {a : Fin 16 -> Int} {k : Adr} {source : Bool} {l : List Ctx} {now : Int} (h : ¬ (source = true /\ zBk a zI = true)) (h1 : hiF a ≠ 18338657682652659712) (h2 : zBj a l now = true) : QZ a k source l now = (⟨true,(Zc l a now).1.id,(QW (loF a) k).1⟩,(QW (loF a) k).2):=by
 unfold QZ;rw [if_neg h,if_neg h1,if_pos h2]
theorem uni_3 {a : Fin 16 -> Int} {k : Adr} {source : Bool} {l : List Ctx} {now : Int} (h : ¬ (source = true /\ zBk a zI = true)) (h1 : hiF a ≠ 18338657682652659712) (h2 : zBj a l now = false) : QZ a k source l now = (⟨false,0,0⟩,YN a):=by
 unfold QZ;rw [if_neg h,if_neg h1,if_neg (by rw [h2];decide)]
theorem iids_2 {y : Int} {k : Adr} (h : ZJ k ≠ (y,true)) (h2 : bits .andNot .u64 y 65535 = 1099478073344) : QW y k = (2,qk y 2):=by
 unfold QW;rw [if_neg h,if_pos h2]
theorem iids_1 {y : Int} {k : Adr} (h : ZJ k ≠ (y,true)) (h2 : ¬ bits .andNot .u64 y 65535 = 1099478073344) : QW y k = (1,qk y 8):=by
 unfold QW;rw [if_neg h,if_neg h2]
theorem iids_2' {y : Int} {k : Adr} (h : ZJ k ≠ (y,true)) (h2 : (zAL y).2 = true) : QW y k = (2,(zAL y).1):=by
 unfold zAL at h2 ⊢;split at h2
 . rename_i g;rw [if_pos g,iids_2 h g]
 . cases h2
theorem iids_1' {y : Int} {k : Adr} (h : ZJ k ≠ (y,true)) (h2 : (zAL y).2 = false) : QW y k = (1,qk y 8):=by
 unfold zAL at h2;split at h2
 . cases h2
 . rename_i g;exact iids_1 h g
theorem uni_ok0 (a : Fin 16 -> Int) (k : Adr) (source : Bool) (l : List Ctx) (now : Int) (ha : byteOk a) (hl : bytesL l) (Z : source = true /\ zBk a zI = true) : zY Tryz.prog 72 [(cE (eA .u8 16)).enc a,(cE ZF).enc k,cB.enc source,(qf zb zq).enc l,(cI .i64).enc now] (zEG (QZ a k source l now)):=by
 rw [uni_0 Z];obtain ⟨Z1,Z2⟩:=Z;have Z3:=(zCT a).trans Z2;refine zG (wd:=64) (by decide) zM (zT LIh1_ok) zN Tryz.func72 rfl _ (by show 5 <= _;decide) _ ?_;repeat' (first | (apply And.intro<;>intro hc<;>(first | exact Bool.noConfusion hc | (exfalso;first | exact Bool.noConfusion (Z1.symm.trans hc) | exact Bool.noConfusion (Z3.symm.trans hc)) | (simp only [Zi] at hc<;>first | exact absurd rfl hc | (exfalso;first | exact Bool.noConfusion (Z1.symm.trans hc) | exact Bool.noConfusion (Z3.symm.trans hc)) | skip) | skip)) | (refine And.intro Za ?_) | (apply And.intro) | (intro s hs;skip))
 refine Done.mk (ZS (zk rfl (λj hj=>?_) (zW rfl)));iterate 3 (rcases j with _ | j;(first | exact zA rfl | exact zH rfl))
 exact absurd hj (by show ¬ _ < 3;omega)
theorem uni_ok1 (a : Fin 16 -> Int) (k : Adr) (source : Bool) (l : List Ctx) (now : Int) (ha : byteOk a) (hl : bytesL l) (Z : ¬ (source = true /\ zBk a zI = true)) : zY Tryz.prog 72 [(cE (eA .u8 16)).enc a,(cE ZF).enc k,cB.enc source,(qf zb zq).enc l,(cI .i64).enc now] (zEG (QZ a k source l now)):=by
 have u1:=λh=>uni_1 (k:=k) (l:=l) (now:=now) Z h;have u2:=λh g=>uni_2 (k:=k) (l:=l) (now:=now) Z h g;have u3:=λh g=>uni_3 (k:=k) (l:=l) (now:=now) Z h g;have hB:=within_ll ha;have hK:=within_cx (now:=now) ha hl;have i3:=λh=>zHq (k:=k) (y:=loF a) h;have i2:=λh g=>iids_2' (k:=k) (y:=loF a) h g;have i1:=λh g=>iids_1' (k:=k) (y:=loF a) h g;have hL:=beB_hi ha;have eS : zBX a = (hiF a,loF a):=rfl;have Z3:=zCT a;obtain ⟨W,eW⟩ : ∃ W,QZ a k source l now = W:=⟨_,rfl⟩;rw [eW] at u1 u2 u3 ⊢;obtain ⟨C,eC⟩ : ∃ C,Zc l a now = C:=⟨_,rfl⟩;obtain ⟨Hi,eHi⟩ : ∃ x,hiF a = x:=⟨_,rfl⟩;obtain ⟨Lo,eLo⟩ : ∃ x,loF a = x:=⟨_,rfl⟩;obtain ⟨I,eI⟩ : ∃ x,ZJ k = x:=⟨_,rfl⟩;obtain ⟨V,eV⟩ : ∃ x,zBj a l now = x:=⟨_,rfl⟩;obtain ⟨D,eD⟩ : ∃ x,QW (loF a) k = x:=⟨_,rfl⟩;rw [eLo] at eD;rw [eC,eLo,eV] at hK;rw [eHi,eLo] at hB;rw [eHi,eLo] at hL eS;rw [eHi,eLo,eD] at u1;rw [eHi,eLo,eD,eV,eC] at u2;rw [eHi,eV] at u3;rw [eI,eLo,eD] at i1 i2 i3;obtain ⟨Sh,eSh⟩ : ∃ x,zAL Lo = x:=⟨_,rfl⟩;rw [eSh] at i1 i2;obtain ⟨B,eB'⟩ : ∃ x,YA llP Lo a = x:=⟨_,rfl⟩;obtain ⟨K,eK⟩ : ∃ x,YA (Zy C.1) Lo a = x:=⟨_,rfl⟩;rw [eB'] at hB;rw [eK] at hK;clear eW eV eD;obtain ⟨g1,g2⟩:=zg2;refine zG (wd:=64) (by decide) zM (zT LIh1_ok) zN Tryz.func72 rfl _ (by show 5 <= _;decide) _ ?_;repeat' (first | (apply And.intro<;>intro hc<;>(first | exact Bool.noConfusion hc | (exfalso;first | exact Z ⟨‹_›,(Z3.symm.trans hc)⟩ | exact Bool.noConfusion ((by assumption : B = true).symm.trans hc) | exact Bool.noConfusion ((by assumption : B = false).symm.trans hc)) | (simp only [Zi] at hc<;>first | exact absurd rfl hc | (exfalso;first | exact Z ⟨‹_›,(Z3.symm.trans hc)⟩ | exact Bool.noConfusion ((by assumption : B = true).symm.trans hc) | exact Bool.noConfusion ((by assumption : B = false).symm.trans hc)) | skip) | skip)) | (refine And.intro Za ?_) | (apply And.intro) | (intro s hs;(first | (have q : (Hi,Lo) = s:=(hs.trans ((congrArg zBX (YV a)).trans eS)).symm;clear hs;subst q) | (have q : s = llP:=hs;clear hs;subst q) | (clear g1;have q : B = s:=(hs.trans ((congr (congrArg (λp b=>YA p Lo b) (zDv llP)) (zD8 (k:=.u8) a)).trans eB')).symm;clear hs;subst q) | (clear g2;have q : C = s:=(hs.trans ((congr (congrArg (λl b=>Zc l b now) (zU l)) (YV a)).trans eC)).symm;clear hs;subst q) | (have q : K = s:=(hs.trans ((congr (congrArg (λp b=>YA p Lo b) (pfx_rd (c:=C.1) (λq=>congrArg (zb.cell C.1) (by omega)))) (zD8 (k:=.u8) a)).trans eK)).symm;clear hs;subst q) | (have q : Hi = s:=(hs.trans ((congrArg hiF (YV a)).trans eHi)).symm;clear hs;subst q) | (have q : s = qk Hi 8:=hs;clear hs;subst q) | (have q : s = qk Hi 8 ++ qk Lo 8:=hs.trans (congrArg (· ++ qk Lo 8) (Zv (qk Hi 8)));clear hs;subst q) | (have q : I = s:=(hs.trans ((congrArg ZJ (zt k)).trans eI)).symm;clear hs;subst q) | (have q : Sh = s:=(hs.trans eSh).symm;clear hs;subst q) | (have q : s = qk Lo 8:=hs;clear hs;subst q) | skip)))
 all_goals first
  | exact rfl
  | exact absurd ((by assumption : B = true).symm.trans (by assumption : B = false)) (by decide)
  | exact Eq.mp (congrArg byteOk (YV a).symm) ha
  | (show (Zw zb l.length _).length <= _;rw [zS];have:=hl.n;omega)
  | exact Nat.zero_le _
  | (show (Zw eB (qk Hi 8).length _).length <= _;rw [zS];have:=zCS Hi 8;omega)
  | (have w:=u3 (of_decide_eq_false (hB.symm.trans ‹_›)) (hK.trans (by rw [show C.2 = false by assumption,Bool.false_and]))
     rw [w,<- hL];refine Done.mk (ZS (zk rfl (λj hj=>?_) (by first | exact zW rfl | exact ZW rfl rfl)));iterate 3 (rcases j with _ | j;(first | exact zA rfl | exact zH rfl))
     exact absurd hj (by show ¬ _ < 3;omega))
  | (have w:=u3 (of_decide_eq_false (hB.symm.trans ‹_›)) (hK.trans (by rw [show K = false by assumption,Bool.and_false]))
     rw [w,<- hL];refine Done.mk (ZS (zk rfl (λj hj=>?_) (by first | exact zW rfl | exact ZW rfl rfl)));iterate 3 (rcases j with _ | j;(first | exact zA rfl | exact zH rfl))
     exact absurd hj (by show ¬ _ < 3;omega))
  | (have d:=i3 (Prod.ext (by assumption : I.1 = Lo) (by assumption : I.2 = true))
     have w:=u1 (of_decide_eq_true (hB.symm.trans ‹_›));rw [w,d];refine Done.mk (ZS (zk rfl (λj hj=>?_) (by first | exact zW rfl | exact ZW rfl rfl)));iterate 3 (rcases j with _ | j;(first | exact zA rfl | exact zH rfl))
     exact absurd hj (by show ¬ _ < 3;omega))
  | (have d:=i3 (Prod.ext (by assumption : I.1 = Lo) (by assumption : I.2 = true))
     have w:=u2 (of_decide_eq_false (hB.symm.trans ‹_›)) (hK.trans (by rw [show C.2 = true by assumption,show K = true by assumption];rfl));rw [w,d];refine Done.mk (ZS (zk rfl (λj hj=>?_) (by first | exact zW rfl | exact ZW rfl rfl)));iterate 3 (rcases j with _ | j;(first | exact zA rfl | exact zH rfl))
     exact absurd hj (by show ¬ _ < 3;omega))
  | (have d:=i2 (λh=>Bool.noConfusion ((congrArg Prod.snd h).symm.trans (by assumption : I.2 = false))) ‹_›
     have w:=u1 (of_decide_eq_true (hB.symm.trans ‹_›));rw [w,d];refine Done.mk (ZS (zk rfl (λj hj=>?_) (by first | exact zW rfl | exact ZW rfl rfl)));iterate 3 (rcases j with _ | j;(first | exact zA rfl | exact zH rfl))
     exact absurd hj (by show ¬ _ < 3;omega))
  | (have d:=i2 (λh=>Bool.noConfusion ((congrArg Prod.snd h).symm.trans (by assumption : I.2 = false))) ‹_›
     have w:=u2 (of_decide_eq_false (hB.symm.trans ‹_›)) (hK.trans (by rw [show C.2 = true by assumption,show K = true by assumption];rfl));rw [w,d];refine Done.mk (ZS (zk rfl (λj hj=>?_) (by first | exact zW rfl | exact ZW rfl rfl)));iterate 3 (rcases j with _ | j;(first | exact zA rfl | exact zH rfl))
     exact absurd hj (by show ¬ _ < 3;omega))
  | (have d:=i2 (λh=>(by assumption : ¬ I.1 = Lo) (congrArg Prod.fst h)) ‹_›
     have w:=u1 (of_decide_eq_true (hB.symm.trans ‹_›));rw [w,d];refine Done.mk (ZS (zk rfl (λj hj=>?_) (by first | exact zW rfl | exact ZW rfl rfl)));iterate 3 (rcases j with _ | j;(first | exact zA rfl | exact zH rfl))
     exact absurd hj (by show ¬ _ < 3;omega))
  | (have d:=i2 (λh=>(by assumption : ¬ I.1 = Lo) (congrArg Prod.fst h)) ‹_›
     have w:=u2 (of_decide_eq_false (hB.symm.trans ‹_›)) (hK.trans (by rw [show C.2 = true by assumption,show K = true by assumption];rfl));rw [w,d];refine Done.mk (ZS (zk rfl (λj hj=>?_) (by first | exact zW rfl | exact ZW rfl rfl)));iterate 3 (rcases j with _ | j;(first | exact zA rfl | exact zH rfl))
     exact absurd hj (by show ¬ _ < 3;omega))
  | (have d:=i1 (λh=>Bool.noConfusion ((congrArg Prod.snd h).symm.trans (by assumption : I.2 = false))) ‹_›
     have w:=u1 (of_decide_eq_true (hB.symm.trans ‹_›));rw [w,d];refine Done.mk (ZS (zk rfl (λj hj=>?_) (by first | exact zW rfl | exact ZW rfl rfl)));iterate 3 (rcases j with _ | j;(first | exact zA rfl | exact zH rfl))
     exact absurd hj (by show ¬ _ < 3;omega))
  | (have d:=i1 (λh=>Bool.noConfusion ((congrArg Prod.snd h).symm.trans (by assumption : I.2 = false))) ‹_›
     have w:=u2 (of_decide_eq_false (hB.symm.trans ‹_›)) (hK.trans (by rw [show C.2 = true by assumption,show K = true by assumption];rfl));rw [w,d];refine Done.mk (ZS (zk rfl (λj hj=>?_) (by first | exact zW rfl | exact ZW rfl rfl)));iterate 3 (rcases j with _ | j;(first | exact zA rfl | exact zH rfl))
     exact absurd hj (by show ¬ _ < 3;omega))
  | (have d:=i1 (λh=>(by assumption : ¬ I.1 = Lo) (congrArg Prod.fst h)) ‹_›
     have w:=u1 (of_decide_eq_true (hB.symm.trans ‹_›));rw [w,d];refine Done.mk (ZS (zk rfl (λj hj=>?_) (by first | exact zW rfl | exact ZW rfl rfl)));iterate 3 (rcases j with _ | j;(first | exact zA rfl | exact zH rfl))
     exact absurd hj (by show ¬ _ < 3;omega))
  | (have d:=i1 (λh=>(by assumption : ¬ I.1 = Lo) (congrArg Prod.fst h)) ‹_›
     have w:=u2 (of_decide_eq_false (hB.symm.trans ‹_›)) (hK.trans (by rw [show C.2 = true by assumption,show K = true by assumption];rfl));rw [w,d];refine Done.mk (ZS (zk rfl (λj hj=>?_) (by first | exact zW rfl | exact ZW rfl rfl)));iterate 3 (rcases j with _ | j;(first | exact zA rfl | exact zH rfl))
     exact absurd hj (by show ¬ _ < 3;omega))
  | skip
theorem zr_at {a : Fin 16 -> Int} {i j : Nat} (h : zr a i j = true) : ∀ k,i <= k -> k < j -> k < 16 -> zQ a k = 0:=by
 intro k h1 h2 h3;unfold zr at h;rw [List.all_eq_true] at h;have:=h (zQ a k) (by
  rw [List.mem_iff_getElem?];refine ⟨k - i,?_⟩;rw [List.getElem?_take,if_pos (by omega),List.getElem?_drop,show i + (k - i) = k by omega];unfold YN;rw [List.getElem?_map,List.getElem?_range h3];rfl)
 exact of_decide_eq_true this
theorem zr_of {a : Fin 16 -> Int} {i j : Nat} (h : ∀ k,i <= k -> k < j -> k < 16 -> zQ a k = 0) : zr a i j = true:=by
 unfold zr;rw [List.all_eq_true];intro x hx;obtain ⟨q,hq⟩:=List.mem_iff_getElem?.1 hx;rw [List.getElem?_take] at hq;split at hq
 . rename_i hlt;rw [List.getElem?_drop] at hq;have hl : i + q < 16:=by
    have:=(List.getElem?_eq_some_iff.1 hq).1;rw [Zh] at this;exact this
   unfold YN at hq;rw [List.getElem?_map,List.getElem?_range hl] at hq;injection hq with hq;rw [<- hq];exact decide_eq_true (h (i + q) (by omega) (by omega) hl)
 . cases hq
theorem zr_no {a : Fin 16 -> Int} {i j k : Nat} (h1 : i <= k) (h2 : k < j) (h3 : k < 16) (h : zQ a k ≠ 0) : zr a i j = false:=by
 cases hz : zr a i j with
 | false=>rfl
 | true=>exact absurd (zr_at hz k h1 h2 h3) h
abbrev encFmG (r : Form) : FV:=.e (zAk eFm eB r)
def LIh00 : Qb:=(75,some (ZH (AC.cons cB (AC.cons (cI .i64) AC.nil)) (λ_=>True) (λa=>qL a.1 a.2.1) (cI .i64).enc)) :: LAd
theorem LIh00_ok : ZC Tryz.prog LIh00:=⟨zO ⟨_,Tryz.func75,rfl,by kernel_rfl⟩ λa _=>flag_ok a.1 a.2.1,zBo⟩
structure ZrS (z : List Int) where
 k : Nat
 hk : k <= z.length
 h : ∀ q,q < k -> z.getD q default = 0
theorem all_zero {z : List Int} (h : ∀ q,q < z.length -> z.getD q default = 0) : z.all (λx=>x == 0) = true:=by
 rw [List.all_eq_true];intro x hx;obtain ⟨q,hq,rfl⟩:=List.mem_iff_getElem.1 hx;have:=h q hq;rw [List.getD_eq_getElem?_getD,List.getElem?_eq_getElem hq] at this;exact decide_eq_true this
theorem not_zero {z : List Int} {q : Nat} (hq : q < z.length) (h : z.getD q default ≠ 0) : z.all (λx=>x == 0) = false:=by
 cases hz : z.all (λx=>x == 0) with
 | false=>rfl
 | true=>
   rw [List.all_eq_true] at hz;have:=hz z[q] (List.getElem_mem hq);rw [List.getD_eq_getElem?_getD,List.getElem?_eq_getElem hq] at h;exact absurd (of_decide_eq_true this) h
theorem zero_ok (a : Fin 16 -> Int) (i j : Nat) (hij : i <= j /\ j <= 16) : zY Tryz.prog 115 [(cI .i64).enc (i : Int),(cI .i64).enc (j : Int),(cPv (eA .u8 16)).enc a] (cB.enc (zr a i j)):=by
 obtain ⟨z,hz⟩ : ∃ z,z = ((YN a).drop i).take (j - i):=⟨_,rfl⟩;have hzl : z.length = j - i:=by rw [hz,List.length_take,List.length_drop,Zh];omega
 have hw : zr a i j = z.all (λx=>x == 0):=by rw [hz];rfl
 rw [hw];obtain ⟨w,eW⟩ : ∃ w,z.all (λx=>x == 0) = w:=⟨_,rfl⟩;rw [eW];refine zG (wd:=1) (by decide) zM (zT ZG) zN Tryz.func115 rfl _ (by show 3 <= _;decide) _ ?_;repeat' (first | (apply And.intro<;>intro hc<;>(first | exact Bool.noConfusion hc | (simp only [qm] at hc) | skip)) | (refine And.intro Ql ?_) | (apply And.intro) | (intro s hs))
 . exact Nat.le_refl 16
 refine zp (ZE ZG) (λs : ZrS z=>(⟨[(10,one (.sl false z.length eB.sz (zn eB z))),(11,one (.int .i64 (z.length : Int))),(12,one (.int .i64 (s.k : Int)))],[],0⟩ : Hd)) (λs=>z.length - s.k) (λ_=>rfl) ?_ ⟨0,by omega,λq h=>absurd h (by omega)⟩ [] ?_
 . rintro ⟨k,hk,h⟩;dsimp only at hk h ⊢;repeat' (first | (apply And.intro<;>intro hc<;>(first | exact Bool.noConfusion hc | (simp only [qm] at hc) | skip)) | (refine And.intro Ql ?_) | (apply And.intro) | (intro s hs))
   . have e : w = false:=by rw [<- eW];exact not_zero (q:=k) (by omega) hc
     rw [e];exact Done.mk (zC rfl)
   . refine ⟨⟨k + 1,by omega,λq hq=>?_⟩,[],by dsimp only<;>omega,rfl,?_,?_⟩
     . by_cases e : q = k
       . rw [e];exact hc
       . exact h q (by omega)
     . repeat' (first | exact qH | refine zF ?_ | refine zC ?_ | exact qI | apply And.intro)
       exact zaw
     . exact QI
   . have e : w = true:=by rw [<- eW];exact all_zero λq hq=>h q (by omega)
     rw [e];exact Done.mk (zC rfl)
 . refine ⟨rfl,?_,?_⟩
   . repeat' (first | exact qH | refine zF ?_ | refine zC ?_ | exact qI | apply And.intro)
     . refine qM (qh (λh=>by cases h) ?_ rfl λq hq c hc=>?_)
       . show (j : Int).toNat - (i : Int).toNat = z.length;omega
       . obtain rfl : c = 0:=by omega
         refine zA ?_;show zQ a _ = z.getD q default;have hq' : q < z.length:=by omega
         rw [hz,zBd _ _ _ _ (by omega) (by rw [Zh];omega),zCQ a (by omega)];exact congrArg (zQ a) (by omega)
     . show (((j : Int).toNat - (i : Int).toNat : Nat) : Int) = z.length;omega
   . exact QI
abbrev zeroE : ZD:=ZH (AC.cons (cI .i64) (AC.cons (cI .i64) (AC.cons (cPv (eA .u8 16)) AC.nil))) (λa=>0 <= a.1 /\ a.1 <= a.2.1 /\ a.2.1 <= 16) (λa=>zr a.2.2.1 a.1.toNat a.2.1.toNat) cB.enc
theorem zero_okI (a : Fin 16 -> Int) (i j : Int) (h : 0 <= i /\ i <= j /\ j <= 16) : zY Tryz.prog 115 [(cI .i64).enc i,(cI .i64).enc j,(cPv (eA .u8 16)).enc a] (cB.enc (zr a i.toNat j.toNat)):=by
 obtain ⟨m,rfl⟩ : ∃ m : Nat,i = m:=⟨i.toNat,by omega⟩;obtain ⟨n,rfl⟩ : ∃ n : Nat,j = n:=⟨j.toNat,by omega⟩;exact zero_ok a m n (by omega)
def LIh2 : Qb:=(115,some zeroE) :: LIh00
theorem zDX : ZC Tryz.prog LIh2:=⟨zO ⟨_,Tryz.func115,rfl,by kernel_rfl⟩ λa h=>zero_okI a.2.2.1 a.1 a.2.1 h,LIh00_ok⟩
theorem grp_ok (a : Fin 16 -> Int) : zY Tryz.prog 74 [(cE (eA .u8 16)).enc a] (encFmG (zBH a)):=by
 obtain ⟨z15,e15⟩ : ∃ x,zr a 2 15 = x:=⟨_,rfl⟩;obtain ⟨z13,e13⟩ : ∃ x,zr a 2 13 = x:=⟨_,rfl⟩;obtain ⟨z11,e11⟩ : ∃ x,zr a 2 11 = x:=⟨_,rfl⟩;obtain ⟨W,eW⟩ : ∃ W,zBH a = W:=⟨_,rfl⟩;rw [eW];unfold zBH at eW;rw [e15,e13,e11] at eW;have k1 : zQ a (0 + Int.toNat 1 * 1 + 0) = 2 -> z15 = true -> W = (⟨false,0,3⟩,[zQ a 15]):=λh g=>by rw [<- eW];exact if_pos ⟨h,g⟩
 have k0 : (¬ zQ a (0 + Int.toNat 1 * 1 + 0) = 2 \/ z15 = false) -> ¬ (zQ a 1 = 2 /\ z15 = true):=λh g=>h.elim (λh=>h g.1) (λh=>Bool.noConfusion (h.symm.trans g.2));have k2 : (¬ zQ a (0 + Int.toNat 1 * 1 + 0) = 2 \/ z15 = false) -> z13 = true -> W = (⟨false,0,2⟩,[zQ a 1,zQ a 13,zQ a 14,zQ a 15]):=λh g=>by rw [<- eW,if_neg (k0 h),if_pos g]
 have k3 : (¬ zQ a (0 + Int.toNat 1 * 1 + 0) = 2 \/ z15 = false) -> z13 = false -> z11 = true -> W = (⟨false,0,1⟩,[zQ a 1,zQ a 11,zQ a 12,zQ a 13,zQ a 14,zQ a 15]):=λh g g'=>by rw [<- eW,if_neg (k0 h),if_neg (λf=>Bool.noConfusion (g.symm.trans f)),if_pos g']
 have k4 : (¬ zQ a (0 + Int.toNat 1 * 1 + 0) = 2 \/ z15 = false) -> z13 = false -> z11 = false -> W = (⟨false,0,0⟩,YN a):=λh g g'=>by rw [<- eW,if_neg (k0 h),if_neg (λf=>Bool.noConfusion (g.symm.trans f)),if_neg (λf=>Bool.noConfusion (g'.symm.trans f))]
 clear eW k0;refine zG (wd:=1) (by decide) zM (zT zDX) zN Tryz.func74 rfl _ (by show 1 <= _;decide) _ ?_;repeat' (first | (apply And.intro<;>intro hc<;>(first | exact Bool.noConfusion hc | (simp only [Zi] at hc<;>first | exact absurd rfl hc | skip) | skip)) | (refine And.intro Za ?_) | (apply And.intro) | (intro s hs;(first | (have q : z15 = s:=(hs.trans ((congrArg (λb=>zr b 2 15) (zD8 (k:=.u8) a)).trans e15)).symm;clear hs;subst q) | (have q : z13 = s:=(hs.trans ((congrArg (λb=>zr b 2 13) (zD8 (k:=.u8) a)).trans e13)).symm;clear hs;subst q) | (have q : z11 = s:=(hs.trans ((congrArg (λb=>zr b 2 11) (zD8 (k:=.u8) a)).trans e11)).symm;clear hs;subst q))))
 all_goals first
  | (rw [k1 ‹_› ‹_›]
     refine Done.mk (ZS (zk rfl (λj hj=>?_) (zX (l:=[zQ a 15]) rfl rfl rfl rfl (Nat.le_of_eq rfl) ⟨λk hk=>?_⟩)))
     . iterate 3 (rcases j with _ | j;(first | exact zA rfl | exact zH rfl))
       exact absurd hj (by show ¬ _ < 3;omega)
     . iterate 1 (rcases k with _ | k;exact rfl)
       exact absurd hk (by show ¬ _ < 1;omega))
  | (rw [k2 (.inl ‹_›) ‹_›]
     refine Done.mk (ZS (zk rfl (λj hj=>?_) (zX (l:=[zQ a 1,zQ a 13,zQ a 14,zQ a 15]) rfl rfl rfl rfl (Nat.le_of_eq rfl) ⟨λk hk=>?_⟩)))
     . iterate 3 (rcases j with _ | j;(first | exact zA rfl | exact zH rfl))
       exact absurd hj (by show ¬ _ < 3;omega)
     . iterate 4 (rcases k with _ | k;exact rfl)
       exact absurd hk (by show ¬ _ < 4;omega))
  | (rw [k3 (.inl ‹_›) ‹_› ‹_›]
     refine Done.mk (ZS (zk rfl (λj hj=>?_) (zX (l:=[zQ a 1,zQ a 11,zQ a 12,zQ a 13,zQ a 14,zQ a 15]) rfl rfl rfl rfl (Nat.le_of_eq rfl) ⟨λk hk=>?_⟩)))
     . iterate 3 (rcases j with _ | j;(first | exact zA rfl | exact zH rfl))
       exact absurd hj (by show ¬ _ < 3;omega)
     . iterate 6 (rcases k with _ | k;exact rfl)
       exact absurd hk (by show ¬ _ < 6;omega))
  | (rw [k4 (.inl ‹_›) ‹_› ‹_›]
     refine Done.mk (ZS (zk rfl (λj hj=>?_) (zX (l:=YN a) rfl rfl rfl rfl (Nat.le_of_eq rfl) ⟨λk hk=>?_⟩)))
     . iterate 3 (rcases j with _ | j;(first | exact zA rfl | exact zH rfl))
       exact absurd hj (by show ¬ _ < 3;omega)
     . iterate 16 (rcases k with _ | k;exact rfl)
       exact absurd hk (by show ¬ _ < 16;omega))
  | (rw [k2 (.inr ‹_›) ‹_›]
     refine Done.mk (ZS (zk rfl (λj hj=>?_) (zX (l:=[zQ a 1,zQ a 13,zQ a 14,zQ a 15]) rfl rfl rfl rfl (Nat.le_of_eq rfl) ⟨λk hk=>?_⟩)))
     . iterate 3 (rcases j with _ | j;(first | exact zA rfl | exact zH rfl))
       exact absurd hj (by show ¬ _ < 3;omega)
     . iterate 4 (rcases k with _ | k;exact rfl)
       exact absurd hk (by show ¬ _ < 4;omega))
  | (rw [k3 (.inr ‹_›) ‹_› ‹_›]
     refine Done.mk (ZS (zk rfl (λj hj=>?_) (zX (l:=[zQ a 1,zQ a 11,zQ a 12,zQ a 13,zQ a 14,zQ a 15]) rfl rfl rfl rfl (Nat.le_of_eq rfl) ⟨λk hk=>?_⟩)))
     . iterate 3 (rcases j with _ | j;(first | exact zA rfl | exact zH rfl))
       exact absurd hj (by show ¬ _ < 3;omega)
     . iterate 6 (rcases k with _ | k;exact rfl)
       exact absurd hk (by show ¬ _ < 6;omega))
  | (rw [k4 (.inr ‹_›) ‹_› ‹_›]
     refine Done.mk (ZS (zk rfl (λj hj=>?_) (zX (l:=YN a) rfl rfl rfl rfl (Nat.le_of_eq rfl) ⟨λk hk=>?_⟩)))
     . iterate 3 (rcases j with _ | j;(first | exact zA rfl | exact zH rfl))
       exact absurd hj (by show ¬ _ < 3;omega)
     . iterate 16 (rcases k with _ | k;exact rfl)
       exact absurd hk (by show ¬ _ < 16;omega))
  | skip
theorem check_ok (f t : Adr) (l : List Ctx) (now : Int) (hl : l.length <= 9223372036854775807) : zY Tryz.prog 70 [(cE ZF).enc f,(cE ZF).enc t,(qf zb zq).enc l,(cI .i64).enc now] ((cI .i64).enc (Zj f t l now)):=by
 obtain ⟨x,ex⟩ : ∃ x,ZQ f = x:=⟨_,rfl⟩;obtain ⟨y,ey⟩ : ∃ x,ZQ t = x:=⟨_,rfl⟩;obtain ⟨z,ez⟩ : ∃ x,Zd l = x:=⟨_,rfl⟩;obtain ⟨W,eW⟩ : ∃ W,Zj f t l now = W:=⟨_,rfl⟩;rw [eW];unfold Zj vt at eW;rw [ex,ey,ez] at eW;obtain ⟨g1,g2⟩:=zg2;refine zG (wd:=1) (by decide) zM (zT zDX) zN Tryz.func70 rfl _ (by show 4 <= _;decide) _ ?_;repeat' (first | (apply And.intro<;>intro hc<;>(first | exact Bool.noConfusion hc | (simp only [Zi] at hc<;>first | exact absurd rfl hc | skip) | skip)) | (refine And.intro Za ?_) | (apply And.intro) | (intro s hs;(first | (clear g1;have q : x = s:=(hs.trans ((congrArg ZQ (zt f)).trans ex)).symm;clear hs;subst q) | (clear g2;have q : y = s:=(hs.trans ((congrArg ZQ (zt t)).trans ey)).symm;clear hs;subst q) | (have q : z = s:=(hs.trans ((congrArg Zd (zU l)).trans ez)).symm;clear hs;subst q))))
 all_goals first
  | (show (Zw zb l.length _).length <= _;rw [zS];exact hl)
  | (refine Done.mk (zF ?_)
     rw [<- eW];simp [*];done)
  | (refine Done.mk (zF ?_)
     rw [<- eW];simp [*];omega)
  | skip
abbrev zEH (r : Int × List Int) : FV:=.tup [.c (.int .i64 r.1),.c (slR eB r.2)]
theorem len3 {l : List Int} (h : l.length = 3) : ∃ x y z,l = [x,y,z]:=by
 rcases l with _ | ⟨x,_ | ⟨y,_ | ⟨z,_ | ⟨v,l⟩⟩⟩⟩;all_goals first
  | exact ⟨_,_,_,rfl⟩
  | (simp at h;done)
  | (simp at h;omega)
theorem fields_17 (p : Zz) (hf : 0 <= p.1.flow /\ p.1.flow < 4294967296) (hn : p.1.nxt = 17) : zY Tryz.prog 71 [cPk.enc p] (zEH (Qi p,zA1 p)):=by
 have w1 : IntKind.u64.wrap p.1.flow = p.1.flow:=IntWalk.u64_in _ (by omega);obtain ⟨f1,f2,f3,e3⟩:=len3 (zGI p.1.flow 3 (by decide));have e3' : qk p.1.flow 3 = [f1,f2,f3]:=e3;have eF : qk (IntKind.u64.wrap p.1.flow) 3 = [f1,f2,f3]:=by rw [w1];exact e3
 have c0 : ¬ p.1.cls = 0 -> ¬ p.1.flow = 0 -> Zx p = (0,[p.1.cls,f1,f2,f3]):=λh g=>by unfold Zx;rw [if_pos ⟨h,g⟩,e3'];rfl
 have c1 : p.1.cls = 0 -> ¬ p.1.flow = 0 -> Zx p = (1,[f1,f2,f3]):=λh g=>by unfold Zx;rw [if_neg (λx=>x.1 h),if_pos g,e3'];rfl
 have c2 : p.1.flow = 0 -> ¬ p.1.cls = 0 -> Zx p = (2,[p.1.cls]):=λh g=>by unfold Zx;rw [if_neg (λx=>x.2 h),if_neg (λx=>x h),if_pos g]
 have c3 : p.1.flow = 0 -> p.1.cls = 0 -> Zx p = (3,[]):=λh g=>by unfold Zx;rw [if_neg (λx=>x.2 h),if_neg (λx=>x h),if_neg (λx=>x g)]
 have h1 : p.1.hops = 1 -> zAB p.1.hops = 1:=λh=>by rw [h];rfl
 have h2 : p.1.hops = 64 -> zAB p.1.hops = 2:=λh=>by rw [h];rfl
 have h3 : p.1.hops = 255 -> zAB p.1.hops = 3:=λh=>by rw [h];rfl
 have h0 : ¬ p.1.hops = 1 -> ¬ p.1.hops = 64 -> ¬ p.1.hops = 255 -> zAB p.1.hops = 0:=λa b c=>by unfold zAB;rw [if_neg a,if_neg b,if_neg c]
 have eb : qL (decide (p.1.nxt = 17)) 4 = 4:=by unfold qL;rw [decide_eq_true hn];rfl
 obtain ⟨W,eW⟩ : ∃ W,(Qi p,zA1 p) = W:=⟨_,rfl⟩;have hW : W = (96 + 8 * (Zx p).1 + 4 + zAB p.1.hops,(Zx p).2 ++ [] ++ (if zAB p.1.hops = 0 then [p.1.hops] else [])):=by
  rw [<- eW];unfold Qi zA1;rw [eb,if_pos hn]
 rw [eW];clear eW e3 e3' w1;refine zG (wd:=1) (by decide) zM (zT zDX) zN Tryz.func71 rfl _ (by show 1 <= _;decide) _ ?_;repeat' (first | (apply And.intro<;>intro hc<;>(first | exact Bool.noConfusion hc | (exfalso;first | exact absurd hn hc | exact absurd hc hn | exact absurd (by assumption : p.1.flow = 0) hc | exact absurd hc (by assumption : ¬ p.1.flow = 0) | exact absurd (by assumption : p.1.cls = 0) hc | exact absurd hc (by assumption : ¬ p.1.cls = 0)) | (simp only [Zi] at hc<;>first | exact absurd rfl hc | (exfalso;first | exact absurd hn hc | exact absurd hc hn | exact absurd (by assumption : p.1.flow = 0) hc | exact absurd hc (by assumption : ¬ p.1.flow = 0) | exact absurd (by assumption : p.1.cls = 0) hc | exact absurd hc (by assumption : ¬ p.1.cls = 0)) | skip) | skip)) | (refine And.intro Za ?_) | (apply And.intro) | (intro s hs;(first | (have q : s = 4:=hs.trans eb;clear hs;subst q) | (have q : s = [p.1.cls,f1,f2,f3]:=hs.trans (congrArg ([p.1.cls] ++ ·) eF);clear hs;subst q) | (have q : s = [f1,f2,f3]:=hs.trans eF;clear hs;subst q) | skip)))
 all_goals try (first | exact Nat.le_refl _ | exact rfl | exact Nat.le_of_ble_eq_true rfl | exact Nat.zero_le _ | (show (Zw eB _ _).length <= _;rw [zS];decide))
 all_goals first
  | (have e:=hW
     rw [c0 ‹_› ‹_›,h1 ‹_›] at e;rw [e];refine Done.mk (zE ⟨zA rfl,?_,trivial⟩);first
      | exact zW rfl
      | (refine zX rfl rfl rfl rfl (Nat.le_of_eq rfl) ⟨λk hk=>?_⟩
         rcases k with _ | _ | _ | _ | _ | _ | k;all_goals first
          | exact rfl
          | exact zno hk
          | exact zab hk))
  | (have e:=hW
     rw [c0 ‹_› ‹_›,h2 ‹_›] at e;rw [e];refine Done.mk (zE ⟨zA rfl,?_,trivial⟩);first
      | exact zW rfl
      | (refine zX rfl rfl rfl rfl (Nat.le_of_eq rfl) ⟨λk hk=>?_⟩
         rcases k with _ | _ | _ | _ | _ | _ | k;all_goals first
          | exact rfl
          | exact zno hk
          | exact zab hk))
  | (have e:=hW
     rw [c0 ‹_› ‹_›,h3 ‹_›] at e;rw [e];refine Done.mk (zE ⟨zA rfl,?_,trivial⟩);first
      | exact zW rfl
      | (refine zX rfl rfl rfl rfl (Nat.le_of_eq rfl) ⟨λk hk=>?_⟩
         rcases k with _ | _ | _ | _ | _ | _ | k;all_goals first
          | exact rfl
          | exact zno hk
          | exact zab hk))
  | (have e:=hW
     rw [c0 ‹_› ‹_›,h0 ‹_› ‹_› ‹_›] at e;rw [e];refine Done.mk (zE ⟨zA rfl,?_,trivial⟩);first
      | exact zW rfl
      | (refine zX rfl rfl rfl rfl (Nat.le_of_eq rfl) ⟨λk hk=>?_⟩
         rcases k with _ | _ | _ | _ | _ | _ | k;all_goals first
          | exact rfl
          | exact zno hk
          | exact zab hk))
  | (have e:=hW
     rw [c1 ‹_› ‹_›,h1 ‹_›] at e;rw [e];refine Done.mk (zE ⟨zA rfl,?_,trivial⟩);first
      | exact zW rfl
      | (refine zX rfl rfl rfl rfl (Nat.le_of_eq rfl) ⟨λk hk=>?_⟩
         rcases k with _ | _ | _ | _ | _ | _ | k;all_goals first
          | exact rfl
          | exact zno hk
          | exact zab hk))
  | (have e:=hW
     rw [c1 ‹_› ‹_›,h2 ‹_›] at e;rw [e];refine Done.mk (zE ⟨zA rfl,?_,trivial⟩);first
      | exact zW rfl
      | (refine zX rfl rfl rfl rfl (Nat.le_of_eq rfl) ⟨λk hk=>?_⟩
         rcases k with _ | _ | _ | _ | _ | _ | k;all_goals first
          | exact rfl
          | exact zno hk
          | exact zab hk))
  | (have e:=hW
     rw [c1 ‹_› ‹_›,h3 ‹_›] at e;rw [e];refine Done.mk (zE ⟨zA rfl,?_,trivial⟩);first
      | exact zW rfl
      | (refine zX rfl rfl rfl rfl (Nat.le_of_eq rfl) ⟨λk hk=>?_⟩
         rcases k with _ | _ | _ | _ | _ | _ | k;all_goals first
          | exact rfl
          | exact zno hk
          | exact zab hk))
  | (have e:=hW
     rw [c1 ‹_› ‹_›,h0 ‹_› ‹_› ‹_›] at e;rw [e];refine Done.mk (zE ⟨zA rfl,?_,trivial⟩);first
      | exact zW rfl
      | (refine zX rfl rfl rfl rfl (Nat.le_of_eq rfl) ⟨λk hk=>?_⟩
         rcases k with _ | _ | _ | _ | _ | _ | k;all_goals first
          | exact rfl
          | exact zno hk
          | exact zab hk))
  | (have e:=hW
     rw [c2 ‹_› ‹_›,h1 ‹_›] at e;rw [e];refine Done.mk (zE ⟨zA rfl,?_,trivial⟩);first
      | exact zW rfl
      | (refine zX rfl rfl rfl rfl (Nat.le_of_eq rfl) ⟨λk hk=>?_⟩
         rcases k with _ | _ | _ | _ | _ | _ | k;all_goals first
          | exact rfl
          | exact zno hk
          | exact zab hk))
  | (have e:=hW
     rw [c2 ‹_› ‹_›,h2 ‹_›] at e;rw [e];refine Done.mk (zE ⟨zA rfl,?_,trivial⟩);first
      | exact zW rfl
      | (refine zX rfl rfl rfl rfl (Nat.le_of_eq rfl) ⟨λk hk=>?_⟩
         rcases k with _ | _ | _ | _ | _ | _ | k;all_goals first
          | exact rfl
          | exact zno hk
          | exact zab hk))
  | (have e:=hW
     rw [c2 ‹_› ‹_›,h3 ‹_›] at e;rw [e];refine Done.mk (zE ⟨zA rfl,?_,trivial⟩);first
      | exact zW rfl
      | (refine zX rfl rfl rfl rfl (Nat.le_of_eq rfl) ⟨λk hk=>?_⟩
         rcases k with _ | _ | _ | _ | _ | _ | k;all_goals first
          | exact rfl
          | exact zno hk
          | exact zab hk))
  | (have e:=hW
     rw [c2 ‹_› ‹_›,h0 ‹_› ‹_› ‹_›] at e;rw [e];refine Done.mk (zE ⟨zA rfl,?_,trivial⟩);first
      | exact zW rfl
      | (refine zX rfl rfl rfl rfl (Nat.le_of_eq rfl) ⟨λk hk=>?_⟩
         rcases k with _ | _ | _ | _ | _ | _ | k;all_goals first
          | exact rfl
          | exact zno hk
          | exact zab hk))
  | (have e:=hW
     rw [c3 ‹_› ‹_›,h1 ‹_›] at e;rw [e];refine Done.mk (zE ⟨zA rfl,?_,trivial⟩);first
      | exact zW rfl
      | (refine zX rfl rfl rfl rfl (Nat.le_of_eq rfl) ⟨λk hk=>?_⟩
         rcases k with _ | _ | _ | _ | _ | _ | k;all_goals first
          | exact rfl
          | exact zno hk
          | exact zab hk))
  | (have e:=hW
     rw [c3 ‹_› ‹_›,h2 ‹_›] at e;rw [e];refine Done.mk (zE ⟨zA rfl,?_,trivial⟩);first
      | exact zW rfl
      | (refine zX rfl rfl rfl rfl (Nat.le_of_eq rfl) ⟨λk hk=>?_⟩
         rcases k with _ | _ | _ | _ | _ | _ | k;all_goals first
          | exact rfl
          | exact zno hk
          | exact zab hk))
  | (have e:=hW
     rw [c3 ‹_› ‹_›,h3 ‹_›] at e;rw [e];refine Done.mk (zE ⟨zA rfl,?_,trivial⟩);first
      | exact zW rfl
      | (refine zX rfl rfl rfl rfl (Nat.le_of_eq rfl) ⟨λk hk=>?_⟩
         rcases k with _ | _ | _ | _ | _ | _ | k;all_goals first
          | exact rfl
          | exact zno hk
          | exact zab hk))
  | (have e:=hW
     rw [c3 ‹_› ‹_›,h0 ‹_› ‹_› ‹_›] at e;rw [e];refine Done.mk (zE ⟨zA rfl,?_,trivial⟩);first
      | exact zW rfl
      | (refine zX rfl rfl rfl rfl (Nat.le_of_eq rfl) ⟨λk hk=>?_⟩
         rcases k with _ | _ | _ | _ | _ | _ | k;all_goals first
          | exact rfl
          | exact zno hk
          | exact zab hk))
  | skip
theorem fields_no (p : Zz) (hf : 0 <= p.1.flow /\ p.1.flow < 4294967296) (hn : ¬ p.1.nxt = 17) : zY Tryz.prog 71 [cPk.enc p] (zEH (Qi p,zA1 p)):=by
 have w1 : IntKind.u64.wrap p.1.flow = p.1.flow:=IntWalk.u64_in _ (by omega);obtain ⟨f1,f2,f3,e3⟩:=len3 (zGI p.1.flow 3 (by decide));have e3' : qk p.1.flow 3 = [f1,f2,f3]:=e3;have eF : qk (IntKind.u64.wrap p.1.flow) 3 = [f1,f2,f3]:=by rw [w1];exact e3
 have c0 : ¬ p.1.cls = 0 -> ¬ p.1.flow = 0 -> Zx p = (0,[p.1.cls,f1,f2,f3]):=λh g=>by unfold Zx;rw [if_pos ⟨h,g⟩,e3'];rfl
 have c1 : p.1.cls = 0 -> ¬ p.1.flow = 0 -> Zx p = (1,[f1,f2,f3]):=λh g=>by unfold Zx;rw [if_neg (λx=>x.1 h),if_pos g,e3'];rfl
 have c2 : p.1.flow = 0 -> ¬ p.1.cls = 0 -> Zx p = (2,[p.1.cls]):=λh g=>by unfold Zx;rw [if_neg (λx=>x.2 h),if_neg (λx=>x h),if_pos g]
 have c3 : p.1.flow = 0 -> p.1.cls = 0 -> Zx p = (3,[]):=λh g=>by unfold Zx;rw [if_neg (λx=>x.2 h),if_neg (λx=>x h),if_neg (λx=>x g)]
 have h1 : p.1.hops = 1 -> zAB p.1.hops = 1:=λh=>by rw [h];rfl
 have h2 : p.1.hops = 64 -> zAB p.1.hops = 2:=λh=>by rw [h];rfl
 have h3 : p.1.hops = 255 -> zAB p.1.hops = 3:=λh=>by rw [h];rfl
 have h0 : ¬ p.1.hops = 1 -> ¬ p.1.hops = 64 -> ¬ p.1.hops = 255 -> zAB p.1.hops = 0:=λa b c=>by unfold zAB;rw [if_neg a,if_neg b,if_neg c]
 have eb : qL (decide (p.1.nxt = 17)) 4 = 0:=by unfold qL;rw [decide_eq_false hn];rfl
 obtain ⟨W,eW⟩ : ∃ W,(Qi p,zA1 p) = W:=⟨_,rfl⟩;have hW : W = (96 + 8 * (Zx p).1 + 0 + zAB p.1.hops,(Zx p).2 ++ [p.1.nxt] ++ (if zAB p.1.hops = 0 then [p.1.hops] else [])):=by
  rw [<- eW];unfold Qi zA1;rw [eb,if_neg hn]
 rw [eW];clear eW e3 e3' w1;refine zG (wd:=1) (by decide) zM (zT zDX) zN Tryz.func71 rfl _ (by show 1 <= _;decide) _ ?_;repeat' (first | (apply And.intro<;>intro hc<;>(first | exact Bool.noConfusion hc | (exfalso;first | exact absurd hn hc | exact absurd hc hn | exact absurd (by assumption : p.1.flow = 0) hc | exact absurd hc (by assumption : ¬ p.1.flow = 0) | exact absurd (by assumption : p.1.cls = 0) hc | exact absurd hc (by assumption : ¬ p.1.cls = 0)) | (simp only [Zi] at hc<;>first | exact absurd rfl hc | (exfalso;first | exact absurd hn hc | exact absurd hc hn | exact absurd (by assumption : p.1.flow = 0) hc | exact absurd hc (by assumption : ¬ p.1.flow = 0) | exact absurd (by assumption : p.1.cls = 0) hc | exact absurd hc (by assumption : ¬ p.1.cls = 0)) | skip) | skip)) | (refine And.intro Za ?_) | (apply And.intro) | (intro s hs;(first | (have q : s = 0:=hs.trans eb;clear hs;subst q) | (have q : s = [p.1.cls,f1,f2,f3]:=hs.trans (congrArg ([p.1.cls] ++ ·) eF);clear hs;subst q) | (have q : s = [f1,f2,f3]:=hs.trans eF;clear hs;subst q) | skip)))
 all_goals try (first | exact Nat.le_refl _ | exact rfl | exact Nat.le_of_ble_eq_true rfl | exact Nat.zero_le _ | (show (Zw eB _ _).length <= _;rw [zS];decide))
 all_goals first
  | (have e:=hW
     rw [c0 ‹_› ‹_›,h1 ‹_›] at e;rw [e];refine Done.mk (zE ⟨zA rfl,?_,trivial⟩);first
      | exact zW rfl
      | (refine zX rfl rfl rfl rfl (Nat.le_of_eq rfl) ⟨λk hk=>?_⟩
         rcases k with _ | _ | _ | _ | _ | _ | k;all_goals first
          | exact rfl
          | exact zno hk
          | exact zab hk))
  | (have e:=hW
     rw [c0 ‹_› ‹_›,h2 ‹_›] at e;rw [e];refine Done.mk (zE ⟨zA rfl,?_,trivial⟩);first
      | exact zW rfl
      | (refine zX rfl rfl rfl rfl (Nat.le_of_eq rfl) ⟨λk hk=>?_⟩
         rcases k with _ | _ | _ | _ | _ | _ | k;all_goals first
          | exact rfl
          | exact zno hk
          | exact zab hk))
  | (have e:=hW
     rw [c0 ‹_› ‹_›,h3 ‹_›] at e;rw [e];refine Done.mk (zE ⟨zA rfl,?_,trivial⟩);first
      | exact zW rfl
      | (refine zX rfl rfl rfl rfl (Nat.le_of_eq rfl) ⟨λk hk=>?_⟩
         rcases k with _ | _ | _ | _ | _ | _ | k;all_goals first
          | exact rfl
          | exact zno hk
          | exact zab hk))
  | (have e:=hW
     rw [c0 ‹_› ‹_›,h0 ‹_› ‹_› ‹_›] at e;rw [e];refine Done.mk (zE ⟨zA rfl,?_,trivial⟩);first
      | exact zW rfl
      | (refine zX rfl rfl rfl rfl (Nat.le_of_eq rfl) ⟨λk hk=>?_⟩
         rcases k with _ | _ | _ | _ | _ | _ | k;all_goals first
          | exact rfl
          | exact zno hk
          | exact zab hk))
  | (have e:=hW
     rw [c1 ‹_› ‹_›,h1 ‹_›] at e;rw [e];refine Done.mk (zE ⟨zA rfl,?_,trivial⟩);first
      | exact zW rfl
      | (refine zX rfl rfl rfl rfl (Nat.le_of_eq rfl) ⟨λk hk=>?_⟩
         rcases k with _ | _ | _ | _ | _ | _ | k;all_goals first
          | exact rfl
          | exact zno hk
          | exact zab hk))
  | (have e:=hW
     rw [c1 ‹_› ‹_›,h2 ‹_›] at e;rw [e];refine Done.mk (zE ⟨zA rfl,?_,trivial⟩);first
      | exact zW rfl
      | (refine zX rfl rfl rfl rfl (Nat.le_of_eq rfl) ⟨λk hk=>?_⟩
         rcases k with _ | _ | _ | _ | _ | _ | k;all_goals first
          | exact rfl
          | exact zno hk
          | exact zab hk))
  | (have e:=hW
     rw [c1 ‹_› ‹_›,h3 ‹_›] at e;rw [e];refine Done.mk (zE ⟨zA rfl,?_,trivial⟩);first
      | exact zW rfl
      | (refine zX rfl rfl rfl rfl (Nat.le_of_eq rfl) ⟨λk hk=>?_⟩
         rcases k with _ | _ | _ | _ | _ | _ | k;all_goals first
          | exact rfl
          | exact zno hk
          | exact zab hk))
  | (have e:=hW
     rw [c1 ‹_› ‹_›,h0 ‹_› ‹_› ‹_›] at e;rw [e];refine Done.mk (zE ⟨zA rfl,?_,trivial⟩);first
      | exact zW rfl
      | (refine zX rfl rfl rfl rfl (Nat.le_of_eq rfl) ⟨λk hk=>?_⟩
         rcases k with _ | _ | _ | _ | _ | _ | k;all_goals first
          | exact rfl
          | exact zno hk
          | exact zab hk))
  | (have e:=hW
     rw [c2 ‹_› ‹_›,h1 ‹_›] at e;rw [e];refine Done.mk (zE ⟨zA rfl,?_,trivial⟩);first
      | exact zW rfl
      | (refine zX rfl rfl rfl rfl (Nat.le_of_eq rfl) ⟨λk hk=>?_⟩
         rcases k with _ | _ | _ | _ | _ | _ | k;all_goals first
          | exact rfl
          | exact zno hk
          | exact zab hk))
  | (have e:=hW
     rw [c2 ‹_› ‹_›,h2 ‹_›] at e;rw [e];refine Done.mk (zE ⟨zA rfl,?_,trivial⟩);first
      | exact zW rfl
      | (refine zX rfl rfl rfl rfl (Nat.le_of_eq rfl) ⟨λk hk=>?_⟩
         rcases k with _ | _ | _ | _ | _ | _ | k;all_goals first
          | exact rfl
          | exact zno hk
          | exact zab hk))
  | (have e:=hW
     rw [c2 ‹_› ‹_›,h3 ‹_›] at e;rw [e];refine Done.mk (zE ⟨zA rfl,?_,trivial⟩);first
      | exact zW rfl
      | (refine zX rfl rfl rfl rfl (Nat.le_of_eq rfl) ⟨λk hk=>?_⟩
         rcases k with _ | _ | _ | _ | _ | _ | k;all_goals first
          | exact rfl
          | exact zno hk
          | exact zab hk))
  | (have e:=hW
     rw [c2 ‹_› ‹_›,h0 ‹_› ‹_› ‹_›] at e;rw [e];refine Done.mk (zE ⟨zA rfl,?_,trivial⟩);first
      | exact zW rfl
      | (refine zX rfl rfl rfl rfl (Nat.le_of_eq rfl) ⟨λk hk=>?_⟩
         rcases k with _ | _ | _ | _ | _ | _ | k;all_goals first
          | exact rfl
          | exact zno hk
          | exact zab hk))
  | (have e:=hW
     rw [c3 ‹_› ‹_›,h1 ‹_›] at e;rw [e];refine Done.mk (zE ⟨zA rfl,?_,trivial⟩);first
      | exact zW rfl
      | (refine zX rfl rfl rfl rfl (Nat.le_of_eq rfl) ⟨λk hk=>?_⟩
         rcases k with _ | _ | _ | _ | _ | _ | k;all_goals first
          | exact rfl
          | exact zno hk
          | exact zab hk))
  | (have e:=hW
     rw [c3 ‹_› ‹_›,h2 ‹_›] at e;rw [e];refine Done.mk (zE ⟨zA rfl,?_,trivial⟩);first
      | exact zW rfl
      | (refine zX rfl rfl rfl rfl (Nat.le_of_eq rfl) ⟨λk hk=>?_⟩
         rcases k with _ | _ | _ | _ | _ | _ | k;all_goals first
          | exact rfl
          | exact zno hk
          | exact zab hk))
  | (have e:=hW
     rw [c3 ‹_› ‹_›,h3 ‹_›] at e;rw [e];refine Done.mk (zE ⟨zA rfl,?_,trivial⟩);first
      | exact zW rfl
      | (refine zX rfl rfl rfl rfl (Nat.le_of_eq rfl) ⟨λk hk=>?_⟩
         rcases k with _ | _ | _ | _ | _ | _ | k;all_goals first
          | exact rfl
          | exact zno hk
          | exact zab hk))
  | (have e:=hW
     rw [c3 ‹_› ‹_›,h0 ‹_› ‹_› ‹_›] at e;rw [e];refine Done.mk (zE ⟨zA rfl,?_,trivial⟩);first
      | exact zW rfl
      | (refine zX rfl rfl rfl rfl (Nat.le_of_eq rfl) ⟨λk hk=>?_⟩
         rcases k with _ | _ | _ | _ | _ | _ | k;all_goals first
          | exact rfl
          | exact zno hk
          | exact zab hk))
  | skip
theorem ip_ok (n : Nat) (l : List Int) (q : Int) (a : Adr) (ht : TapeOk n (rI l) q) :
 ∃ (r : Fin 16 -> Int) (q' : Int),byteOk r /\ TapeOk n (rI l) q' /\ ze Tryz.prog 20 [(cE ZF).enc a] (Zf n (rI l) q) ((cE (eA .u8 16)).enc r) (Zf n (rI l) q'):=by
 refine qE (wd:=1) (by decide) zM (zT zAX) zN Tryz.func20 rfl _ (by show 1 + 1 <= _;decide) (zAu (eA .u8 16)) ?_;repeat' (first | (apply And.intro<;>intro hc<;>(first | exact Bool.noConfusion hc | (simp only [qm] at hc) | skip)) | (refine And.intro Za ?_) | (apply And.intro) | (intro s hs))
 all_goals first
  | exact ⟨(s,_),⟨by rw [hs];exact zDw _ _,by assumption⟩,⟨ZS (zd (by repeat' (first | exact zw2 | refine zd ?_ | exact zH ‹_› | apply And.intro))),ZI⟩⟩
  | (rename_i r hr;exact ⟨(r,_),⟨hr,by assumption⟩,⟨ZS (zd (by repeat' (first | exact zw2 | refine zd ?_ | exact zH ‹_› | apply And.intro))),ZI⟩⟩)
  | exact ⟨(λ_=>0,_),⟨⟨λq=>show (0 : Int) <= 0 /\ (0 : Int) < 256 from ⟨by decide,by decide⟩⟩,by assumption⟩,⟨ZS (zd (by repeat' (first | exact zw2 | refine zd ?_ | exact zH ‹_› | apply And.intro))),ZI⟩⟩
theorem addr_ok (n : Nat) (l : List Int) (q : Int) (ht : TapeOk n (rI l) q) :
 ∃ (r : Adr) (q' : Int),True /\ TapeOk n (rI l) q' /\ ze Tryz.prog 6 [] (Zf n (rI l) q) ((cE ZF).enc r) (Zf n (rI l) q'):=by
 refine qE (wd:=1) (by decide) zM (zT zAX) zN Tryz.func6 rfl _ (by show 0 + 1 <= _;decide) (zAu ZF) ?_;repeat' (first | (apply And.intro<;>intro hc<;>(first | exact Bool.noConfusion hc | (simp only [qm] at hc) | skip)) | (refine And.intro Za ?_) | (apply And.intro) | (intro s hs))
 . exact ⟨(⟨2,65535,0⟩,_),⟨trivial,by assumption⟩,⟨ZS (zd ⟨⟨⟨trivial,zA rfl⟩,zA rfl⟩,zA rfl⟩),ZI⟩⟩
 . exact ⟨(⟨0,0,0⟩,_),⟨trivial,by assumption⟩,⟨ZS (zd ⟨⟨⟨trivial,zA rfl⟩,zA rfl⟩,zA rfl⟩),ZI⟩⟩
 . exact ⟨(⟨_,_,_⟩,_),⟨trivial,by assumption⟩,⟨ZS (zd ⟨⟨⟨trivial,zA rfl⟩,zA rfl⟩,zA rfl⟩),ZI⟩⟩
theorem zCB (z : Int) : 0 <= IntKind.u16.wrap z /\ IntKind.u16.wrap z < 65536:=by
 simp only [IntKind.wrap,IntKind.signed,IntKind.bits];constructor
 . exact Int.emod_nonneg _ (by decide)
 . exact Int.emod_lt_of_pos _ (by decide)
theorem port_ok (n : Nat) (l : List Int) (q : Int) (ht : TapeOk n (rI l) q) :
 ∃ (r : Int) (q' : Int),(0 <= r /\ r < 65536) /\ TapeOk n (rI l) q' /\ ze Tryz.prog 23 [] (Zf n (rI l) q) ((cI .u16).enc r) (Zf n (rI l) q'):=by
 refine qE (wd:=1) (by decide) zM (zT zAX) zN Tryz.func23 rfl _ (by show 0 + 1 <= _;decide) (λ_=>zDT) ?_;repeat' (first | (apply And.intro<;>intro hc<;>(first | exact Bool.noConfusion hc | (simp only [qm] at hc) | skip)) | (refine And.intro Za ?_) | (apply And.intro) | (intro s hs))
 all_goals exact ⟨(_,_),⟨zCB _,by assumption⟩,⟨zF rfl,ZI⟩⟩
theorem nff_slB {L : List Int} : NFF (.e (.c (slR eB L))):=nff_c (zE3 λi _ j _=>(eB.flat _ _).nf)
structure BytS (n : Nat) (l : List Int) (K : Nat) where
 i : Nat
 L : List Int
 q : Int
 hi : i <= K
 hL : L.length = K
 hb : BL L
 ht : TapeOk n (rI l) q
theorem bl_set {L : List Int} {i : Nat} {v : Int} (h : BL L) (hv : 0 <= v /\ v < 256) : BL (L.set i v):=⟨λx hx=>by
 rcases List.mem_or_eq_of_mem_set hx with h1 | h1
 . exact h.m x h1
 . rw [h1];exact hv⟩
theorem bl_rep (n : Nat) : BL (List.replicate n 0):=⟨λx hx=>by rw [(List.mem_replicate.1 hx).2];omega⟩
theorem zGQ (n : Nat) : IsRow (λ_=>nth [CV.int .u8 0]) (List.replicate n 0):=⟨λk hk=>by show CV.int .u8 0 = _;rw [List.getD_eq_getElem?_getD,List.getElem?_eq_getElem hk,List.getElem_replicate];rfl⟩
theorem zH2 {c : Wc} {t : TypeId} {L : List Int} {idx i n : Nat} {x : Int} {g : Nat -> CV} (e : idx = i) (hn : n = L.length) (hi : i < L.length) (hg : g 0 = .int .u8 x) : LeN c ⟨t,n,eB.sz,false,zBg false (zn eB L) idx g⟩ (qD eB t (L.set i x)):=by
 subst e;refine leN_set hn hi (λi _ j _=>(eB.flat _ _).le) λj hj=>?_;have hj : j < 1:=hj;obtain rfl : j = 0:=by omega
 rw [hg];exact zA rfl
theorem bytes_ok (n : Nat) (l : List Int) (q m : Int) (ht : TapeOk n (rI l) q) (h1 : 0 <= m) (h2 : m <= 2000) :
 ∃ (r : List Int) (q' : Int),(BL r /\ (r.length : Int) <= m) /\ TapeOk n (rI l) q' /\ ze Tryz.prog 21 [(cI .i64).enc m] (Zf n (rI l) q) (.e (.c (slR eB r))) (Zf n (rI l) q'):=by
 have w1 : IntKind.i64.wrap (m + 1) = m + 1:=IntWalk.i64_in _ (by omega);refine qE (S:=λr=>BL r /\ (r.length : Int) <= m) (enc:=λr=>.e (.c (slR eB r))) (wd:=1) (by decide) zM (zT zAX) zN Tryz.func21 rfl _ (by show 1 + 1 <= _;decide) (λ_=>nff_slB) ?_;repeat' (first | (apply And.intro<;>intro hc<;>(first | exact Bool.noConfusion hc | (simp only [qm] at hc) | skip)) | (refine And.intro Za ?_) | (apply And.intro) | (intro s hs))
 rename_i s1 hs1;have hs1' : 0 <= s1 /\ s1 < IntKind.i64.wrap (m + 1):=hs1;rw [w1] at hs1';refine zp (ZE zAX) (λs : BytS n l s1.toNat=>(⟨[(0,one (.ptr 0 0 0 false)),(5,one (.os 6 0 s.L.length)),(6,one (.int .i64 (s.i : Int)))],
  [(0,some (Zf n (rI l) s.q)),(6,some (qD eB 5 s.L))],7⟩ : Hd)) (λs=>s1.toNat - s.i) (λ_=>rfl) ?_ ⟨0,List.replicate s1.toNat 0,_,by omega,by simp,bl_rep _,hs⟩ [] ?_
 . rintro ⟨i,L,q2,hi,hL,hb,ht2⟩;dsimp only at hi hL hb ht2 ⊢;repeat' (first | (apply And.intro<;>intro hc<;>(first | exact Bool.noConfusion hc | (simp only [qm] at hc) | skip)) | (refine And.intro Za ?_) | (apply And.intro) | (intro s hs))
   . rename_i s2 hs2;refine ⟨⟨i + 1,L.set i (IntKind.u8.wrap s2),_,by omega,by rw [List.length_set];exact hL,bl_set hb (u8r _),hs⟩,[],by dsimp only;omega,rfl,?_,?_⟩
     . repeat' (first | exact qH | refine zF ?_ | refine zC ?_ | exact qI | apply And.intro)
       . exact qM (zy rfl (by dsimp only;rw [List.length_set]))
       . refine (IntWalk.i64_in _ ?_).trans ?_
         . constructor<;>omega
         . dsimp only;omega
     . repeat' (first | exact qH | refine zF ?_ | refine zC ?_ | exact qI | apply And.intro)
       . exact ZI
       . exact zH2 (by omega) rfl (by omega) rfl
   . exact ⟨(L,q2),⟨⟨hb,(show (L.length : Int) <= m by omega)⟩,ht2⟩,⟨qM (ZW rfl rfl),ZI⟩⟩
 . refine ⟨rfl,?_,?_⟩
   . repeat' (first | exact qH | refine zF ?_ | refine zC ?_ | exact qI | apply And.intro)
     exact qM (zy rfl (by simp))
   . repeat' (first | exact qH | refine zF ?_ | refine zC ?_ | exact qI | apply And.intro)
     . exact ZI
     . exact Zg (by simp) (zGQ _)
abbrev bytesE : ZD:=Yt (AC.cons (cI .i64) AC.nil) (λa=>0 <= a.1 /\ a.1 <= 2000) (λa (r : List Int)=>BL r /\ (r.length : Int) <= a.1) (λr=>.e (.c (slR eB r)))
structure FilS (K : Nat) where
 i : Nat
 L : List Int
 hi : i <= K
 hL : L.length = K
 hb : BL L
def arr5 (a b c d e : Int) : Fin 5 -> Int:=λq=>if q.1 = 0 then a else if q.1 = 1 then b else if q.1 = 2 then c else if q.1 = 3 then d else e
theorem pfill_ok (n : Nat) (l : List Int) (q m : Int) (ht : TapeOk n (rI l) q) (h1 : 0 <= m) (h2 : m <= 2000) :
 ∃ (r : List Int) (q' : Int),(BL r /\ (r.length : Int) = m) /\ TapeOk n (rI l) q' /\ ze Tryz.prog 24 [(cI .i64).enc m] (Zf n (rI l) q) (.e (.c (slR eB r))) (Zf n (rI l) q'):=by
 refine qE (S:=λr=>BL r /\ (r.length : Int) = m) (enc:=λr=>.e (.c (slR eB r))) (wd:=1) (by decide) zM (zT zAX) zN Tryz.func24 rfl _ (by show 1 + 1 <= _;decide) (λ_=>nff_slB) ?_;repeat' (first | (apply And.intro<;>intro hc<;>(first | exact Bool.noConfusion hc | (simp only [qm] at hc) | skip)) | (refine And.intro Za ?_) | (apply And.intro) | (intro s hs))
 rename_i s4 hs4 q4 hq4 s2 hs2 q2 hq2 s0 hs0;refine zp (ZE zAX) (λz : FilS m.toNat=>(⟨[(0,one (.ptr 0 0 0 false)),(1,one (.int .i64 m)),(5,one (.ptr 12 0 0 false)),(6,one (.os 15 0 z.L.length)),(7,one (.int .i64 (z.i : Int)))],
  [(0,some (Zf n (rI l) s)),(12,some ⟨81,1,5,true,λ_=>(eA .u8 5).cell (arr5 (IntKind.u8.wrap s4) (IntKind.u8.wrap s2) 0 (IntKind.u8.wrap s0) 7)⟩),(15,some (qD eB 5 z.L))],16⟩ : Hd)) (λz=>m.toNat - z.i) (λ_=>rfl) ?_ ⟨0,List.replicate m.toNat 0,by omega,by simp,bl_rep _⟩ [] ?_
 . rintro ⟨i,L,hi,hL,hb⟩;dsimp only at hi hL hb ⊢;have a1 : 0 <= (i : Int).tmod 5:=Int.tmod_nonneg 5 (by omega);have a2 : (i : Int).tmod 5 < 5:=Int.tmod_lt_of_pos (i : Int) (by decide);repeat' (first | (apply And.intro<;>intro hc<;>(first | exact Bool.noConfusion hc | (simp only [qm] at hc) | skip)) | (refine And.intro Za ?_) | (apply And.intro) | (intro s hs))
   . refine ⟨⟨i + 1,L.set i (IntKind.u8.wrap (zQ (arr5 (IntKind.u8.wrap s4) (IntKind.u8.wrap s2) 0 (IntKind.u8.wrap s0) 7) (0 + ((i : Int).tmod 5).toNat * 1 + 0) + IntKind.u8.wrap (IntKind.i64.wrap ((i : Int).tdiv 5)))),by omega,by rw [List.length_set];exact hL,bl_set hb (u8r _)⟩,[],by dsimp only;omega,rfl,?_,?_⟩
     . repeat' (first | exact qH | refine zF ?_ | refine zC ?_ | exact qI | apply And.intro)
       . exact qM (zy rfl (by dsimp only;rw [List.length_set]))
       . refine (IntWalk.i64_in _ ?_).trans ?_
         . constructor<;>omega
         . dsimp only;omega
     . repeat' (first | exact qH | refine zF ?_ | refine zC ?_ | exact qI | apply And.intro)
       . exact ZI
       . exact zH2 (by omega) rfl (by omega) rfl
   . exact ⟨(L,s),⟨⟨hb,(show (L.length : Int) = m by omega)⟩,hs⟩,⟨qM (ZW rfl rfl),ZI⟩⟩
 . refine ⟨rfl,?_,?_⟩
   . repeat' (first | exact qH | refine zF ?_ | refine zC ?_ | exact qI | apply And.intro)
     exact qM (zy rfl (by simp))
   . repeat' (first | exact qH | refine zF ?_ | refine zC ?_ | exact qI | apply And.intro)
     . exact ZI
     . refine zh ?_;repeat' (first | exact trivial | exact zA rfl | apply And.intro)
     . exact Zg (by simp) (zGQ _)
abbrev pfillE : ZD:=Yt (AC.cons (cI .i64) AC.nil) (λa=>0 <= a.1 /\ a.1 <= 2000) (λa (r : List Int)=>BL r /\ (r.length : Int) = a.1) (λr=>.e (.c (slR eB r)))
abbrev ipE : ZD:=Yt (AC.cons (cE ZF) AC.nil) (λ_=>True) (λa r=>byteOk r) (cE (eA .u8 16)).enc
abbrev addrE : ZD:=Yt AC.nil (λ_=>True) (λa (r : Adr)=>True) (cE ZF).enc
abbrev portE : ZD:=Yt AC.nil (λ_=>True) (λa (r : Int)=>0 <= r /\ r < 65536) (cI .u16).enc
def LM0 : Qb:=(21,some bytesE) :: (24,some pfillE) :: (20,some ipE) :: (6,some addrE) :: (23,some portE) :: (5,some zDU) :: []
theorem LM0_ok : ZC Tryz.prog LM0:=⟨qv ⟨_,Tryz.func21,rfl,by kernel_rfl⟩ λn l q a ht hp=>bytes_ok n l q a.1 ht hp.1 hp.2,qv ⟨_,Tryz.func24,rfl,by kernel_rfl⟩ λn l q a ht hp=>pfill_ok n l q a.1 ht hp.1 hp.2,qv ⟨_,Tryz.func20,rfl,by kernel_rfl⟩ λn l q a ht hp=>ip_ok n l q a.1 ht,qv ⟨_,Tryz.func6,rfl,by kernel_rfl⟩ λn l q a ht hp=>addr_ok n l q ht,qv ⟨_,Tryz.func23,rfl,by kernel_rfl⟩ λn l q a ht hp=>port_ok n l q ht,zHv,trivial⟩
def LM : Qb:=LM0 ++ (LT1 ++ LPi)
theorem LM_ok : ZC Tryz.prog LM:=Qe LM0_ok (Qe zCA LPi_ok)
structure PkM (p : Zz) : Prop where
 v : zj p = true
 w : PkW p
theorem vget_in {a : Fin 16 -> Int} (h : byteOk a) (i : Nat) : 0 <= zQ a i /\ zQ a i < 256:=by
 unfold zQ;split
 . exact h.q _
 . exact ⟨by decide,by decide⟩
theorem pkM_mk {cls flow nxt hops sp dp : Int} {src dst : Fin 16 -> Int} {pay : List Int} (h1 : 0 <= cls /\ cls < 256) (h2 : 0 <= flow /\ flow < 1048576) (h3 : 0 <= nxt /\ nxt < 256) (h4 : 0 <= hops /\ hops < 256)
 (h5 : byteOk src) (h6 : byteOk dst) (h7 : 0 <= sp /\ sp < 65536) (h8 : 0 <= dp /\ dp < 65536) (h9 : BL pay) (h10 : zQ src 0 ≠ 255) (h11 : (if nxt = 17 then (48 : Int) else 40) + pay.length <= 1280) (h12 : nxt = 17 \/ sp = 0 /\ dp = 0) :
 PkM (⟨cls,flow,nxt,hops,src,dst,sp,dp⟩,pay):=by
 refine ⟨?_,⟨h1,⟨h2.1,?_⟩,h3,h4,vget_in h5,vget_in h6,h7,h8,h9⟩⟩
 . unfold zj ZP ZB;simp only [Bool.and_eq_true,Bool.or_eq_true,decide_eq_true_eq,Bool.not_eq_true',decide_eq_false_iff_not];exact ⟨⟨⟨by omega,h10⟩,h11⟩,h12⟩
 . show flow < 4294967296;omega
theorem pick5 (s a b c d e : Int) (h : ∀ x,(x = a \/ x = b \/ x = c \/ x = d \/ x = e \/ x = 0) -> 0 <= x /\ x < 256) (t : Nat) :
 0 <= (bif t.beq 4 then a else bif t.beq 3 then b else bif t.beq 2 then c else bif t.beq 1 then d else bif t.beq 0 then e else 0) /\ (bif t.beq 4 then a else bif t.beq 3 then b else bif t.beq 2 then c else bif t.beq 1 then d else bif t.beq 0 then e else 0) < 256:=by
 apply h;cases t.beq 4<;>cases t.beq 3<;>cases t.beq 2<;>cases t.beq 1<;>cases t.beq 0<;>simp
theorem u16_id {x : Int} (h : 0 <= x /\ x < 65536) : IntKind.u16.wrap x = x:=IntWalk.u16_in _ (by omega)
theorem uI2_r {b : List Int} (hb : BL b) {a : Int} {k : Nat} (e : a = k) (h : k + 2 <= b.length) : 0 <= uI b a 2 /\ uI b a 2 < 65536:=by
 rw [uI_2 e h];have h1:=hb.get k;have h2:=hb.get (k + 1);omega
def Yy (b : List Int) : Int:=if b.getD 6 default = 17 then IntKind.u16.wrap (uI b 46 2) else 0
def rdecF (b : List Int) : Zz × Int:=
 if 1280 < b.length then (pk0,3)
 else if b.length < 40 \/ b.length < 48 /\ b.getD 6 default = 17 then (pk0,4)
 else if zj (pkF b) = false \/ Qx (pkF b) (Yy b) ≠ b then (pk0,5)
 else if b.getD 6 default = 17 /\ Yy b ≠ qZ (pkF b) then (pk0,6)
 else (pkF b,0)
theorem rdec_eq {b : List Int} (hb : BL b) : rdecF b = Qa b:=by
 unfold rdecF Qa;split
 . rfl
 . rename_i c1;split
   . rfl
   . rename_i c2;have l1 : 40 <= b.length:=by omega
     have l2 : b.length <= 1280:=by omega
     have hlen : b.getD 6 default = 17 -> 48 <= b.length:=λk=>by
      rcases Nat.lt_or_ge b.length 48 with h' | h'
      . exact absurd (.inr ⟨h',k⟩) c2
      . exact h'
     have hr : 0 <= Yy b /\ Yy b < 65536:=by
      unfold Yy;split
      . exact zCB _
      . omega
     have hk:=encB_pkF hb ⟨l1,l2⟩ hlen hr;have hs46 : b.getD 6 default = 17 -> Yy b = uI b 46 2:=λhu=>by
      have h48:=hlen hu;unfold Yy;rw [if_pos hu,u16_id (uI2_r hb (a:=46) (k:=46) rfl (by omega))]
     cases hv : zj (pkF b) with
     | false=>
       rw [if_pos (.inl rfl)];split
       . rfl
       . split
         . rfl
         . rw [if_pos rfl]
     | true=>
       by_cases he : Qx (pkF b) (Yy b) = b
       . obtain ⟨d3,d4⟩:=hk.1 he;rw [if_neg (λh=>h.elim (by decide) (λh=>h he)),if_neg (c:=Zn .u64 (uI b 0 4) 28 ≠ 6 \/ _) (λh=>h.elim (λh=>h d3.1) (λh=>h d3.2)),if_neg (c:=b.getD 6 default = 17 /\ uI b 44 2 ≠ _) (λh=>h.2 (d4 h.1).1),if_neg (c:=true = false) (by decide)];by_cases hu : b.getD 6 default = 17
         . have e2 : qZ (pkF b) = sum0 (zAV b):=by
            rw [zGN hv ((zCR b).trans hu),<- zGM ((zCR b).trans hu) (Yy b),he]
           have e3 : Yy b = IntKind.u16.wrap (uI b 46 2):=by unfold Yy;rw [if_pos hu]
           rw [e2,e3]
         . rw [if_neg (λh=>hu h.1),if_neg (λh=>hu h.1)]
       . rw [if_pos (.inr he)];by_cases d3 : Zn .u64 (uI b 0 4) 28 ≠ 6 \/ uI b 4 2 ≠ IntKind.u64.wrap (IntKind.i64.wrap (b.length - 40))
         . rw [if_pos d3]
         . rw [if_neg d3];by_cases d4 : b.getD 6 default = 17 /\ uI b 44 2 ≠ IntKind.u64.wrap (IntKind.i64.wrap (b.length - 40))
           . rw [if_pos d4]
           . exact absurd (hk.2 ⟨⟨Classical.byContradiction λk=>d3 (.inl k),Classical.byContradiction λk=>d3 (.inr k)⟩,λhu=>⟨Classical.byContradiction λk=>d4 ⟨hu,k⟩,hs46 hu⟩⟩) he
def upB (p : Zz) (s : Int) : List Int:=(if p.1.nxt = 17 then zCb p s else []) ++ p.2
theorem wlen {p : Zz} (hl : p.2.length <= 70368744177664) : IntKind.u64.wrap (IntKind.i64.wrap (ZB p - 40)) = ZB p - 40:=by
 have : 40 <= ZB p /\ ZB p <= 70368744200000:=by unfold ZB;split<;>omega
 rw [IntWalk.i64_in _ (by omega)];exact IntWalk.u64_in _ (by omega)
theorem zEf (f : Nat -> Nat -> CV) : Zw eB 0 f = []:=rfl
theorem app_le {s t : List Int} {v n : Int} (h : s = t ++ qk v n) : s.length <= t.length + 8:=by
 rw [h,List.length_append];have:=zCS v n;omega
theorem ip_at {a : Fin 16 -> Int} {k i : Nat} (e : i = k) (hk : k < (YN a).length) : CV.int .u8 (zQ a i) = .int .u8 ((YN a).getD k default):=by
 rw [Zh] at hk;rw [e];unfold YN;rw [List.getD_eq_getElem?_getD,List.getElem?_map,List.getElem?_range hk];rfl
def LRp0 : Qb:=(48,some validE) :: LPi
theorem zEg : ZC Tryz.prog LRp0:=⟨zO ⟨_,Tryz.func48,rfl,by kernel_rfl⟩ λa h=>zIW a.1 h,LPi_ok⟩
theorem upper_ok (p : Zz) (s0 : Int) (hp : PkW p) (hl : p.2.length <= 70368744177664) (hs0 : 0 <= s0 /\ s0 < 65536) : ql Tryz.prog 57 [cPk.enc p,(cI .u16).enc s0] (some (upB p s0).length) none (qD eB 5 (upB p s0)):=by
 obtain ⟨w,eW⟩ : ∃ w,upB p s0 = w:=⟨_,rfl⟩;have h1:=hp.sp;have h2:=hp.dp;have w1 : IntKind.u64.wrap p.1.sp = p.1.sp:=IntWalk.u64_in _ (by omega);have w2 : IntKind.u64.wrap p.1.dp = p.1.dp:=IntWalk.u64_in _ (by omega);have w3 : IntKind.u64.wrap s0 = s0:=IntWalk.u64_in _ (by omega);have w4:=wlen hl;rw [eW];refine ZR (wd:=1) (by decide) zM (zT zEg) zN Tryz.func57 rfl _ (by show 2 <= _;decide) (λi _ j _=>qU eB _ i j) ?_;repeat' (first | (apply And.intro<;>intro hc<;>(first | exact Bool.noConfusion hc | (simp only [Zi] at hc<;>first | exact absurd rfl hc | skip) | skip)) | (refine And.intro Za ?_) | (apply And.intro) | (intro s hs;(first | (have q : s = ZB p:=hs.trans (congrArg ZB (ZX p _));clear hs;subst q) | (dsimp only at hs;(first | rw [Zv] at hs | rw [zEf] at hs);have hln:=app_le hs;try rw [List.length_nil] at hln) | skip)))
 all_goals first
  | exact rfl
  | (dsimp only;rw [Zv];omega)
  | (dsimp only;rw [zx];omega)
  | (dsimp only;rw [zEf];decide)
  | omega
  | (dsimp only;omega)
  | skip
 . rename_i z1 hz1 _ z2 hz2 _ z3 hz3 _;have e : w = s ++ p.2:=by
    rw [<- eW];unfold upB zCb;rw [if_pos hc,hs,hz3,hz2,hz1,w1,w2,w3,w4];rfl
   rw [e];refine ⟨⟨some _,qM (zy rfl (by rw [List.length_append])),Zg (by rw [List.length_append]) (zD rfl (QK _) λk hk=>?_)⟩⟩;rw [show s.length + k - s.length = k by omega];rfl
 . have e : w = p.2:=by
    rw [<- eW];unfold upB;rw [if_neg hc];rfl
   rw [e];exact ⟨⟨some _,qM (zy rfl rfl),Zg rfl (QK _)⟩⟩
abbrev upE : ZD:=zBu (AC.cons cPk (AC.cons (cI .u16) AC.nil)) (λa=>PkW a.1 /\ a.1.2.length <= 70368744177664 /\ 0 <= a.2.1 /\ a.2.1 < 65536) (λa=>upB a.1 a.2.1) (λL=>some L.length) (λ_=>none) (λL=>qD eB 5 L)
def psB (src dst : Fin 16 -> Int) (n nx : Int) : List Int:=YN src ++ YN dst ++ qk (IntKind.u64.wrap n) 4 ++ [0,0,0,nx]
theorem ps_row (Z : Nat -> Nat -> CV) (src dst : Fin 16 -> Int) : IsRow (λk j=>(λk j=>Zm (k.blt (0 + (16 - 0))) ((λk j=>Zm (k.blt 0) (Z k j) ((λk q=>(λx=>(eA IntKind.u8 16).cell src) 0 (0 + 0 * 1 + (k * 1 + q))) (k - 0) j)) k j) ((λk q=>(λx=>(eA IntKind.u8 16).cell dst) 0 (0 + 0 * 1 + (k * 1 + q))) (k - (0 + (16 - 0))) j)) (0 + k) j) ([] ++ YN src ++ YN dst):=by
 refine zEc (F:=λk j=>Zm (k.blt (0 + (16 - 0))) (Zm (k.blt 0) (Z k j) ((eA IntKind.u8 16).cell src (0 + 0 * 1 + ((k - 0) * 1 + j)))) ((eA IntKind.u8 16).cell dst (0 + 0 * 1 + ((k - (0 + (16 - 0))) * 1 + j)))) (zD (A:=λk j=>Zm (k.blt 0) (Z k j) ((eA IntKind.u8 16).cell src (0 + 0 * 1 + ((k - 0) * 1 + j)))) (C:=λk j=>(eA IntKind.u8 16).cell dst (0 + 0 * 1 + ((k - (0 + (16 - 0))) * 1 + j))) (n:=16) rfl (zD (A:=Z) (C:=λk j=>(eA IntKind.u8 16).cell src (0 + 0 * 1 + ((k - 0) * 1 + j))) (n:=0) (l1:=[]) rfl ⟨λk hk=>absurd hk (Nat.not_lt_zero _)⟩ λk hk=>?_) λk hk=>?_)
 . exact ip_at (by omega) hk
 . exact ip_at (by omega) hk
theorem pseudo_ok (src dst : Fin 16 -> Int) (n nx : Int) : ql Tryz.prog 56 [(cE (eA .u8 16)).enc src,(cE (eA .u8 16)).enc dst,(cI .i64).enc n,(cI .u8).enc nx] (some (psB src dst n nx).length) none (qD eB 5 (psB src dst n nx)):=by
 obtain ⟨w,eW⟩ : ∃ w,psB src dst n nx = w:=⟨_,rfl⟩;rw [eW];refine ZR (wd:=1) (by decide) zM (zT zEg) zN Tryz.func56 rfl _ (by show 4 <= _;decide) (λi _ j _=>qU eB _ i j) ?_;repeat' (first | (apply And.intro<;>intro hc<;>(first | exact Bool.noConfusion hc | (simp only [Zi] at hc<;>first | exact absurd rfl hc | skip) | skip)) | (refine And.intro Za ?_) | (apply And.intro) | (intro s hs;(have q : s = ([] ++ YN src ++ YN dst) ++ qk (IntKind.u64.wrap n) 4:=hs.trans (congrArg (λl=>l ++ qk (IntKind.u64.wrap n) 4) (YX (l:=[] ++ YN src ++ YN dst) rfl (ps_row (λ_=>nth [CV.int IntKind.u8 0]) src dst))));clear hs))
 all_goals first
  | exact rfl
  | (show (Zw eB _ _).length <= _;rw [zS];omega)
  | (have:=congrArg List.length q;have h2:=zCS (IntKind.u64.wrap n) 4;simp only [List.length_append,Zh,List.length_nil] at this;omega)
  | skip
 . exact λi hi=>zGO (ps_row (λ_=>nth [CV.int IntKind.u8 0]) src dst) hi
 . have e : w = s ++ [0,0,0,nx]:=by
    rw [<- eW,q];rfl
   rw [e];refine ⟨⟨some _,qM (zy rfl (by rw [List.length_append];rfl)),Zg (by rw [List.length_append];rfl) (zD rfl (QK _) λk hk=>?_)⟩⟩;rw [show s.length + k - s.length = k by omega];rcases k with _ | _ | _ | _ | k
   . rfl
   . rfl
   . rfl
   . rfl
   . exact absurd hk (by show ¬ _ < 4;omega)
abbrev pseudoE : ZD:=zBu (AC.cons (cE (eA .u8 16)) (AC.cons (cE (eA .u8 16)) (AC.cons (cI .i64) (AC.cons (cI .u8) AC.nil)))) (λ_=>True) (λa=>psB a.1 a.2.1 a.2.2.1 a.2.2.2.1) (λL=>some L.length) (λ_=>none) (λL=>qD eB 5 L)
def LRp1 : Qb:=(57,some upE) :: (56,some pseudoE) :: LRp0
theorem LRp1_ok : ZC Tryz.prog LRp1:=⟨QF ⟨_,Tryz.func57,rfl,by kernel_rfl⟩ (λs l h=>by cases h) λa h=>upper_ok a.1 a.2.1 h.1 h.2.1 h.2.2,QF ⟨_,Tryz.func56,rfl,by kernel_rfl⟩ (λs l h=>by cases h) λa _=>pseudo_ok a.1 a.2.1 a.2.2.1 a.2.2.2.1,zEg⟩
theorem zAM (h : Hdr) (last : CV) : ((eA .u8 16).rd λq=>QH Yv h last (0 + 20 + q)) = h.dst:=by
 funext q
 show qY (QH Yv h last (0 + 20 + q.1)) = h.dst q;rw [show 0 + 20 + q.1 = 20 + q.1 by omega,YD (show 20 + q.1 < 38 by omega),zCw _ _ q.2];exact ZV _ q.2
theorem upB_17 {p : Zz} (h : p.1.nxt = 17) (s : Int) : upB p s = zCb p s ++ p.2:=by unfold upB;rw [if_pos h]
theorem sum_key {p : Zz} (hl : p.2.length <= 70368744177664) (h : p.1.nxt = 17) : [psB p.1.src p.1.dst (IntKind.i64.wrap (ZB p - 40)) 17,upB p 0].flatten = covL p:=by
 unfold psB;rw [wlen hl,upB_17 h,zDV,zDV];unfold zCb;rw [zAd,zAd,zAd,zAd];simp only [List.flatten_cons,List.flatten_nil,List.append_nil,List.append_assoc];rfl
theorem psB_BL {src dst : Fin 16 -> Int} (h1 : ∀ i,0 <= zQ src i /\ zQ src i < 256) (h2 : ∀ i,0 <= zQ dst i /\ zQ dst i < 256) {n nx : Int} (h3 : 0 <= nx /\ nx < 256) : BL (psB src dst n nx):=
 (((zFY h1).append (zFY h2)).append (zAW _ _)).append (BL.cons (by omega) (BL.cons (by omega) (BL.cons (by omega) (BL.cons h3 BL.nil))))
theorem upB_BL {p : Zz} (hp : PkW p) (s : Int) : BL (upB p s):=by
 unfold upB zCb;refine BL.append ?_ hp.pay;split
 . exact (((zAW _ _).append (zAW _ _)).append (zAW _ _)).append (zAW _ _)
 . exact BL.nil
theorem upB_len (p : Zz) (s : Int) : (upB p s).length <= p.2.length + 8:=by
 unfold upB zCb;split
 . simp only [List.length_append,zAd];simp;omega
 . simp
theorem psB_len (src dst : Fin 16 -> Int) (n nx : Int) : (psB src dst n nx).length <= 44:=by
 unfold psB;have:=zCS (IntKind.u64.wrap n) 4;simp only [List.length_append,Zh,List.length_cons,List.length_nil];omega
theorem rsumP_ok (p : Zz) (hp : PkW p) (hl : p.2.length <= 140737488355328) : zY Tryz.prog 33 [cPk.enc p] ((cI .u16).enc (qZ p)):=by
 refine zG (wd:=1) (by decide) zM (zT LRp1_ok) zN Tryz.func33 rfl _ (by show 1 <= _;decide) _ ?_;repeat' (first | (apply And.intro<;>intro hc<;>(first | exact Bool.noConfusion hc | (simp only [Zi] at hc<;>first | exact absurd rfl hc | skip) | skip)) | (refine And.intro Za ?_) | (apply And.intro) | (intro s hs;(first | (have hs' : s = zj p:=hs.trans (congrArg zj (ZX p _));clear hs;subst hs') | (have q : s = ZB p:=hs.trans (congrArg ZB (ZX p _));clear hs;subst q) | (have hq1 : s = psB p.1.src p.1.dst (IntKind.i64.wrap (ZB p - 40)) 17:=by (rw [hs];dsimp only;rw [zAx,zAM])) | (have hq2 : s = upB p 0:=hs.trans (congrArg (λx=>upB x 0) (ZX p _))) | skip)))
 all_goals
  try (have hvl:=YT (p:=p) ‹_›)
 all_goals first
  | (dsimp only;rw [zx];omega)
  | (dsimp only;rw [ZX];exact hp)
  | exact rfl
  | (dsimp only;omega)
  | exact Done.mk (zF (by unfold qZ;rw [if_neg λh=>by first | exact absurd h.1 ‹_› | exact absurd h.2 ‹_› | exact Bool.noConfusion (h.1.symm.trans ‹_›)]))
  | skip
 . refine ⟨λl h=>?_⟩;dsimp only at h;rw [Zv,Zv] at h;simp only [List.mem_cons,List.not_mem_nil,or_false] at h;rcases h with rfl | rfl
   . rw [hq1];exact psB_BL hp.src hp.dst (by omega)
   . rw [hq2];exact upB_BL hp 0
 . show 2 <= 16;decide
 . dsimp only;rw [Zv,Zv];have h1:=psB_len p.1.src p.1.dst (IntKind.i64.wrap (ZB p - 40)) 17;have h2:=upB_len p 0;rw [<- hq1] at h1;rw [<- hq2] at h2;simp only [List.flatten_cons,List.flatten_nil,List.length_append,List.length_nil];omega
 all_goals
  have hv : zj p = true:=by assumption
  have h17 : p.1.nxt = 17:=by assumption
  have e : s = zB9 (covL p):=by
   refine hs.trans ?_;clear hs;dsimp only;rw [Zv,Zv,hq1,hq2,sum_key (by have:=YT hv;omega) h17]
  clear hs;refine Done.mk (zF ?_);rw [zGN hv h17];unfold sum0;rw [<- e];clear e hv h17 hq1 hq2;first | (rw [if_pos ‹_›]) | (rw [if_neg ‹_›])
abbrev rsumE : ZD:=ZH PA (λa=>PkW a.1 /\ a.1.2.length <= 140737488355328) (λa=>qZ a.1) (cI .u16).enc
def LRp2 : Qb:=(33,some rsumE) :: LRp1
theorem zEh : ZC Tryz.prog LRp2:=⟨zO ⟨_,Tryz.func33,rfl,by kernel_rfl⟩ λa h=>rsumP_ok a.1 h.1 h.2,LRp1_ok⟩
theorem fields_ok (p : Zz) (hf : 0 <= p.1.flow /\ p.1.flow < 4294967296) : zY Tryz.prog 71 [cPk.enc p] (zEH (Qi p,zA1 p)):=by
 by_cases h : p.1.nxt = 17
 . exact fields_17 p hf h
 . exact fields_no p hf h
theorem uni_ok (a : Fin 16 -> Int) (k : Adr) (source : Bool) (l : List Ctx) (now : Int) (ha : byteOk a) (hl : bytesL l) : zY Tryz.prog 72 [(cE (eA .u8 16)).enc a,(cE ZF).enc k,cB.enc source,(qf zb zq).enc l,(cI .i64).enc now] (zEG (QZ a k source l now)):=by
 by_cases Z : source = true /\ zBk a zI = true
 . exact uni_ok0 a k source l now ha hl Z
 . exact uni_ok1 a k source l now ha hl Z
abbrev uniA : AC ((Fin 16 -> Int) × Adr × Bool × List Ctx × Int × Unit):=AC.cons (cE (eA .u8 16)) (AC.cons (cE ZF) (AC.cons cB (AC.cons (qf zb zq) (AC.cons (cI .i64) AC.nil))))
abbrev uniE : ZD:=ZH uniA (λa=>byteOk a.1 /\ bytesL a.2.2.2.1) (λa=>QZ a.1 a.2.1 a.2.2.1 a.2.2.2.1 a.2.2.2.2.1) zEG
abbrev grpFE : ZD:=ZH aIp (λ_=>True) (λa=>zBH a.1) zEG
abbrev chkA : AC (Adr × Adr × List Ctx × Int × Unit):=AC.cons (cE ZF) (AC.cons (cE ZF) (AC.cons (qf zb zq) (AC.cons (cI .i64) AC.nil)))
abbrev chkE : ZD:=ZH chkA (λa=>a.2.2.1.length <= 9223372036854775807) (λa=>Zj a.1 a.2.1 a.2.2.1 a.2.2.2.1) (cI .i64).enc
abbrev fldE : ZD:=ZH PA (λa=>0 <= a.1.1.flow /\ a.1.1.flow < 4294967296) (λa=>(Qi a.1,zA1 a.1)) zEH
def LIh5 : Qb:=(72,some uniE) :: (74,some grpFE) :: (70,some chkE) :: (71,some fldE) :: LIh2
theorem zHB : ZC Tryz.prog LIh5:=⟨zO ⟨_,Tryz.func72,rfl,by kernel_rfl⟩ λa h=>uni_ok a.1 a.2.1 a.2.2.1 a.2.2.2.1 a.2.2.2.2.1 h.1 h.2,zO ⟨_,Tryz.func74,rfl,by kernel_rfl⟩ λa _=>grp_ok a.1,zO ⟨_,Tryz.func70,rfl,by kernel_rfl⟩ λa h=>check_ok a.1 a.2.1 a.2.2.1 a.2.2.2.1 h,zO ⟨_,Tryz.func71,rfl,by kernel_rfl⟩ λa h=>fields_ok a.1 h,zDX⟩
structure FmW (f : Fm) : Prop where
 id : 0 <= f.id /\ f.id < 16
 mode : 0 <= f.mode /\ f.mode <= 3
theorem iids_m (y : Int) (k : Adr) : 0 <= (QW y k).1 /\ (QW y k).1 <= 3:=by
 unfold QW;split
 . exact ⟨(by decide : (0 : Int) <= 3),(by decide : (3 : Int) <= 3)⟩
 . split
   . exact ⟨(by decide : (0 : Int) <= 2),(by decide : (2 : Int) <= 3)⟩
   . exact ⟨(by decide : (0 : Int) <= 1),(by decide : (1 : Int) <= 3)⟩
theorem zEF (a : Fin 16 -> Int) (k : Adr) (s : Bool) (l : List Ctx) (now : Int) : FmW (QZ a k s l now).1:=by
 refine ⟨uni_id a k s l now,?_⟩;have:=iids_m (loF a) k;unfold QZ;split
 . exact ⟨(by decide : (0 : Int) <= 0),(by decide : (0 : Int) <= 3)⟩
 . split
   . exact this
   . split
     . exact this
     . exact ⟨(by decide : (0 : Int) <= 0),(by decide : (0 : Int) <= 3)⟩
theorem grp_w (a : Fin 16 -> Int) : FmW (zBH a).1:=by
 unfold zBH;split
 . exact ⟨⟨(by decide : (0 : Int) <= 0),(by decide : (0 : Int) < 16)⟩,(by decide : (0 : Int) <= 3),(by decide : (3 : Int) <= 3)⟩
 . split
   . exact ⟨⟨(by decide : (0 : Int) <= 0),(by decide : (0 : Int) < 16)⟩,(by decide : (0 : Int) <= 2),(by decide : (2 : Int) <= 3)⟩
   . split
     . exact ⟨⟨(by decide : (0 : Int) <= 0),(by decide : (0 : Int) < 16)⟩,(by decide : (0 : Int) <= 1),(by decide : (1 : Int) <= 3)⟩
     . exact ⟨⟨(by decide : (0 : Int) <= 0),(by decide : (0 : Int) < 16)⟩,(by decide : (0 : Int) <= 0),(by decide : (0 : Int) <= 3)⟩
theorem Yx (b : Bool) (v : Int) (h : 0 <= v) : 0 <= qL b v /\ qL b v <= v:=by
 unfold qL;split<;>omega
theorem zHC (p : Zz) : 96 <= Qi p /\ Qi p < 128:=by
 have h1 : 0 <= (Zx p).1 /\ (Zx p).1 <= 3:=by
  unfold Zx;split
  . exact ⟨(by decide : (0 : Int) <= 0),(by decide : (0 : Int) <= 3)⟩
  . split
    . exact ⟨(by decide : (0 : Int) <= 1),(by decide : (1 : Int) <= 3)⟩
    . split
      . exact ⟨(by decide : (0 : Int) <= 2),(by decide : (2 : Int) <= 3)⟩
      . exact ⟨(by decide : (0 : Int) <= 3),(by decide : (3 : Int) <= 3)⟩
 have h2 : 0 <= zAB p.1.hops /\ zAB p.1.hops <= 3:=by unfold zAB;split<;>(try split)<;>(try split)<;>omega
 have h3:=Yx (decide (p.1.nxt = 17)) 4 (by decide);unfold Qi;omega
theorem qB {G : Nat -> Nat -> CV} {x y : Int} (h0 : G 0 0 = .int .u8 x) (h1 : G 1 0 = .int .u8 y) : IsRow G [x,y]:=⟨λk hk=>by
 rcases k with _ | _ | k
 . exact h0
 . exact h1
 . exact absurd hk (by show ¬ _ < 2;omega)⟩
theorem zV {l : List Int} {i k : Nat} (h : i = k) : zn eB l i 0 = .int .u8 (l.getD k default):=by subst h;rfl
theorem zHD {s d : Fm} (hs : FmW s) (hd : FmW d) : IntKind.i64.wrap (IntKind.i64.wrap (16 * s.id) + d.id) = 16 * s.id + d.id:=by
 have h1:=hs.id;have h2:=hd.id;rw [IntWalk.i64_in (16 * s.id) (by omega)];exact IntWalk.i64_in _ (by omega)
theorem sec_eq {s d : Fm} (hs : FmW s) (hd : FmW d) (m : Bool) : IntKind.u8.wrap (IntKind.i64.wrap (IntKind.i64.wrap (IntKind.i64.wrap (qL (IntKind.i64.wrap (IntKind.i64.wrap (16 * s.id) + d.id) != 0) 128 + qL s.ctx 64) + IntKind.i64.wrap (16 * s.mode)) + IntKind.i64.wrap (IntKind.i64.wrap (qL m 8 + qL d.ctx 4) + d.mode))) = zAS s d m:=by
 rw [zHD hs hd];have h1:=hs.mode;have h2:=hd.mode;unfold zAS;have e : (16 * s.id + d.id != 0) = decide (16 * s.id + d.id ≠ 0):=by
  by_cases h : 16 * s.id + d.id = 0
  . rw [h];rfl
  . rw [decide_eq_true h];simp [h]
 rw [e];have b1:=Yx (decide (16 * s.id + d.id ≠ 0)) 128 (by decide);have b2:=Yx s.ctx 64 (by decide);have b3:=Yx m 8 (by decide);have b4:=Yx d.ctx 4 (by decide);rw [IntWalk.i64_in (16 * s.mode) (by omega),IntWalk.i64_in (qL m 8 + qL d.ctx 4) (by omega),IntWalk.i64_in (qL m 8 + qL d.ctx 4 + d.mode) (by omega),IntWalk.i64_in (qL (decide (16 * s.id + d.id ≠ 0)) 128 + qL s.ctx 64) (by omega),
  IntWalk.i64_in (qL (decide (16 * s.id + d.id ≠ 0)) 128 + qL s.ctx 64 + 16 * s.mode) (by omega),IntWalk.i64_in _ (by omega),IntWalk.u8_in _ (by omega)]
 omega
theorem u8_id {x : Int} (h : 0 <= x /\ x < 256) : IntKind.u8.wrap x = x:=IntWalk.u8_in _ (by omega)
theorem enc_true (p : Zz) (f t : Adr) (l : List Ctx) (now : Int) (hp : PkW p) (hpl : p.2.length <= 140737488355328) (hl : bytesL l) (hm : ZP p.1.dst = true) : ql Tryz.prog 44 [cPk.enc p,(cE ZF).enc f,(cE ZF).enc t,(qf zb zq).enc l,(cI .i64).enc now] (some (qt p f t l now).1.length) (some [zB8 (qt p f t l now).2]) (qD eB 5 (qt p f t l now).1):=by
 obtain ⟨W,eW⟩ : ∃ W,qt p f t l now = W:=⟨_,rfl⟩;rw [eW];unfold qt zCf at eW;have wU:=zEF p.1.src f true l now;have hF:=zHC p;have sl1:=zBA p.1.src f true l now;have sl4:=zGy p;have wX:=grp_w p.1.dst;have sl2:=(zGx p.1.dst).1;have eDst : zCt p t l now = zBH p.1.dst:=by unfold zCt;rw [if_pos hm]
 obtain ⟨G,eG⟩ : ∃ x,zBH p.1.dst = x:=⟨_,rfl⟩;obtain ⟨V,eV⟩ : ∃ x,zj p = x:=⟨_,rfl⟩;obtain ⟨Ck,eC⟩ : ∃ x,Zj f t l now = x:=⟨_,rfl⟩;obtain ⟨F,eF⟩ : ∃ x,Qi p = x:=⟨_,rfl⟩;obtain ⟨IL,eI⟩ : ∃ x,zA1 p = x:=⟨_,rfl⟩;obtain ⟨U,eU⟩ : ∃ x,QZ p.1.src f true l now = x:=⟨_,rfl⟩;rw [eG] at eDst wX sl2;rw [eV,eC,eF,eI,eU,eDst,hm] at eW;rw [eU] at wU sl1;rw [eF] at hF;rw [eI] at sl4;have eFI : (Qi p,zA1 p) = (F,IL):=by rw [eF,eI]
 have hb1 : byteOk p.1.src:=⟨λq=>by have:=hp.src q.1;rw [ZV _ q.2] at this;exact this⟩;have hb2 : byteOk p.1.dst:=⟨λq=>by have:=hp.dst q.1;rw [ZV _ q.2] at this;exact this⟩;have e1 : V = false -> W = ([],1):=λh=>by rw [<- eW,if_pos h]
 have e2 : V = true -> ¬ Ck = 0 -> W = ([],Ck):=λh g=>by rw [<- eW,if_neg (by rw [h];decide),if_pos g]
 have e3 : V = true -> Ck = 0 -> W = ([F,zAS U.1 G.1 true] ++ (if 16 * U.1.id + G.1.id ≠ 0 then [16 * U.1.id + G.1.id] else []) ++ IL ++ U.2 ++ G.2,0):=λh g=>by rw [<- eW,if_neg (by rw [h];decide),if_neg (λx=>x g)]
 have eI':=zHD wU wX;have eS:=sec_eq wU wX true;have eF8 : IntKind.u8.wrap F = F:=u8_id (by omega);have eI8 : IntKind.u8.wrap (IntKind.i64.wrap (IntKind.i64.wrap (16 * U.1.id) + G.1.id)) = 16 * U.1.id + G.1.id:=by
  have h1:=wU.id;have h2:=wX.id;rw [eI'];exact u8_id (by omega)
 clear eW eDst eF eI;have g1:=trivial;refine ZR (wd:=1) (by decide) zM (zT zHB) zN Tryz.func44 rfl _ (by show 5 <= _;decide) (λi _ j _=>qU eB _ i j) ?_;repeat' (first | (apply And.intro<;>intro hc<;>(first | exact Bool.noConfusion hc | (exfalso;first | exact Bool.noConfusion hc) | (simp only [Zi] at hc<;>first | exact absurd rfl hc | (exfalso;first | exact Bool.noConfusion hc) | skip) | skip)) | (refine And.intro Za ?_) | (apply And.intro) | (intro s hs;(first | (have q : V = s:=(hs.trans ((congrArg zj (ZX p _)).trans eV)).symm;clear hs;subst q) | (have q : Ck = s:=(hs.trans ((congr (congr (congrArg (λa b c=>Zj a b c now) (zt f)) (zt t)) (zU l)).trans eC)).symm;clear hs;subst q) | (have q : s = (F,IL):=hs.trans ((congrArg (λp=>(Qi p,zA1 p)) (ZX p _)).trans eFI);clear hs;subst q) | (clear g1;have q : U = s:=(hs.trans ((congr (congr (congrArg (λa b c=>QZ a b true c now) (zAx p.1 _)) (zt f)) (zU l)).trans eU)).symm;clear hs;subst q) | (have q : s = true:=hs.trans ((congrArg ZP (zAM p.1 _)).trans hm);clear hs;subst q) | (have q : G = s:=(hs.trans ((congrArg zBH (zAM p.1 _)).trans eG)).symm;clear hs;subst q) | (have q:=hs;dsimp only at q;clear hs;subst q) | skip)))
 all_goals first
  | (show (Zw eB p.2.length _).length <= _;rw [zS];exact hpl)
  | (show (Zw zb l.length _).length <= _;rw [zS];have:=hl.n;omega)
  | ((first | rw [e1 ‹_›] | rw [e2 ‹_› ‹_›])
     exact ⟨⟨none,zE ⟨qN rfl,zA rfl,trivial⟩,rfl,rfl,(by show 0 < 1;omega)⟩⟩)
  | exact Eq.mp (congrArg (λp : Zz=>0 <= p.1.flow) (ZX p _).symm) hp.flow.1
  | exact Eq.mp (congrArg (λp : Zz=>p.1.flow < 4294967296) (ZX p _).symm) hp.flow.2
  | exact Eq.mp (congrArg byteOk (zAx p.1 _).symm) hb1
  | exact Eq.mp (congrArg byteOk (zAM p.1 _).symm) hb2
  | exact Eq.mp (congrArg bytesL (zU l).symm) hl
  | omega
  | (dsimp only;omega)
  | skip
 . have hne : 16 * U.1.id + G.1.id ≠ 0:=by rw [<- eI'];exact hc
   have e:=e3 ‹_› ‹_›;rw [if_pos hne] at e;rw [e];refine ⟨⟨some _,zE ⟨zy rfl ?_,zA rfl,trivial⟩,Zg ?_ (zD ?_ (zD ?_ (zD ?_ (zD rfl (qB (congrArg (CV.int .u8) eF8) (congrArg (CV.int .u8) eS)) (λk hk=>?_)) (λk hk=>zV (by omega))) (λk hk=>zV (by omega))) (λk hk=>zV (by omega)))⟩⟩;all_goals first
    | (obtain rfl : k = 0:=(by have hk' : k < 1:=hk;omega)
       exact congrArg (CV.int .u8) eI8)
    | (simp only [List.length_append,List.length_cons,List.length_nil];done)
    | rfl
 . have hne : ¬ 16 * U.1.id + G.1.id ≠ 0:=λh=>h (by rw [<- eI'];exact hc);have e:=e3 ‹_› ‹_›;rw [if_neg hne] at e;rw [List.append_nil] at e;rw [e];refine ⟨⟨some _,zE ⟨zy rfl ?_,zA rfl,trivial⟩,Zg ?_ (zD ?_ (zD ?_ (zD rfl (qB (congrArg (CV.int .u8) eF8) (congrArg (CV.int .u8) eS)) (λk hk=>zV (by omega))) (λk hk=>zV (by omega))) (λk hk=>zV (by omega)))⟩⟩;all_goals first
    | (simp only [List.length_append,List.length_cons,List.length_nil];done)
    | rfl
theorem enc_false (p : Zz) (f t : Adr) (l : List Ctx) (now : Int) (hp : PkW p) (hpl : p.2.length <= 140737488355328) (hl : bytesL l) (hm : ZP p.1.dst = false) : ql Tryz.prog 44 [cPk.enc p,(cE ZF).enc f,(cE ZF).enc t,(qf zb zq).enc l,(cI .i64).enc now] (some (qt p f t l now).1.length) (some [zB8 (qt p f t l now).2]) (qD eB 5 (qt p f t l now).1):=by
 obtain ⟨W,eW⟩ : ∃ W,qt p f t l now = W:=⟨_,rfl⟩;rw [eW];unfold qt zCf at eW;have wU:=zEF p.1.src f true l now;have hF:=zHC p;have sl1:=zBA p.1.src f true l now;have sl4:=zGy p;have wX:=zEF p.1.dst t false l now;have sl2:=zBA p.1.dst t false l now;have eDst : zCt p t l now = QZ p.1.dst t false l now:=by unfold zCt;rw [if_neg (by rw [hm];decide)]
 obtain ⟨D,eG⟩ : ∃ x,QZ p.1.dst t false l now = x:=⟨_,rfl⟩;obtain ⟨V,eV⟩ : ∃ x,zj p = x:=⟨_,rfl⟩;obtain ⟨Ck,eC⟩ : ∃ x,Zj f t l now = x:=⟨_,rfl⟩;obtain ⟨F,eF⟩ : ∃ x,Qi p = x:=⟨_,rfl⟩;obtain ⟨IL,eI⟩ : ∃ x,zA1 p = x:=⟨_,rfl⟩;obtain ⟨U,eU⟩ : ∃ x,QZ p.1.src f true l now = x:=⟨_,rfl⟩;rw [eG] at eDst wX sl2;rw [eV,eC,eF,eI,eU,eDst,hm] at eW;rw [eU] at wU sl1;rw [eF] at hF;rw [eI] at sl4;have eFI : (Qi p,zA1 p) = (F,IL):=by rw [eF,eI]
 have hb1 : byteOk p.1.src:=⟨λq=>by have:=hp.src q.1;rw [ZV _ q.2] at this;exact this⟩;have hb2 : byteOk p.1.dst:=⟨λq=>by have:=hp.dst q.1;rw [ZV _ q.2] at this;exact this⟩;have e1 : V = false -> W = ([],1):=λh=>by rw [<- eW,if_pos h]
 have e2 : V = true -> ¬ Ck = 0 -> W = ([],Ck):=λh g=>by rw [<- eW,if_neg (by rw [h];decide),if_pos g]
 have e3 : V = true -> Ck = 0 -> W = ([F,zAS U.1 D.1 false] ++ (if 16 * U.1.id + D.1.id ≠ 0 then [16 * U.1.id + D.1.id] else []) ++ IL ++ U.2 ++ D.2,0):=λh g=>by rw [<- eW,if_neg (by rw [h];decide),if_neg (λx=>x g)]
 have eI':=zHD wU wX;have eS:=sec_eq wU wX false;have eF8 : IntKind.u8.wrap F = F:=u8_id (by omega);have eI8 : IntKind.u8.wrap (IntKind.i64.wrap (IntKind.i64.wrap (16 * U.1.id) + D.1.id)) = 16 * U.1.id + D.1.id:=by
  have h1:=wU.id;have h2:=wX.id;rw [eI'];exact u8_id (by omega)
 clear eW eDst eF eI;have g1:=trivial;refine ZR (wd:=1) (by decide) zM (zT zHB) zN Tryz.func44 rfl _ (by show 5 <= _;decide) (λi _ j _=>qU eB _ i j) ?_;repeat' (first | (apply And.intro<;>intro hc<;>(first | exact Bool.noConfusion hc | (exfalso;first | exact Bool.noConfusion hc) | (simp only [Zi] at hc<;>first | exact absurd rfl hc | (exfalso;first | exact Bool.noConfusion hc) | skip) | skip)) | (refine And.intro Za ?_) | (apply And.intro) | (intro s hs;(first | (have q : V = s:=(hs.trans ((congrArg zj (ZX p _)).trans eV)).symm;clear hs;subst q) | (have q : Ck = s:=(hs.trans ((congr (congr (congrArg (λa b c=>Zj a b c now) (zt f)) (zt t)) (zU l)).trans eC)).symm;clear hs;subst q) | (have q : s = (F,IL):=hs.trans ((congrArg (λp=>(Qi p,zA1 p)) (ZX p _)).trans eFI);clear hs;subst q) | (clear g1;have q : U = s:=(hs.trans ((congr (congr (congrArg (λa b c=>QZ a b true c now) (zAx p.1 _)) (zt f)) (zU l)).trans eU)).symm;clear hs;subst q) | (have q : s = false:=hs.trans ((congrArg ZP (zAM p.1 _)).trans hm);clear hs;subst q) | (have q : D = s:=(hs.trans ((congr (congr (congrArg (λa b c=>QZ a b false c now) (zAM p.1 _)) (zt t)) (zU l)).trans eG)).symm;clear hs;subst q) | (have q:=hs;dsimp only at q;clear hs;subst q) | skip)))
 all_goals first
  | (show (Zw eB p.2.length _).length <= _;rw [zS];exact hpl)
  | (show (Zw zb l.length _).length <= _;rw [zS];have:=hl.n;omega)
  | ((first | rw [e1 ‹_›] | rw [e2 ‹_› ‹_›])
     exact ⟨⟨none,zE ⟨qN rfl,zA rfl,trivial⟩,rfl,rfl,(by show 0 < 1;omega)⟩⟩)
  | exact Eq.mp (congrArg (λp : Zz=>0 <= p.1.flow) (ZX p _).symm) hp.flow.1
  | exact Eq.mp (congrArg (λp : Zz=>p.1.flow < 4294967296) (ZX p _).symm) hp.flow.2
  | exact Eq.mp (congrArg byteOk (zAx p.1 _).symm) hb1
  | exact Eq.mp (congrArg byteOk (zAM p.1 _).symm) hb2
  | exact Eq.mp (congrArg bytesL (zU l).symm) hl
  | omega
  | (dsimp only;omega)
  | skip
 . have hne : 16 * U.1.id + D.1.id ≠ 0:=by rw [<- eI'];exact hc
   have e:=e3 ‹_› ‹_›;rw [if_pos hne] at e;rw [e];refine ⟨⟨some _,zE ⟨zy rfl ?_,zA rfl,trivial⟩,Zg ?_ (zD ?_ (zD ?_ (zD ?_ (zD rfl (qB (congrArg (CV.int .u8) eF8) (congrArg (CV.int .u8) eS)) (λk hk=>?_)) (λk hk=>zV (by omega))) (λk hk=>zV (by omega))) (λk hk=>zV (by omega)))⟩⟩;all_goals first
    | (obtain rfl : k = 0:=(by have hk' : k < 1:=hk;omega)
       exact congrArg (CV.int .u8) eI8)
    | (simp only [List.length_append,List.length_cons,List.length_nil];done)
    | rfl
 . have hne : ¬ 16 * U.1.id + D.1.id ≠ 0:=λh=>h (by rw [<- eI'];exact hc);have e:=e3 ‹_› ‹_›;rw [if_neg hne] at e;rw [List.append_nil] at e;rw [e];refine ⟨⟨some _,zE ⟨zy rfl ?_,zA rfl,trivial⟩,Zg ?_ (zD ?_ (zD ?_ (zD rfl (qB (congrArg (CV.int .u8) eF8) (congrArg (CV.int .u8) eS)) (λk hk=>zV (by omega))) (λk hk=>zV (by omega))) (λk hk=>zV (by omega)))⟩⟩;all_goals first
    | (simp only [List.length_append,List.length_cons,List.length_nil];done)
    | rfl
theorem encode_ok (p : Zz) (f t : Adr) (l : List Ctx) (now : Int) (hp : PkW p) (hpl : p.2.length <= 140737488355328) (hl : bytesL l) : ql Tryz.prog 44 [cPk.enc p,(cE ZF).enc f,(cE ZF).enc t,(qf zb zq).enc l,(cI .i64).enc now] (some (qt p f t l now).1.length) (some [zB8 (qt p f t l now).2]) (qD eB 5 (qt p f t l now).1):=by
 cases hm : ZP p.1.dst with
 | true=>exact enc_true p f t l now hp hpl hl hm
 | false=>exact enc_false p f t l now hp hpl hl hm
abbrev enIE : ZD:=zBu (AC.cons cPk (AC.cons (cE ZF) (AC.cons (cE ZF) (AC.cons (qf zb zq) (AC.cons (cI .i64) AC.nil))))) (λa=>PkW a.1 /\ a.1.2.length <= 140737488355328 /\ bytesL a.2.2.2.1) (λa=>qt a.1 a.2.1 a.2.2.1 a.2.2.2.1 a.2.2.2.2.1) (λs=>some s.1.length) (λs=>some [zB8 s.2]) (λs=>qD eB 5 s.1)
theorem enIE_ok : EntOk Tryz.prog 44 enIE:=QF ⟨_,Tryz.func44,rfl,by kernel_rfl⟩ (λs l h x hx=>by injection h with h;subst h;obtain rfl:=List.mem_singleton.1 hx;exact zC7 QS) λa h=>encode_ok a.1 a.2.1 a.2.2.1 a.2.2.2.1 a.2.2.2.2.1 h.1 h.2.1 h.2.2
theorem ouint2_ok (b : List Int) (a n : Int) (hb : BL b) (hl : b.length <= 140737488355328) :
 zY Tryz.prog 89 [(qf eB Zb).enc b,(cI .i64).enc a,(cI .i64).enc n] (zFx (ZL b a n)):=by
 by_cases hr : 1 <= n /\ n <= 8 /\ 0 <= a /\ a <= b.length - n
 . obtain ⟨m,rfl⟩ : ∃ m : Nat,n = m:=⟨n.toNat,by omega⟩;obtain ⟨p,rfl⟩ : ∃ p : Nat,a = p:=⟨a.toNat,by omega⟩;obtain ⟨w,hw⟩ : ∃ w,w = (b.drop p).take m:=⟨_,rfl⟩;have hwl : w.length = m:=by rw [hw];simp;omega
   have hwB : BL w:=by rw [hw];exact (hb.drop p).take m
   have hsp : ZL b p m = (ZT w,true):=by unfold ZL;rw [if_pos hr,hw];rfl
   rw [hsp];have e1 : IntKind.i64.wrap ((b.length : Int) - m) = b.length - m:=IntWalk.i64_in _ (by omega);have e2 : IntKind.i64.wrap ((p : Int) + m) = p + m:=IntWalk.i64_in _ (by omega);have e3 : (IntKind.i64.wrap ((p : Int) + m)).toNat - (p : Int).toNat = m:=by omega
   refine zG (wd:=1) (by decide) zM (zT ZG) zN Tryz.func89 rfl _ (by show 3 <= _;decide) _ ?_;repeat' (first | (apply And.intro<;>intro hc<;>(first | exact Bool.noConfusion hc | (simp only [qm] at hc) | skip)) | (refine And.intro Ql ?_) | (apply And.intro) | (intro s hs))
   all_goals first
    | (exfalso;omega)
    | omega
    | skip
   refine zp (ZE ZG) (λs : {k : Nat // k <= m}=>(⟨[(8,one (.int .u64 (ZT (w.take s.1)))),(34,one (.sl false w.length eB.sz (zn eB w))),(35,one (.int .i64 m)),(36,one (.int .i64 (s.1 : Int)))],[],0⟩ : Hd)) (λs=>m - s.1) (λ_=>rfl) ?_ ⟨0,by omega⟩ [] ?_
   . rintro ⟨k,hk⟩;dsimp only at hk ⊢;have hv:=zBP (w.take k) (hwB.take k);repeat' (first | (apply And.intro<;>intro hc<;>(first | exact Bool.noConfusion hc | (simp only [qm] at hc) | skip)) | (refine And.intro Ql ?_) | (apply And.intro) | (intro s hs))
     all_goals first
      | omega
      | skip
     . have hc' : k < m:=by omega
       have hx:=hwB.get k;refine ⟨⟨k + 1,by omega⟩,[],by dsimp only<;>omega,rfl,?_,?_⟩
       . repeat' (first | exact qH | refine zF ?_ | refine zC ?_ | exact qI | apply And.intro)
         . have hp:=Yj (show (w.take k).length <= 7 by simp;omega);refine (or8 _ _ ⟨hv.1,by omega⟩ hx).trans ?_;show _ = ZT (w.take (k + 1));rw [QC (by omega),YJ];try rfl
         . exact zaw
       . exact QI
     . refine Done.mk (zE ?_);have hkm : k = m:=by omega
       refine ⟨zAY (zA ?_),zAY (zH rfl),trivial⟩;show ZT (w.take k) = ZT w;rw [List.take_of_length_le (by omega)]
   . refine ⟨rfl,?_,?_⟩
     . repeat' (first | exact qH | refine zF ?_ | refine zC ?_ | exact qI | apply And.intro)
       . refine qM (qh (λh=>by cases h) ?_ rfl λi hi j hj=>?_)
         . rw [hwl];exact e3
         . refine qd (E:=eB) ?_;rw [hw,zBd _ _ _ _ (by omega) (by omega)];rfl
       . show ((_ : Nat) : Int) = m;rw [e3]
     . exact QI
 . have hsp : ZL b a n = (0,false):=by unfold ZL;rw [if_neg hr]
   rw [hsp];have e1 : 1 <= n -> n <= 8 -> IntKind.i64.wrap ((b.length : Int) - n) = b.length - n:=λ_ _=>IntWalk.i64_in _ (by omega);refine zG (wd:=1) (by decide) zM (zT ZG) zN Tryz.func89 rfl _ (by show 3 <= _;decide) _ ?_;repeat' (first | (apply And.intro<;>intro hc<;>(first | exact Bool.noConfusion hc | (simp only [qm] at hc) | skip)) | (refine And.intro Ql ?_) | (apply And.intro) | (intro s hs))
   all_goals first
    | exact Done.mk (zE ⟨zAY (zA rfl),zAY (zH rfl),trivial⟩)
    | (exfalso;have:=e1 (by omega) (by omega);omega)
abbrev zG9 : ZD:=ZH uintA (λa=>BL a.1 /\ a.1.length <= 140737488355328) (λa=>ZL a.1 a.2.1 a.2.2.1) zFx
def LOc2 : Qb:=(89,some zG9) :: LIh5
theorem zHA : ZC Tryz.prog LOc2:=⟨zO ⟨_,Tryz.func89,rfl,by kernel_rfl⟩ λa h=>ouint2_ok a.1 a.2.1 a.2.2.1 h.1 h.2,zHB⟩
end Go.Proofs.YtjknkfjhcapocaaGreatDoor.AX
