/- Texts of one's own in one file: Tk, TkR, Wd, TkF, Bg, Plain, PkL, Oc, Mc, Mc2, Mk, BJ, BNw, Ml, BNs, BIn, Ma, Mp, Mdf, Ms, Mon, Ma2, Mq, Mqp, Ma3. -/
import Derived.Test.YtfaibcgakcmhcaaJMulticastComparesb
import Derived.Laws.BitsAllLaws
import Derived.IntWalk
set_option linter.unusedVariables false
set_option linter.unusedSimpArgs false
set_option maxHeartbeats 16000000
set_option maxRecDepth 20000
namespace Go.Proofs.Ytfaibcgakcmhcaa.AX
open Go.RowKit
def eTkC (x : Trk) (j : Nat) : CV:=bif Nat.beq j 0 then .int .i64 x.min else bif Nat.beq j 1 then .int .i64 x.dbl else bif Nat.beq j 2 then .int .i64 x.red else bif Nat.beq j 3 then .int .i64 x.start else bif Nat.beq j 4 then .int .i64 x.len else bif Nat.beq j 5 then .int .i64 x.fire else bif Nat.beq j 6 then .int .i64 x.heard else (.bool x.fired)
def eTk : Elem Trk where
 sz:=8
 cell:=eTkC
 rd g:=⟨Ya (g 0),Ya (g 1),Ya (g 2),Ya (g 3),Ya (g 4),Ya (g 5),Ya (g 6),valB (g 7)⟩
 ok g:=isK .i64 (g 0) && isK .i64 (g 1) && isK .i64 (g 2) && isK .i64 (g 3) && isK .i64 (g 4) && isK .i64 (g 5) && isK .i64 (g 6) && isB (g 7)
 ok_eq g h j hj:=by
  simp only [Bool.and_eq_true] at h;unfold eTkC;by_cases c0 : j < 1
  . have e : j = 0:=by omega
    subst e;exact Qc h.1.1.1.1.1.1.1
  by_cases c1 : j < 2
  . have e : j = 1:=by omega
    subst e;exact Qc h.1.1.1.1.1.1.2
  by_cases c2 : j < 3
  . have e : j = 2:=by omega
    subst e;exact Qc h.1.1.1.1.1.2
  by_cases c3 : j < 4
  . have e : j = 3:=by omega
    subst e;exact Qc h.1.1.1.1.2
  by_cases c4 : j < 5
  . have e : j = 4:=by omega
    subst e;exact Qc h.1.1.1.2
  by_cases c5 : j < 6
  . have e : j = 5:=by omega
    subst e;exact Qc h.1.1.2
  by_cases c6 : j < 7
  . have e : j = 6:=by omega
    subst e;exact Qc h.1.2
  by_cases c7 : j < 8
  . have e : j = 7:=by omega
    subst e;exact isB_eq h.2
  omega
 flat a j:=by
  unfold eTkC;cases Nat.beq j 0 with
  | true=>exact Qz
  | false=>
  cases Nat.beq j 1 with
  | true=>exact Qz
  | false=>
  cases Nat.beq j 2 with
  | true=>exact Qz
  | false=>
  cases Nat.beq j 3 with
  | true=>exact Qz
  | false=>
  cases Nat.beq j 4 with
  | true=>exact Qz
  | false=>
  cases Nat.beq j 5 with
  | true=>exact Qz
  | false=>
  cases Nat.beq j 6 with
  | true=>exact Qz
  | false=>
  exact flat_bool
instance : Inhabited Trk:=⟨YL⟩
abbrev I1 : AC (Int × Unit):=AC.cons (cI .i64) AC.nil
abbrev I3 : AC (Int × Int × Int × Unit):=AC.cons (cI .i64) (AC.cons (cI .i64) I1)
abbrev TAC : AC (Trk × Unit):=AC.cons (cE eTk) AC.nil
abbrev T3 : AC (Trk × Int × Int × Unit):=AC.cons (cE eTk) (AC.cons (cI .i64) (AC.cons (cI .u32) AC.nil))
def enc2 (s : Trk × Int) : FV:=.tup [.agg eTk.sz (eTk.cell s.1),.c (.int .i64 s.2)]
def enc3 (s : Trk × Bool × Int) : FV:=.tup [.agg eTk.sz (eTk.cell s.1),.c (.bool s.2.1),.c (.int .i64 s.2.2)]
def ZS (d : Int) : Prop:=0 <= d /\ d < 4294967296
theorem zA9 {H : Hp} {g : Nat -> CV} {x : Trk} (h : zCz 8 λj=>Zu ⟨H,[],[],0,true⟩ (g j) (eTk.cell x j)) : Done H (.e (.agg 8 g)) ((cE eTk).enc x):=Done.mk (QJ (Zo h))
theorem YB {H : Hp} {g : Nat -> CV} {x : Trk} {e e' : Int} (h : zCz 8 λj=>Zu ⟨H,[],[],0,true⟩ (g j) (eTk.cell x j)) (he : e = e') : Done H (.tup [.agg 8 g,.c (.int .i64 e)]) (enc2 (x,e')):=Done.mk (ZZ ⟨Zo h,leE_c (zC he),trivial⟩)
theorem Yz {H : Hp} {g : Nat -> CV} {x : Trk} {b b' : Bool} {e e' : Int} (h : zCz 8 λj=>Zu ⟨H,[],[],0,true⟩ (g j) (eTk.cell x j)) (hb : b = b') (he : e = e') : Done H (.tup [.agg 8 g,.c (.bool b),.c (.int .i64 e)]) (enc3 (x,b',e')):=Done.mk (ZZ ⟨Zo h,leE_c (zW hb),leE_c (zC he),trivial⟩)
theorem tkTime_ok (c : Int) : Ze Try.prog 60 [(cI .i64).enc c] (cB.enc (ZD c)):=by
 refine zt (wd:=1) (by decide) zN (zb qC) zP Try.func60 rfl _ (by show 1 <= _;decide) _ ?_;repeat' (first | (apply And.intro<;>intro hc<;>(first | exact Bool.noConfusion hc | (simp only [zb0] at hc) | skip)) | (refine And.intro zp0 ?_) | (apply And.intro) | (intro s hs))
 all_goals (refine Done.mk (zG ?_);simp_all [ZD];try omega)
theorem numbers_ok (m d r : Int) : Ze Try.prog 61 [(cI .i64).enc m,(cI .i64).enc d,(cI .i64).enc r] (cB.enc (qa m d r)):=by
 refine zt (wd:=1) (by decide) zN (zb qC) zP Try.func61 rfl _ (by show 3 <= _;decide) _ ?_;repeat' (first | (apply And.intro<;>intro hc<;>(first | exact Bool.noConfusion hc | (simp only [zb0] at hc) | skip)) | (refine And.intro zp0 ?_) | (apply And.intro) | (intro s hs))
 all_goals (refine Done.mk (zG ?_);simp_all [qa];try omega)
theorem begin_ok (t : Trk) (l now draw : Int) (hl : 2 <= l /\ l <= 268435456) (hn : 0 <= now /\ now <= 1099511627776) (hd : ZS draw) :
 Ze Try.prog 62 [(cE eTk).enc t,(cI .i64).enc l,(cI .i64).enc now,(cI .u32).enc draw] ((cE eTk).enc (QL t l now draw)):=by
 unfold ZS at hd;have hm : 0 <= draw % (l - l / 2) /\ draw % (l - l / 2) < l - l / 2:=⟨Int.emod_nonneg _ (by omega),Int.emod_lt_of_pos _ (by omega)⟩;refine zt (wd:=1) (by decide) zN (zb qC) zP Try.func62 rfl _ (by show 4 <= _;decide) _ ?_;repeat' (first | (apply And.intro<;>intro hc<;>(first | exact Bool.noConfusion hc | (simp only [zb0] at hc) | skip)) | (refine And.intro zp0 ?_) | (apply And.intro) | (intro s hs))
 . simp (disch:=omega) only [IntWalk.i64_in,IntWalk.u8_in,IntWalk.u16_in,IntWalk.u32_in,IntWalk.u64_in,Int.tdiv_eq_ediv_of_nonneg,Int.tmod_eq_emod_of_nonneg];omega
 . refine zA9 ?_;repeat' (first | exact trivial | exact rfl | refine zB ?_ | refine zG ?_ | exact zF rfl | refine QJ (Zo ?_) | refine ZZ ?_ | refine zC ?_ | refine zW ?_ | exact zq | exact zD zq | apply And.intro)
   case right.left.left.right=>
    simp (disch:=omega) only [IntWalk.i64_in,IntWalk.u8_in,IntWalk.u16_in,IntWalk.u32_in,IntWalk.u64_in,Int.tdiv_eq_ediv_of_nonneg,Int.tmod_eq_emod_of_nonneg];rfl
   all_goals rfl
abbrev zC5 : Zk:=qr I1 (λ_=>True) (λa=>ZD a.1) cB.enc
abbrev numE : Zk:=qr I3 (λ_=>True) (λa=>qa a.1 a.2.1 a.2.2.1) cB.enc
abbrev beginE : Zk:=qr (AC.cons (cE eTk) (AC.cons (cI .i64) (AC.cons (cI .i64) (AC.cons (cI .u32) AC.nil)))) (λa=>(2 <= a.2.1 /\ a.2.1 <= 268435456) /\ (0 <= a.2.2.1 /\ a.2.2.1 <= 1099511627776) /\ ZS a.2.2.2.1) (λa=>QL a.1 a.2.1 a.2.2.1 a.2.2.2.1) (cE eTk).enc
def L1 : CsL:=(60,some zC5) :: (61,some numE) :: (62,some beginE) :: []
theorem L1_ok : qV Try.prog L1:=⟨zx ⟨_,Try.func60,rfl,by kernel_rfl⟩ λa _=>tkTime_ok a.1,zx ⟨_,Try.func61,rfl,by kernel_rfl⟩ λa _=>numbers_ok a.1 a.2.1 a.2.2.1,zx ⟨_,Try.func62,rfl,by kernel_rfl⟩ λa h=>begin_ok a.1 a.2.1 a.2.2.1 a.2.2.2.1 h.1 h.2.1 h.2.2,trivial⟩
theorem valid_ok (t : Trk) : Ze Try.prog 58 [(cE eTk).enc t] (cB.enc (ZN t)):=by
 have hv : ZN t = (qa t.min t.dbl t.red && ZD t.start && decide (0 <= t.heard /\ t.heard <= 1048576) && Qe t.min t.len (t.dbl.toNat + 1) && decide (t.start + t.len / 2 <= t.fire /\ t.fire <= t.start + t.len - 1)):=rfl;refine zt (wd:=1) (by decide) zN (zb L1_ok) zP Try.func58 rfl _ (by show 1 <= _;decide) _ ?_;repeat' (first | (apply And.intro<;>intro hc<;>(first | exact Bool.noConfusion hc | (simp only [zl] at hc<;>first | exact absurd rfl hc | skip) | skip)) | (refine And.intro zj ?_) | (apply And.intro) | (intro s hs;(first | (have hs' : s = qa t.min t.dbl t.red:=hs) | (have hs' : s = ZD t.start:=hs));clear hs;subst hs'))
 all_goals first
  | (refine Done.mk (zG ?_);rw [hv];simp [*];done)
  | (refine Done.mk (zG ?_);rw [hv];simp [*];omega)
  | skip
 rename_i h1 h2 h3;have h4:=hc;clear hc;obtain ⟨n1,n2,n3,n4,n5,n6⟩:=Qv.1 h1;obtain ⟨t1,t2⟩:=Zi.1 h2;have e1 : IntKind.i64.wrap (t.dbl + 1) = t.dbl + 1:=IntWalk.i64_in _ (by omega);refine zU (zV L1_ok) (λk : { k : Nat // k <= t.dbl.toNat + 1 }=>(⟨[(1,zL (.ptr 0 0 0 false)),(3,.e (.c (.bool (Qe t.min t.len k.1)))),(31,.e (.c (.int .i64 (t.dbl + 1)))),(32,.e (.c (.int .i64 k.1)))],[(0,some ⟨82,1,8,true,λ_=>eTk.cell t⟩)],1⟩ : Hd)) (λk=>t.dbl.toNat + 1 - k.1) (λ_=>rfl) ?_ ⟨0,by omega⟩ [] ?_
 . rintro ⟨k,hk⟩;have hp : k <= 16 -> t.min <= t.min * 2 ^ k /\ t.min * 2 ^ k <= 268435456:=λh=>zDw ⟨n1,n2⟩ h;have hsh : k <= 16 -> Yq .i64 t.min k = t.min * 2 ^ k:=λh=>by
    have:=hp h;unfold Yq;rw [show min ((k : Int).toNat) (IntKind.bits .i64) = k by simp [IntKind.bits];omega];exact IntWalk.i64_in _ (by omega)
   dsimp only;repeat' (first | (apply And.intro<;>intro hc<;>(first | exact Bool.noConfusion hc | (simp only [zb0] at hc) | skip)) | (refine And.intro zp0 ?_) | (apply And.intro) | (intro s hs))
   all_goals try (rename_i g1;have g1' : (k : Int) < t.dbl + 1:=g1;rw [hsh (by omega)] at hc)
   . refine ⟨⟨k + 1,by omega⟩,[],by dsimp only;omega,rfl,?_,?_⟩
     . repeat' (first | exact zw0 | refine zB ?_ | refine zG ?_ | exact zw1 | apply And.intro)
       . simp [Qe,hc]
       . exact zaw
     . exact zwf
   . refine ⟨⟨k + 1,by omega⟩,[],by dsimp only;omega,rfl,?_,?_⟩
     . repeat' (first | exact zw0 | refine zB ?_ | refine zG ?_ | exact zw1 | apply And.intro)
       . simp [Qe,hc]
       . exact zaw
     . exact zwf
   all_goals refine Done.mk (zG ?_)
   . rename_i g1 g2;have hke : k = t.dbl.toNat + 1:=by omega
     subst hke;have hl:=zBp ⟨n1,n2⟩ ⟨n3,n4⟩ g2;simp (disch:=omega) only [IntWalk.i64_in,Int.tdiv_eq_ediv_of_nonneg,decide_eq_true_eq] at hc ⊢;rw [hv,h1,h2,g2,decide_eq_true (show 0 <= t.heard /\ t.heard <= 1048576 by omega)];simp [hc]
   . rename_i g1 g2;have hke : k = t.dbl.toNat + 1:=by omega
     subst hke;have hl:=zBp ⟨n1,n2⟩ ⟨n3,n4⟩ g2;simp (disch:=omega) only [IntWalk.i64_in,Int.tdiv_eq_ediv_of_nonneg,decide_eq_false_iff_not] at hc;rw [hv,decide_eq_false (p:=t.start + t.len / 2 <= t.fire /\ t.fire <= t.start + t.len - 1) (by omega)];simp
   . rename_i g1;have hke : k = t.dbl.toNat + 1:=by omega
     subst hke;rw [hv];simp [*]
 . refine ⟨rfl,?_,?_⟩
   . repeat' (first | exact zw0 | refine zB ?_ | refine zG ?_ | exact zw1 | apply And.intro)
     exact e1
   . exact zwf
abbrev zCo : Zk:=qr TAC (λ_=>True) (λa=>ZN a.1) cB.enc
def L2 : CsL:=(58,some zCo) :: L1
theorem zDu : qV Try.prog L2:=⟨zx ⟨_,Try.func58,rfl,by kernel_rfl⟩ λa _=>valid_ok a.1,L1_ok⟩
theorem newT_ok (m d r now draw : Int) (hd : ZS draw) :
 Ze Try.prog 38 [(cI .i64).enc m,(cI .i64).enc d,(cI .i64).enc r,(cI .i64).enc now,(cI .u32).enc draw] (enc2 (zAA m d r now draw)):=by
 have hb : qa m d r = true -> 2 <= m /\ m <= 4096:=λh=>by have:=Qv.1 h;omega
 have ht : ZD now = true -> 0 <= now /\ now <= 1099511627776:=Zi.1;refine zt (wd:=1) (by decide) zN (zb zDu) zP Try.func38 rfl _ (by show 5 <= _;decide) _ ?_;repeat' (first | (apply And.intro<;>intro hc<;>(first | exact Bool.noConfusion hc | (simp only [zl] at hc<;>first | exact absurd rfl hc | skip) | skip)) | (refine And.intro zj ?_) | (apply And.intro) | (intro s hs;(first | (have hs' : s = qa m d r:=hs) | (have hs' : s = ZD now:=hs) | (have hs' : s = QL ⟨m,d,r,0,0,0,0,false⟩ m now draw:=hs));clear hs;subst hs'))
 all_goals first
  | exact (hb ‹_›).1
  | exact (ht ‹_›).1
  | exact (ht ‹_›).2
  | exact hd.1
  | exact hd.2
  | (have:=hb ‹_›;dsimp only;omega)
  | (have e : zAA m d r now draw = (YL,2):=by simp [zAA, *]
     rw [e];refine YB ?_ rfl;repeat' (first | exact trivial | exact rfl | refine zB ?_ | refine zG ?_ | exact zF rfl | refine QJ (Zo ?_) | refine ZZ ?_ | refine zC ?_ | refine zW ?_ | exact zq | exact zD zq | apply And.intro))
  | (have e : zAA m d r now draw = (QL ⟨m,d,r,0,0,0,0,false⟩ m now draw,0):=by simp [zAA, *]
     rw [e];refine YB ?_ rfl;repeat' (first | exact trivial | exact rfl | refine zB ?_ | refine zG ?_ | exact zF rfl | refine QJ (Zo ?_) | refine ZZ ?_ | refine zC ?_ | refine zW ?_ | exact zq | exact zD zq | apply And.intro))
theorem hear_ok (t : Trk) : Ze Try.prog 36 [(cE eTk).enc t] ((cE eTk).enc (Qq t)):=by
 refine zt (wd:=1) (by decide) zN (zb zDu) zP Try.func36 rfl _ (by show 1 <= _;decide) _ ?_;repeat' (first | (apply And.intro<;>intro hc<;>(first | exact Bool.noConfusion hc | (simp only [zl] at hc<;>first | exact absurd rfl hc | skip) | skip)) | (refine And.intro zj ?_) | (apply And.intro) | (intro s hs;(have hs' : s = ZN t:=hs);clear hs;subst hs'))
 . have e : Qq t = YL:=by simp [Qq, *]
   rw [e];refine zA9 ?_;repeat' (first | exact trivial | exact rfl | refine zB ?_ | refine zG ?_ | exact zF rfl | refine QJ (Zo ?_) | refine ZZ ?_ | refine zC ?_ | refine zW ?_ | exact zq | exact zD zq | apply And.intro)
 . rename_i hv;have hn:=qx hv;have e : Qq t = { t with heard:=t.heard + 1 }:=by simp [Qq, *]
   rw [e];refine zA9 ?_;repeat' (first | exact trivial | exact rfl | refine zB ?_ | refine zG ?_ | exact zF rfl | refine QJ (Zo ?_) | refine ZZ ?_ | refine zC ?_ | refine zW ?_ | exact zq | exact zD zq | apply And.intro)
   all_goals first | rfl | exact IntWalk.i64_in _ (by omega)
 . have e : Qq t = t:=by simp [Qq, *]
   rw [e];refine zA9 ?_;repeat' (first | exact trivial | exact rfl | refine zB ?_ | refine zG ?_ | exact zF rfl | refine QJ (Zo ?_) | refine ZZ ?_ | refine zC ?_ | refine zW ?_ | exact zq | exact zD zq | apply And.intro)
theorem reset_ok (t : Trk) (now draw : Int) (hd : ZS draw) :
 Ze Try.prog 53 [(cE eTk).enc t,(cI .i64).enc now,(cI .u32).enc draw] (enc2 (Zq t now draw)):=by
 have hn:=@qx t;have ht : ZD now = true -> 0 <= now /\ now <= 1099511627776:=Zi.1;refine zt (wd:=1) (by decide) zN (zb zDu) zP Try.func53 rfl _ (by show 3 <= _;decide) _ ?_;repeat' (first | (apply And.intro<;>intro hc<;>(first | exact Bool.noConfusion hc | (simp only [zl] at hc<;>first | exact absurd rfl hc | skip) | skip)) | (refine And.intro zj ?_) | (apply And.intro) | (intro s hs;(first | (have hs' : s = ZN t:=hs) | (have hs' : s = ZD now:=hs) | (have hs' : s = QL t t.min now draw:=hs));clear hs;subst hs'))
 all_goals first
  | exact (hn ‹_›).1.1
  | exact (ht ‹_›).1
  | exact (ht ‹_›).2
  | exact hd.1
  | exact hd.2
  | (have:=hn ‹_›;dsimp only;omega)
  | (have e : Zq t now draw = (YL,1):=by simp [Zq, *]
     rw [e];refine YB ?_ rfl;repeat' (first | exact trivial | exact rfl | refine zB ?_ | refine zG ?_ | exact zF rfl | refine QJ (Zo ?_) | refine ZZ ?_ | refine zC ?_ | refine zW ?_ | exact zq | exact zD zq | apply And.intro))
  | (have e : Zq t now draw = (YL,2):=by simp [Zq, *]
     rw [e];refine YB ?_ rfl;repeat' (first | exact trivial | exact rfl | refine zB ?_ | refine zG ?_ | exact zF rfl | refine QJ (Zo ?_) | refine ZZ ?_ | refine zC ?_ | refine zW ?_ | exact zq | exact zD zq | apply And.intro))
  | (have e : Zq t now draw = (t,0):=by simp [Zq, *]
     rw [e];refine YB ?_ rfl;repeat' (first | exact trivial | exact rfl | refine zB ?_ | refine zG ?_ | exact zF rfl | refine QJ (Zo ?_) | refine ZZ ?_ | refine zC ?_ | refine zW ?_ | exact zq | exact zD zq | apply And.intro))
  | (have e : Zq t now draw = (QL t t.min now draw,0):=by simp [Zq, *]
     rw [e];refine YB ?_ rfl;repeat' (first | exact trivial | exact rfl | refine zB ?_ | refine zG ?_ | exact zF rfl | refine QJ (Zo ?_) | refine ZZ ?_ | refine zC ?_ | refine zW ?_ | exact zq | exact zD zq | apply And.intro))
theorem stepT_ok (t : Trk) (now draw : Int) (hd : ZS draw) :
 Ze Try.prog 45 [(cE eTk).enc t,(cI .i64).enc now,(cI .u32).enc draw] (enc3 (Qr t now draw)):=by
 have hvn:=@qx t;have ht : ZD now = true -> 0 <= now /\ now <= 1099511627776:=Zi.1;have hF1 : t.fired = false -> t.fire <= now -> QM t now = ({ t with fired:=true },decide (t.red = 0 \/ t.heard < t.red)):=λa b=>by unfold QM;rw [if_pos ⟨a,b⟩]
 have hF2 : t.fired = true -> QM t now = (t,false):=λa=>by unfold QM;rw [if_neg (by rw [a];simp)]
 have hF3 : ¬ t.fire <= now -> QM t now = (t,false):=λa=>by unfold QM;rw [if_neg (λh=>a h.2)]
 by_cases hv : ZN t = true
 case neg=>
  have hv' : ZN t = false:=by simpa using hv
  have e : Qr t now draw = (YL,false,1):=by unfold Qr;rw [if_neg hv]
  rw [e];clear hF1 hF2 hF3;refine zt (wd:=1) (by decide) zN (zb zDu) zP Try.func45 rfl _ (by show 3 <= _;decide) _ ?_;repeat' (first | (apply And.intro<;>intro hc<;>(first | exact Bool.noConfusion hc | (simp only [zl] at hc<;>first | exact absurd rfl hc | skip) | skip)) | (refine And.intro zj ?_) | (apply And.intro) | (intro s hs;(first | (have hs' : s = false:=hs.trans hv') | (have hs' : s = ZD now:=hs));clear hs;subst hs'))
  refine Yz ?_ rfl rfl;repeat' (first | exact trivial | exact rfl | refine zB ?_ | refine zG ?_ | exact zF rfl | refine QJ (Zo ?_) | refine ZZ ?_ | refine zC ?_ | refine zW ?_ | exact zq | exact zD zq | apply And.intro)
 by_cases htm : ZD now = true
 case neg=>
  have htm' : ZD now = false:=by simpa using htm
  have e : Qr t now draw = (YL,false,2):=by unfold Qr;rw [if_pos hv,if_neg (λh=>htm h.1)]
  rw [e];clear hF1 hF2 hF3;refine zt (wd:=1) (by decide) zN (zb zDu) zP Try.func45 rfl _ (by show 3 <= _;decide) _ ?_;repeat' (first | (apply And.intro<;>intro hc<;>(first | exact Bool.noConfusion hc | (simp only [zl] at hc<;>first | exact absurd rfl hc | skip) | skip)) | (refine And.intro zj ?_) | (apply And.intro) | (intro s hs;(first | (have hs' : s = true:=hs.trans hv) | (have hs' : s = false:=hs.trans htm'));clear hs;subst hs'))
  all_goals (refine Yz ?_ rfl rfl;repeat' (first | exact trivial | exact rfl | refine zB ?_ | refine zG ?_ | exact zF rfl | refine QJ (Zo ?_) | refine ZZ ?_ | refine zC ?_ | refine zW ?_ | exact zq | exact zD zq | apply And.intro))
 by_cases hst : t.start <= now
 case neg=>
  have e : Qr t now draw = (YL,false,2):=by unfold Qr;rw [if_pos hv,if_neg (λh=>hst h.2)]
  rw [e];clear hF1 hF2 hF3;refine zt (wd:=1) (by decide) zN (zb zDu) zP Try.func45 rfl _ (by show 3 <= _;decide) _ ?_;repeat' (first | (apply And.intro<;>intro hc<;>(first | exact Bool.noConfusion hc | (simp only [zl] at hc<;>first | exact absurd rfl hc | skip) | skip)) | (refine And.intro zj ?_) | (apply And.intro) | (intro s hs;(first | (have hs' : s = true:=hs.trans hv) | (have hs' : s = true:=hs.trans htm));clear hs;subst hs'))
  all_goals first
   | (exfalso;omega)
   | (refine Yz ?_ rfl rfl;repeat' (first | exact trivial | exact rfl | refine zB ?_ | refine zG ?_ | exact zF rfl | refine QJ (Zo ?_) | refine ZZ ?_ | refine zC ?_ | refine zW ?_ | exact zq | exact zD zq | apply And.intro))
 have hn:=hvn hv;obtain ⟨j,hj,hlen⟩:=YX.1 hn.2.2.2.2.1;have hp:=zDw (j:=t.dbl.toNat) ⟨hn.1.1,hn.1.2.1⟩ (by omega);have hsh : Yq .i64 t.min t.dbl = t.min * 2 ^ t.dbl.toNat:=by
  unfold Yq;rw [show min t.dbl.toNat (IntKind.bits .i64) = t.dbl.toNat by simp [IntKind.bits];omega];exact IntWalk.i64_in _ (by omega)
 have ht':=ht htm;have hw1 : IntKind.i64.wrap (t.start + t.len) = t.start + t.len:=IntWalk.i64_in _ (by omega);have hw2 : IntKind.i64.wrap (2 * t.len) = 2 * t.len:=IntWalk.i64_in _ (by omega);have hs : Qr t now draw = (if t.start + t.len <= now then QL (QM t now).1 (Min.min (2 * t.len) (t.min * 2 ^ t.dbl.toNat)) now draw else (QM t now).1,(QM t now).2,0):=by
  unfold Qr;rw [if_pos hv,if_pos ⟨htm,hst⟩]
 have hmn : (if Yq .i64 t.min t.dbl < IntKind.i64.wrap (2 * t.len) then Yq .i64 t.min t.dbl else IntKind.i64.wrap (2 * t.len)) = Min.min (2 * t.len) (t.min * 2 ^ t.dbl.toNat):=by
  rw [hsh,hw2];omega
 have hb1 : ∀ x : Trk,QL x (if Yq .i64 t.min t.dbl < IntKind.i64.wrap (2 * t.len) then Yq .i64 t.min t.dbl else IntKind.i64.wrap (2 * t.len)) now draw = QL x (Min.min (2 * t.len) (t.min * 2 ^ t.dbl.toNat)) now draw:=λx=>by rw [hmn]
 have hst0 : ¬ now < t.start:=by omega
 have hle : 2 <= (if Yq .i64 t.min t.dbl < IntKind.i64.wrap (2 * t.len) then Yq .i64 t.min t.dbl else IntKind.i64.wrap (2 * t.len)) /\ (if Yq .i64 t.min t.dbl < IntKind.i64.wrap (2 * t.len) then Yq .i64 t.min t.dbl else IntKind.i64.wrap (2 * t.len)) <= 268435456:=by rw [hmn];omega
 have g1 : IntKind.i64.wrap (t.start + t.len) <= now -> t.start + t.len <= now:=by rw [hw1];exact id
 have g2 : ¬ IntKind.i64.wrap (t.start + t.len) <= now -> ¬ t.start + t.len <= now:=by rw [hw1];exact id
 have t3 : ∀ x : Trk × Bool,t.red = 0 -> x = ({ t with fired:=true },true) -> x = ({ t with fired:=true },decide (t.red = 0 \/ t.heard < t.red)):=λx h h'=>by rw [h',decide_eq_true (.inl h)]
 rw [hs];clear hs ht hvn;refine zt (wd:=1) (by decide) zN (zb zDu) zP Try.func45 rfl _ (by show 3 <= _;decide) _ ?_;repeat' (first | (apply And.intro<;>intro hc<;>(first | exact Bool.noConfusion hc | (simp only [zl] at hc<;>first | exact absurd rfl hc | skip) | skip)) | (refine And.intro zj ?_) | (apply And.intro) | (intro s hs;(first | (have hs' : s = true:=hs.trans hv;clear hs;subst hs') | (have hs' : s = true:=hs.trans htm;clear hs;subst hs') | (have hs':=hs.trans (hb1 _);clear hs;rename_i s0;try dsimp only at hs'))))
 all_goals first
  | exact absurd ‹_› hst0
  | exact hle.1
  | exact hle.2
  | exact ht'.1
  | exact ht'.2
  | exact hd.1
  | exact hd.2
  | (show (0 : Int) <= t.dbl;omega)
  | skip
 all_goals
  first | rw [hF1 ‹_› ‹_›] | rw [hF2 ‹_›] | rw [hF3 ‹_›]
  first | rw [if_pos (g1 ‹_›)] | rw [if_neg (g2 ‹_›)]
  try subst hs'
  refine Yz ?_ ?_ rfl
  . repeat' (first | exact trivial | exact rfl | refine zB ?_ | refine zG ?_ | exact zF rfl | refine QJ (Zo ?_) | refine ZZ ?_ | refine zC ?_ | refine zW ?_ | exact zq | exact zD zq | apply And.intro)
  . simp [*]
end Go.Proofs.Ytfaibcgakcmhcaa.AX
namespace Go.Proofs.Ytfaibcgakcmhcaa.AX.TkR
open Go.Proofs.Ytfaibcgakcmhcaa.AX
open Go.RowKit
theorem tkTime_ok (c : Int) : Ze Try.prog 63 [(cI .i64).enc c] (cB.enc (ZD c)):=by
 refine zt (wd:=1) (by decide) zN (zb qC) zP Try.func63 rfl _ (by show 1 <= _;decide) _ ?_;repeat' (first | (apply And.intro<;>intro hc<;>(first | exact Bool.noConfusion hc | (simp only [zb0] at hc) | skip)) | (refine And.intro zp0 ?_) | (apply And.intro) | (intro s hs))
 all_goals (refine Done.mk (zG ?_);simp_all [ZD];try omega)
theorem numbers_ok (m d r : Int) : Ze Try.prog 78 [(cI .i64).enc m,(cI .i64).enc d,(cI .i64).enc r] (cB.enc (qa m d r)):=by
 refine zt (wd:=1) (by decide) zN (zb qC) zP Try.func78 rfl _ (by show 3 <= _;decide) _ ?_;repeat' (first | (apply And.intro<;>intro hc<;>(first | exact Bool.noConfusion hc | (simp only [zb0] at hc) | skip)) | (refine And.intro zp0 ?_) | (apply And.intro) | (intro s hs))
 all_goals (refine Done.mk (zG ?_);simp_all [qa];try omega)
theorem begin_ok (t : Trk) (l now draw : Int) (hl : 2 <= l /\ l <= 268435456) (hn : 0 <= now /\ now <= 1099511627776) (hd : ZS draw) :
 Ze Try.prog 79 [(cE eTk).enc t,(cI .i64).enc l,(cI .i64).enc now,(cI .u32).enc draw] ((cE eTk).enc (QL t l now draw)):=by
 unfold ZS at hd;have hm : 0 <= draw % (l - l / 2) /\ draw % (l - l / 2) < l - l / 2:=⟨Int.emod_nonneg _ (by omega),Int.emod_lt_of_pos _ (by omega)⟩;refine zt (wd:=1) (by decide) zN (zb qC) zP Try.func79 rfl _ (by show 4 <= _;decide) _ ?_;repeat' (first | (apply And.intro<;>intro hc<;>(first | exact Bool.noConfusion hc | (simp only [zb0] at hc) | skip)) | (refine And.intro zp0 ?_) | (apply And.intro) | (intro s hs))
 . simp (disch:=omega) only [IntWalk.i64_in,IntWalk.u8_in,IntWalk.u16_in,IntWalk.u32_in,IntWalk.u64_in,Int.tdiv_eq_ediv_of_nonneg,Int.tmod_eq_emod_of_nonneg];omega
 . refine zA9 ?_;repeat' (first | exact trivial | exact rfl | refine zB ?_ | refine zG ?_ | exact zF rfl | refine QJ (Zo ?_) | refine ZZ ?_ | refine zC ?_ | refine zW ?_ | exact zq | exact zD zq | apply And.intro)
   case right.left.left.right=>
    simp (disch:=omega) only [IntWalk.i64_in,IntWalk.u8_in,IntWalk.u16_in,IntWalk.u32_in,IntWalk.u64_in,Int.tdiv_eq_ediv_of_nonneg,Int.tmod_eq_emod_of_nonneg];rfl
   all_goals rfl
def R1 : CsL:=(63,some zC5) :: (78,some numE) :: (79,some beginE) :: []
theorem R1_ok : qV Try.prog R1:=⟨zx ⟨_,Try.func63,rfl,by kernel_rfl⟩ λa _=>tkTime_ok a.1,zx ⟨_,Try.func78,rfl,by kernel_rfl⟩ λa _=>numbers_ok a.1 a.2.1 a.2.2.1,zx ⟨_,Try.func79,rfl,by kernel_rfl⟩ λa h=>begin_ok a.1 a.2.1 a.2.2.1 a.2.2.2.1 h.1 h.2.1 h.2.2,trivial⟩
theorem valid_ok (t : Trk) : Ze Try.prog 69 [(cE eTk).enc t] (cB.enc (ZN t)):=by
 have hv : ZN t = (qa t.min t.dbl t.red && ZD t.start && decide (0 <= t.heard /\ t.heard <= 1048576) && Qe t.min t.len (t.dbl.toNat + 1) && decide (t.start + t.len / 2 <= t.fire /\ t.fire <= t.start + t.len - 1)):=rfl;refine zt (wd:=1) (by decide) zN (zb R1_ok) zP Try.func69 rfl _ (by show 1 <= _;decide) _ ?_;repeat' (first | (apply And.intro<;>intro hc<;>(first | exact Bool.noConfusion hc | (simp only [zl] at hc<;>first | exact absurd rfl hc | skip) | skip)) | (refine And.intro zj ?_) | (apply And.intro) | (intro s hs;(first | (have hs' : s = qa t.min t.dbl t.red:=hs) | (have hs' : s = ZD t.start:=hs));clear hs;subst hs'))
 all_goals first
  | (refine Done.mk (zG ?_);rw [hv];simp [*];done)
  | (refine Done.mk (zG ?_);rw [hv];simp [*];omega)
  | skip
 rename_i h1 h2 h3;have h4:=hc;clear hc;obtain ⟨n1,n2,n3,n4,n5,n6⟩:=Qv.1 h1;obtain ⟨t1,t2⟩:=Zi.1 h2;have e1 : IntKind.i64.wrap (t.dbl + 1) = t.dbl + 1:=IntWalk.i64_in _ (by omega);clear e1;refine zU (zV R1_ok) (λk : { k : Nat // k <= t.dbl.toNat + 1 }=>(⟨[(1,zL (.ptr 0 0 0 false)),(3,.e (.c (.bool (Qe t.min t.len k.1)))),(4,.e (.c (.int .i64 k.1)))],[(0,some ⟨82,1,8,true,λ_=>eTk.cell t⟩)],1⟩ : Hd)) (λk=>t.dbl.toNat + 1 - k.1) (λ_=>rfl) ?_ ⟨0,by omega⟩ [] ?_
 . rintro ⟨k,hk⟩;have hp : k <= 16 -> t.min <= t.min * 2 ^ k /\ t.min * 2 ^ k <= 268435456:=λh=>zDw ⟨n1,n2⟩ h;have hsh : k <= 16 -> Yq .i64 t.min (IntKind.u64.wrap k) = t.min * 2 ^ k:=λh=>by
    have:=hp h;rw [IntWalk.u64_in _ (by omega)];unfold Yq;rw [show min ((k : Int).toNat) (IntKind.bits .i64) = k by simp [IntKind.bits];omega];exact IntWalk.i64_in _ (by omega)
   have hk0 : k <= 16 -> 0 <= IntKind.u64.wrap (k : Int):=λh=>by rw [IntWalk.u64_in _ (by omega)];omega
   dsimp only;repeat' (first | (apply And.intro<;>intro hc<;>(first | exact Bool.noConfusion hc | (simp only [zb0] at hc) | skip)) | (refine And.intro zp0 ?_) | (apply And.intro) | (intro s hs))
   all_goals first
    | exact hk0 (by omega)
    | (refine ⟨⟨k + 1,by omega⟩,[],by dsimp only;omega,rfl,?_,?_⟩
       . repeat' (first | exact zw0 | refine zB ?_ | refine zG ?_ | exact zw1 | apply And.intro)
         . first
            | (simp [Qe, *];done)
            | (rw [hsh (by omega)];simp [Qe, *])
         . exact zaw
       . repeat' (first | exact zw0 | refine zB ?_ | refine zG ?_ | exact zw1 | apply And.intro))
    | skip
   all_goals refine Done.mk (zG ?_)
   all_goals
    have hke : k = t.dbl.toNat + 1:=by omega
    subst hke;clear hsh hp hk0
   . have q2 : Qe t.min t.len (t.dbl.toNat + 1) = true:=by assumption
     have hl:=zBp ⟨n1,n2⟩ ⟨n3,n4⟩ q2;simp (disch:=omega) only [IntWalk.i64_in,Int.tdiv_eq_ediv_of_nonneg] at *;rw [hv,h1,h2,q2,decide_eq_true (show 0 <= t.heard /\ t.heard <= 1048576 by omega)];simp;omega
   . have q2 : Qe t.min t.len (t.dbl.toNat + 1) = true:=by assumption
     have hl:=zBp ⟨n1,n2⟩ ⟨n3,n4⟩ q2;simp (disch:=omega) only [IntWalk.i64_in,Int.tdiv_eq_ediv_of_nonneg] at *;rw [hv,decide_eq_false (p:=t.start + t.len / 2 <= t.fire /\ t.fire <= t.start + t.len - 1) (by omega)];simp
   . rw [hv];simp [*]
 . refine ⟨rfl,?_,?_⟩
   . exact zwf
   . exact zwf
def R2 : CsL:=(69,some zCo) :: R1
theorem zDt : qV Try.prog R2:=⟨zx ⟨_,Try.func69,rfl,by kernel_rfl⟩ λa _=>valid_ok a.1,R1_ok⟩
theorem newT_ok (m d r now draw : Int) (hd : ZS draw) :
 Ze Try.prog 67 [(cI .i64).enc m,(cI .i64).enc d,(cI .i64).enc r,(cI .i64).enc now,(cI .u32).enc draw] (enc2 (zAA m d r now draw)):=by
 have hb : qa m d r = true -> 2 <= m /\ m <= 4096:=λh=>by have:=Qv.1 h;omega
 have ht : ZD now = true -> 0 <= now /\ now <= 1099511627776:=Zi.1;refine zt (wd:=1) (by decide) zN (zb zDt) zP Try.func67 rfl _ (by show 5 <= _;decide) _ ?_;repeat' (first | (apply And.intro<;>intro hc<;>(first | exact Bool.noConfusion hc | (simp only [zl] at hc<;>first | exact absurd rfl hc | skip) | skip)) | (refine And.intro zj ?_) | (apply And.intro) | (intro s hs;(first | (have hs' : s = qa m d r:=hs) | (have hs' : s = ZD now:=hs) | (have hs' : s = QL ⟨m,d,r,0,0,0,0,false⟩ m now draw:=hs));clear hs;subst hs'))
 all_goals first
  | exact (hb ‹_›).1
  | exact (ht ‹_›).1
  | exact (ht ‹_›).2
  | exact hd.1
  | exact hd.2
  | (have:=hb ‹_›;dsimp only;omega)
  | (have e : zAA m d r now draw = (YL,2):=by simp [zAA, *]
     rw [e];refine YB ?_ rfl;repeat' (first | exact trivial | exact rfl | refine zB ?_ | refine zG ?_ | exact zF rfl | refine QJ (Zo ?_) | refine ZZ ?_ | refine zC ?_ | refine zW ?_ | exact zq | exact zD zq | apply And.intro))
  | (have e : zAA m d r now draw = (QL ⟨m,d,r,0,0,0,0,false⟩ m now draw,0):=by simp [zAA, *]
     rw [e];refine YB ?_ rfl;repeat' (first | exact trivial | exact rfl | refine zB ?_ | refine zG ?_ | exact zF rfl | refine QJ (Zo ?_) | refine ZZ ?_ | refine zC ?_ | refine zW ?_ | exact zq | exact zD zq | apply And.intro))
theorem hear_ok (t : Trk) : Ze Try.prog 65 [(cE eTk).enc t] ((cE eTk).enc (Qq t)):=by
 refine zt (wd:=1) (by decide) zN (zb zDt) zP Try.func65 rfl _ (by show 1 <= _;decide) _ ?_;repeat' (first | (apply And.intro<;>intro hc<;>(first | exact Bool.noConfusion hc | (simp only [zl] at hc<;>first | exact absurd rfl hc | skip) | skip)) | (refine And.intro zj ?_) | (apply And.intro) | (intro s hs;(have hs' : s = ZN t:=hs);clear hs;subst hs'))
 . have e : Qq t = YL:=by simp [Qq, *]
   rw [e];refine zA9 ?_;repeat' (first | exact trivial | exact rfl | refine zB ?_ | refine zG ?_ | exact zF rfl | refine QJ (Zo ?_) | refine ZZ ?_ | refine zC ?_ | refine zW ?_ | exact zq | exact zD zq | apply And.intro)
 . have hv : ZN t = true:=by assumption
   have hn:=qx hv;have w1 : IntKind.i64.wrap (t.heard + 1) = t.heard + 1:=IntWalk.i64_in _ (by omega);have e : Qq t = { t with heard:=if (1048576 : Int) < t.heard + 1 then 1048576 else t.heard + 1 }:=by
    unfold Qq;rw [if_pos hv];by_cases hc' : t.heard < 1048576
    . rw [if_pos hc',if_neg (by omega)]
    . rw [if_neg hc',if_pos (by omega)];obtain ⟨a1,a2,a3,a4,a5,a6,a7,a8⟩:=t;dsimp only at hc' hn ⊢;rw [show a7 = 1048576 by omega]
   rw [e];refine zA9 ?_;repeat' (first | exact trivial | exact rfl | refine zB ?_ | refine zG ?_ | exact zF rfl | refine QJ (Zo ?_) | refine ZZ ?_ | refine zC ?_ | refine zW ?_ | exact zq | exact zD zq | apply And.intro)
   all_goals first | rfl | rw [w1]
theorem reset_ok (t : Trk) (now draw : Int) (hd : ZS draw) :
 Ze Try.prog 76 [(cE eTk).enc t,(cI .i64).enc now,(cI .u32).enc draw] (enc2 (Zq t now draw)):=by
 have hn:=@qx t;have ht : ZD now = true -> 0 <= now /\ now <= 1099511627776:=Zi.1;refine zt (wd:=1) (by decide) zN (zb zDt) zP Try.func76 rfl _ (by show 3 <= _;decide) _ ?_;repeat' (first | (apply And.intro<;>intro hc<;>(first | exact Bool.noConfusion hc | (simp only [zl] at hc<;>first | exact absurd rfl hc | skip) | skip)) | (refine And.intro zj ?_) | (apply And.intro) | (intro s hs;(first | (have hs' : s = ZN t:=hs) | (have hs' : s = ZD now:=hs) | (have hs' : s = QL t t.min now draw:=hs));clear hs;subst hs'))
 all_goals first
  | exact (hn ‹_›).1.1
  | exact (ht ‹_›).1
  | exact (ht ‹_›).2
  | exact hd.1
  | exact hd.2
  | (have:=hn ‹_›;dsimp only;omega)
  | (have e : Zq t now draw = (YL,1):=by simp [Zq, *]
     rw [e];refine YB ?_ rfl;repeat' (first | exact trivial | exact rfl | refine zB ?_ | refine zG ?_ | exact zF rfl | refine QJ (Zo ?_) | refine ZZ ?_ | refine zC ?_ | refine zW ?_ | exact zq | exact zD zq | apply And.intro))
  | (have e : Zq t now draw = (YL,2):=by simp [Zq, *]
     rw [e];refine YB ?_ rfl;repeat' (first | exact trivial | exact rfl | refine zB ?_ | refine zG ?_ | exact zF rfl | refine QJ (Zo ?_) | refine ZZ ?_ | refine zC ?_ | refine zW ?_ | exact zq | exact zD zq | apply And.intro))
  | (have e : Zq t now draw = (t,0):=by simp [Zq, *]
     rw [e];refine YB ?_ rfl;repeat' (first | exact trivial | exact rfl | refine zB ?_ | refine zG ?_ | exact zF rfl | refine QJ (Zo ?_) | refine ZZ ?_ | refine zC ?_ | refine zW ?_ | exact zq | exact zD zq | apply And.intro))
  | (have e : Zq t now draw = (QL t t.min now draw,0):=by simp [Zq, *]
     rw [e];refine YB ?_ rfl;repeat' (first | exact trivial | exact rfl | refine zB ?_ | refine zG ?_ | exact zF rfl | refine QJ (Zo ?_) | refine ZZ ?_ | refine zC ?_ | refine zW ?_ | exact zq | exact zD zq | apply And.intro))
theorem stepT_ok (t : Trk) (now draw : Int) (hd : ZS draw) :
 Ze Try.prog 72 [(cE eTk).enc t,(cI .i64).enc now,(cI .u32).enc draw] (enc3 (Qr t now draw)):=by
 have hvn:=@qx t;have ht : ZD now = true -> 0 <= now /\ now <= 1099511627776:=Zi.1;have hF1 : t.fired = false -> t.fire <= now -> QM t now = ({ t with fired:=true },decide (t.red = 0 \/ t.heard < t.red)):=λa b=>by unfold QM;rw [if_pos ⟨a,b⟩]
 have hF2 : t.fired = true -> QM t now = (t,false):=λa=>by unfold QM;rw [if_neg (by rw [a];simp)]
 have hF3 : ¬ t.fire <= now -> QM t now = (t,false):=λa=>by unfold QM;rw [if_neg (λh=>a h.2)]
 by_cases hv : ZN t = true
 case neg=>
  have hv' : ZN t = false:=by simpa using hv
  have e : Qr t now draw = (YL,false,1):=by unfold Qr;rw [if_neg hv]
  rw [e];clear hF1 hF2 hF3;refine zt (wd:=1) (by decide) zN (zb zDt) zP Try.func72 rfl _ (by show 3 <= _;decide) _ ?_;repeat' (first | (apply And.intro<;>intro hc<;>(first | exact Bool.noConfusion hc | (simp only [zl] at hc<;>first | exact absurd rfl hc | skip) | skip)) | (refine And.intro zj ?_) | (apply And.intro) | (intro s hs;(first | (have hs' : s = false:=hs.trans hv') | (have hs' : s = ZD now:=hs));clear hs;subst hs'))
  refine Yz ?_ rfl rfl;repeat' (first | exact trivial | exact rfl | refine zB ?_ | refine zG ?_ | exact zF rfl | refine QJ (Zo ?_) | refine ZZ ?_ | refine zC ?_ | refine zW ?_ | exact zq | exact zD zq | apply And.intro)
 by_cases htm : ZD now = true
 case neg=>
  have htm' : ZD now = false:=by simpa using htm
  have e : Qr t now draw = (YL,false,2):=by unfold Qr;rw [if_pos hv,if_neg (λh=>htm h.1)]
  rw [e];clear hF1 hF2 hF3;refine zt (wd:=1) (by decide) zN (zb zDt) zP Try.func72 rfl _ (by show 3 <= _;decide) _ ?_;repeat' (first | (apply And.intro<;>intro hc<;>(first | exact Bool.noConfusion hc | (simp only [zl] at hc<;>first | exact absurd rfl hc | skip) | skip)) | (refine And.intro zj ?_) | (apply And.intro) | (intro s hs;(first | (have hs' : s = true:=hs.trans hv) | (have hs' : s = false:=hs.trans htm'));clear hs;subst hs'))
  all_goals (refine Yz ?_ rfl rfl;repeat' (first | exact trivial | exact rfl | refine zB ?_ | refine zG ?_ | exact zF rfl | refine QJ (Zo ?_) | refine ZZ ?_ | refine zC ?_ | refine zW ?_ | exact zq | exact zD zq | apply And.intro))
 by_cases hst : t.start <= now
 case neg=>
  have e : Qr t now draw = (YL,false,2):=by unfold Qr;rw [if_pos hv,if_neg (λh=>hst h.2)]
  rw [e];clear hF1 hF2 hF3;refine zt (wd:=1) (by decide) zN (zb zDt) zP Try.func72 rfl _ (by show 3 <= _;decide) _ ?_;repeat' (first | (apply And.intro<;>intro hc<;>(first | exact Bool.noConfusion hc | (simp only [zl] at hc<;>first | exact absurd rfl hc | skip) | skip)) | (refine And.intro zj ?_) | (apply And.intro) | (intro s hs;(first | (have hs' : s = true:=hs.trans hv) | (have hs' : s = true:=hs.trans htm));clear hs;subst hs'))
  all_goals first
   | (exfalso;omega)
   | (refine Yz ?_ rfl rfl;repeat' (first | exact trivial | exact rfl | refine zB ?_ | refine zG ?_ | exact zF rfl | refine QJ (Zo ?_) | refine ZZ ?_ | refine zC ?_ | refine zW ?_ | exact zq | exact zD zq | apply And.intro))
 have hn:=hvn hv;obtain ⟨j,hj,hlen⟩:=YX.1 hn.2.2.2.2.1;have hp:=zDw (j:=t.dbl.toNat) ⟨hn.1.1,hn.1.2.1⟩ (by omega);have hu : IntKind.u64.wrap t.dbl = t.dbl:=IntWalk.u64_in _ (by omega);have hu0 : 0 <= IntKind.u64.wrap t.dbl:=by omega
 have hsh : Yq .i64 t.min (IntKind.u64.wrap t.dbl) = t.min * 2 ^ t.dbl.toNat:=by
  rw [hu];unfold Yq;rw [show min t.dbl.toNat (IntKind.bits .i64) = t.dbl.toNat by simp [IntKind.bits];omega];exact IntWalk.i64_in _ (by omega)
 have ht':=ht htm;have hw1 : IntKind.i64.wrap (t.start + t.len) = t.start + t.len:=IntWalk.i64_in _ (by omega);have hw2 : IntKind.i64.wrap (2 * t.len) = 2 * t.len:=IntWalk.i64_in _ (by omega);have hs : Qr t now draw = (if t.start + t.len <= now then QL (QM t now).1 (Min.min (2 * t.len) (t.min * 2 ^ t.dbl.toNat)) now draw else (QM t now).1,(QM t now).2,0):=by
  unfold Qr;rw [if_pos hv,if_pos ⟨htm,hst⟩]
 have hmn : (if Yq .i64 t.min (IntKind.u64.wrap t.dbl) < IntKind.i64.wrap (2 * t.len) then Yq .i64 t.min (IntKind.u64.wrap t.dbl) else IntKind.i64.wrap (2 * t.len)) = Min.min (2 * t.len) (t.min * 2 ^ t.dbl.toNat):=by
  rw [hsh,hw2];omega
 have hb1 : ∀ x : Trk,QL x (if Yq .i64 t.min (IntKind.u64.wrap t.dbl) < IntKind.i64.wrap (2 * t.len) then Yq .i64 t.min (IntKind.u64.wrap t.dbl) else IntKind.i64.wrap (2 * t.len)) now draw = QL x (Min.min (2 * t.len) (t.min * 2 ^ t.dbl.toNat)) now draw:=λx=>by rw [hmn]
 have hst0 : ¬ now < t.start:=by omega
 have hle : 2 <= (if Yq .i64 t.min (IntKind.u64.wrap t.dbl) < IntKind.i64.wrap (2 * t.len) then Yq .i64 t.min (IntKind.u64.wrap t.dbl) else IntKind.i64.wrap (2 * t.len)) /\ (if Yq .i64 t.min (IntKind.u64.wrap t.dbl) < IntKind.i64.wrap (2 * t.len) then Yq .i64 t.min (IntKind.u64.wrap t.dbl) else IntKind.i64.wrap (2 * t.len)) <= 268435456:=by rw [hmn];omega
 have g1 : IntKind.i64.wrap (t.start + t.len) <= now -> t.start + t.len <= now:=by rw [hw1];exact id
 have g2 : ¬ IntKind.i64.wrap (t.start + t.len) <= now -> ¬ t.start + t.len <= now:=by rw [hw1];exact id
 have t3 : ∀ x : Trk × Bool,t.red = 0 -> x = ({ t with fired:=true },true) -> x = ({ t with fired:=true },decide (t.red = 0 \/ t.heard < t.red)):=λx h h'=>by rw [h',decide_eq_true (.inl h)]
 rw [hs];clear hs ht hvn;refine zt (wd:=1) (by decide) zN (zb zDt) zP Try.func72 rfl _ (by show 3 <= _;decide) _ ?_;repeat' (first | (apply And.intro<;>intro hc<;>(first | exact Bool.noConfusion hc | (simp only [zl] at hc<;>first | exact absurd rfl hc | skip) | skip)) | (refine And.intro zj ?_) | (apply And.intro) | (intro s hs;(first | (have hs' : s = true:=hs.trans hv;clear hs;subst hs') | (have hs' : s = true:=hs.trans htm;clear hs;subst hs') | (have hs':=hs.trans (hb1 _);clear hs;rename_i s0;try dsimp only at hs'))))
 all_goals first
  | exact absurd ‹_› hst0
  | exact hle.1
  | exact hle.2
  | exact ht'.1
  | exact ht'.2
  | exact hd.1
  | exact hd.2
  | exact hu0
  | skip
 all_goals
  first | rw [hF1 ‹_› ‹_›] | rw [hF2 ‹_›] | rw [hF3 ‹_›]
  first | rw [if_pos (g1 ‹_›)] | rw [if_neg (g2 ‹_›)]
  try subst hs'
  refine Yz ?_ ?_ rfl
  . repeat' (first | exact trivial | exact rfl | refine zB ?_ | refine zG ?_ | exact zF rfl | refine QJ (Zo ?_) | refine ZZ ?_ | refine zC ?_ | refine zW ?_ | exact zq | exact zD zq | apply And.intro)
  . simp [*]
end Go.Proofs.Ytfaibcgakcmhcaa.AX.TkR
namespace Go.Proofs.Ytfaibcgakcmhcaa.AX
open Go.RowKit
theorem base_ok (n : Nat) (l : List Int) (q : Int) (ht : TapeOk n (rI l) q) :
 ∃ (r q' : Int),(0 <= r /\ r <= 1099511627776) /\ TapeOk n (rI l) q' /\ YE Try.prog 14 [] (qM n (rI l) q) ((cI .i64).enc r) (qM n (rI l) q'):=by
 refine qw (wd:=1) (by decide) zN (zb zBA) zP Try.func14 rfl _ (by show 0 + 1 <= _;decide) (λ_=>zCR) ?_;repeat' (first | (apply And.intro<;>intro hc<;>(first | exact Bool.noConfusion hc | (simp only [zb0] at hc) | skip)) | (refine And.intro zj ?_) | (apply And.intro) | (intro s hs))
 . rename_i r hr;have hr' : 0 <= r /\ r < 5:=hr;exact ⟨(r,_),⟨⟨by omega,by omega⟩,by assumption⟩,⟨zB rfl,ZW⟩⟩
 . rename_i r hr;have hr' : 0 <= r /\ r < 40:=hr;exact ⟨(1099511627776 - r,_),⟨⟨by omega,by omega⟩,by assumption⟩,⟨zB (IntWalk.i64_in _ (by omega)),ZW⟩⟩
 . rename_i r hr;have hr' : 0 <= r /\ r < 1000:=hr;exact ⟨(r,_),⟨⟨by omega,by omega⟩,by assumption⟩,⟨zB rfl,ZW⟩⟩
theorem time_ok (n : Nat) (l : List Int) (q b : Int) (ht : TapeOk n (rI l) q) (hb : 0 <= b /\ b <= 1099511627776) :
 ∃ (r q' : Int),(0 <= r /\ r <= 1099511627776) /\ TapeOk n (rI l) q' /\ YE Try.prog 17 [(cI .i64).enc b] (qM n (rI l) q) ((cI .i64).enc r) (qM n (rI l) q'):=by
 refine qw (wd:=1) (by decide) zN (zb zBA) zP Try.func17 rfl _ (by show 1 + 1 <= _;decide) (λ_=>zCR) ?_;repeat' (first | (apply And.intro<;>intro hc<;>(first | exact Bool.noConfusion hc | (simp only [zb0] at hc) | skip)) | (refine And.intro zj ?_) | (apply And.intro) | (intro s hs))
 rename_i r hr;have hr' : 0 <= r /\ r < 60:=hr;refine ⟨(max 0 (min 1099511627776 (b + r - 30)),_),⟨⟨by omega,by omega⟩,by assumption⟩,⟨zB ?_,ZW⟩⟩;rw [IntWalk.i64_in (b + r) (by omega),IntWalk.i64_in (b + r - 30) (by omega)];split<;>split<;>omega
abbrev baseE : Zk:=zAc AC.nil (λ_=>True) (λa (r : Int)=>0 <= r /\ r <= 1099511627776) (cI .i64).enc
abbrev wtimeE : Zk:=zAc (AC.cons (cI .i64) AC.nil) (λa=>0 <= a.1 /\ a.1 <= 1099511627776) (λa (r : Int)=>0 <= r /\ r <= 1099511627776) (cI .i64).enc
def LWd : CsL:=(14,some baseE) :: (17,some wtimeE) :: LTb
theorem LWd_ok : qV Try.prog LWd:=⟨Qp ⟨_,Try.func14,rfl,by kernel_rfl⟩ λn l q a ht hp=>base_ok n l q ht,Qp ⟨_,Try.func17,rfl,by kernel_rfl⟩ λn l q a ht hp=>time_ok n l q a.1 ht hp,zBA⟩
theorem zGG {x : Trk} {now draw : Int} (h : ZN x = true) (hn : 0 <= now /\ now <= 1099511627776) (hs : x.start <= now) : ZN (Qr x now draw).1 = true:=by
 have hv:=qx h;obtain ⟨f1,f2,f3,f4,f5,f6⟩:=zGI (now:=now) h;have e : Qr x now draw = (if x.start + x.len <= now then QL (QM x now).1 (min (2 * x.len) (x.min * 2 ^ x.dbl.toNat)) now draw else (QM x now).1,(QM x now).2,0):=by
  unfold Qr;rw [if_pos h,if_pos ⟨Zi.2 (by omega),hs⟩]
 rw [e];show ZN (if x.start + x.len <= now then _ else _) = true;split
 . refine (zC6 f1 ?_ hn).1;rw [f5,f6];exact zFe (by omega) (by omega) hv.2.2.2.2.1
 . exact f1
theorem zEW {m d r now draw : Int} (h : qa m d r = true) (hn : 0 <= now /\ now <= 1099511627776) : ZN (zAA m d r now draw).1 = true:=by
 obtain ⟨h1,h2,h3,h4,h5,h6⟩:=Qv.1 h;have e : zAA m d r now draw = (QL ⟨m,d,r,0,0,0,0,false⟩ m now draw,0):=by unfold zAA;rw [if_pos ⟨Zi.2 hn,h⟩]
 rw [e];have hm : 0 <= draw % (m - m / 2) /\ draw % (m - m / 2) < m - m / 2:=⟨Int.emod_nonneg _ (by omega),Int.emod_lt_of_pos _ (by omega)⟩;refine zAw h (Zi.2 hn) (by show 0 <= (0 : Int) /\ (0 : Int) <= _;omega) (YX.2 ⟨0,by omega,by show m = m * 2 ^ 0;simp⟩) ?_;show now + m / 2 <= now + m / 2 + draw % (m - m / 2) /\ now + m / 2 + draw % (m - m / 2) <= now + m - 1;omega
theorem zFa {x : Trk} {v : Int} (h : ZN x = true) (hv : 0 <= v /\ v < 4) : ZN { x with heard:=v } = true:=by
 have hn:=qx h;obtain ⟨p1,p2⟩:=zAK h;exact zAw p1 p2 (by show 0 <= v /\ v <= _;omega) hn.2.2.2.2.1 hn.2.2.2.2.2
theorem zFb (x : Trk) (now draw : Int) (h : (Zq x now draw).2 = 0) : ZN (Zq x now draw).1 = true:=by
 unfold Zq at h ⊢;split at h
 . rename_i hv;rw [if_pos hv];split at h
   . rename_i ht;rw [if_pos ht];split
     . exact hv
     . exact (zC6 hv (YX.2 ⟨0,by omega,by simp⟩) (Zi.1 ht)).1
   . cases h
 . cases h
abbrev newTE : Zk:=qr (AC.cons (cI .i64) (AC.cons (cI .i64) (AC.cons (cI .i64) (AC.cons (cI .i64) (AC.cons (cI .u32) AC.nil))))) (λa=>ZS a.2.2.2.2.1) (λa=>zAA a.1 a.2.1 a.2.2.1 a.2.2.2.1 a.2.2.2.2.1) enc2
abbrev hearE : Zk:=qr TAC (λ_=>True) (λa=>Qq a.1) (cE eTk).enc
abbrev resetE : Zk:=qr T3 (λa=>ZS a.2.2.1) (λa=>Zq a.1 a.2.1 a.2.2.1) enc2
abbrev stepE : Zk:=qr T3 (λa=>ZS a.2.2.1) (λa=>Qr a.1 a.2.1 a.2.2.1) enc3
def LTk : CsL:=(38,some newTE) :: (36,some hearE) :: (53,some resetE) :: (45,some stepE) ::
 (67,some newTE) :: (65,some hearE) :: (76,some resetE) :: (72,some stepE) :: (69,some zCo) :: (58,some zCo) :: LWd
theorem zCn : qV Try.prog LTk:=⟨zx ⟨_,Try.func38,rfl,by kernel_rfl⟩ λa h=>newT_ok _ _ _ _ _ h,zx ⟨_,Try.func36,rfl,by kernel_rfl⟩ λa h=>hear_ok _,zx ⟨_,Try.func53,rfl,by kernel_rfl⟩ λa h=>reset_ok _ _ _ h,zx ⟨_,Try.func45,rfl,by kernel_rfl⟩ λa h=>stepT_ok _ _ _ h,
 zx ⟨_,Try.func67,rfl,by kernel_rfl⟩ λa h=>TkR.newT_ok _ _ _ _ _ h,zx ⟨_,Try.func65,rfl,by kernel_rfl⟩ λa h=>TkR.hear_ok _,zx ⟨_,Try.func76,rfl,by kernel_rfl⟩ λa h=>TkR.reset_ok _ _ _ h,zx ⟨_,Try.func72,rfl,by kernel_rfl⟩ λa h=>TkR.stepT_ok _ _ _ h,
 zx ⟨_,Try.func69,rfl,by kernel_rfl⟩ λa h=>TkR.valid_ok _,zx ⟨_,Try.func58,rfl,by kernel_rfl⟩ λa h=>valid_ok _,LWd_ok⟩
theorem zCQ (x : Int) : ZS (IntKind.u32.wrap x):=by unfold ZS;rw [IntKind.wrap_u32'];omega
def rowFF {β : Type} [Inhabited β] (F : Elem β) (L : List (List β)) (i _j : Nat) : CV:=.sl false (L.getD i []).length F.sz (QG F (L.getD i []))
theorem cl_ll {β : Type} [Inhabited β] (F : Elem β) (L : List (List β)) : Cl (.sl false L.length 1 (rowFF F L)):=cl_sl λi _ j _=>cl_sl λi' _ j' _=>(F.flat _ _).cl
end Go.Proofs.Ytfaibcgakcmhcaa.AX
namespace Go.Proofs.Ytfaibcgakcmhcaa
def side (hi : Bool) (l : List UInt8) : Bool:=hi ^^ decide (l.length % 2 = 1)
structure BL (l : List Int) : Prop where
 m : ∀ x ∈ l,0 <= x /\ x < 256
theorem BL.nil : BL []:=⟨λx h=>by cases h⟩
theorem BL.cons {x : Int} {l : List Int} (hx : 0 <= x /\ x < 256) (h : BL l) : BL (x :: l):=⟨λy hy=>by
 rcases List.mem_cons.1 hy with rfl | hy
 . exact hx
 . exact h.m y hy⟩
theorem BL.append {l m : List Int} (h : BL l) (k : BL m) : BL (l ++ m):=⟨λy hy=>by
 rcases List.mem_append.1 hy with hy | hy
 . exact h.m y hy
 . exact k.m y hy⟩
theorem BL.take {l : List Int} (h : BL l) (n : Nat) : BL (l.take n):=⟨λy hy=>h.m y (List.mem_of_mem_take hy)⟩
theorem BL.drop {l : List Int} (h : BL l) (n : Nat) : BL (l.drop n):=⟨λy hy=>h.m y (List.mem_of_mem_drop hy)⟩
end Go.Proofs.Ytfaibcgakcmhcaa
namespace Go.Proofs.Ytfaibcgakcmhcaa.AX
open Go.RowKit
abbrev eB : Elem Int:=eI .u8
theorem eI_rd (k : IntKind) (a : Int) : (eI k).rd ((eI k).cell a) = a:=rfl
theorem toL_b (l : List Int) : toL eB l.length (QG eB l) = l:=Ye (eI_rd .u8) l
theorem leN_set {c : Wc} {t : TypeId} {α : Type} [Inhabited α] {E : Elem α} {L : List α} {idx n : Nat} {x : α} {f : Nat -> Nat -> CV} {g : Nat -> CV} (hn : n = L.length) (hi : idx < L.length)
 (hf : ∀ i,i < L.length -> ∀ j,j < E.sz -> Zu c (f i j) (QG E L i j)) (hg : ∀ j,j < E.sz -> Zu c (g j) (E.cell x j)) : LeN c ⟨t,n,E.sz,false,zBW false f idx g⟩ (zA0 E t (L.set idx x)):=by
 refine zEm (by rw [hn];simp) λi hi' j hj=>?_;subst hn;by_cases h : i = idx
 . subst h;refine ZU (beq_of rfl) ?_;refine leC_eq (hg j hj) ?_;unfold QG;rw [List.getD_eq_getElem?_getD,List.getElem?_set_self hi];rfl
 . refine Zd (zAz h) ?_;refine leC_eq (hf i hi' j hj) ?_;unfold QG;rw [List.getD_eq_getElem?_getD,List.getD_eq_getElem?_getD,List.getElem?_set_ne (Ne.symm h)]
structure SmS (a b : List Int) where
 i : Nat
 hi : i <= a.length
 h : a.take i = b.take i
structure Hel where
 num : Int
 data : List Int
 tm : Trk
 til : Int
structure Sed where
 id : Int
 mn : Int
 held : List Hel
structure Cas where
 id : Int
 num : Int
 data : List Int
structure Smy where
 id : Int
 mn : Int
 bits : Int
instance : Inhabited Hel:=⟨⟨0,[],YL,0⟩⟩
instance : Inhabited Sed:=⟨⟨0,0,[]⟩⟩
instance : Inhabited Cas:=⟨⟨0,0,[]⟩⟩
instance : Inhabited Smy:=⟨⟨0,0,0⟩⟩
def eSmC (x : Smy) (j : Nat) : CV:=bif Nat.beq j 0 then .int .u64 x.id else bif Nat.beq j 1 then .int .i64 x.mn else (.int .u32 x.bits)
def zu : Elem Smy where
 sz:=3
 cell:=eSmC
 rd g:=⟨Ya (g 0),Ya (g 1),Ya (g 2)⟩
 ok g:=isK .u64 (g 0) && isK .i64 (g 1) && isK .u32 (g 2)
 ok_eq g h j hj:=by
  simp only [Bool.and_eq_true] at h;unfold eSmC;by_cases c0 : j < 1
  . have e : j = 0:=by omega
    subst e;exact Qc h.1.1
  by_cases c1 : j < 2
  . have e : j = 1:=by omega
    subst e;exact Qc h.1.2
  by_cases c2 : j < 3
  . have e : j = 2:=by omega
    subst e;exact Qc h.2
  omega
 flat a j:=by
  unfold eSmC;cases Nat.beq j 0 with
  | true=>exact Qz
  | false=>
  cases Nat.beq j 1 with
  | true=>exact Qz
  | false=>
  exact Qz
theorem zAV : 0 < zu.sz:=by decide
theorem eSm_rd (x : Smy) : zu.rd (zu.cell x) = x:=by
 show (⟨x.id,x.mn,x.bits⟩ : Smy) = x;rfl
theorem sh_tk (t : Trk) : ∀ j,j < 8 -> ShC (eTk.cell t j):=λj hj=>by
 iterate 8 (rcases j with _ | j;· first | exact .int _ _ | exact .bool _)
 exact absurd hj (by omega)
theorem sh_b (l : List Int) : ShC (slR eB l):=shC_flat (λ_ _ _=>.int _ _) l
def zBz : CV -> List Int
 | .sl _ n _ f=>toL eB n f
 | _=>[]
def okD : CV -> Prop
 | .sl true n s f=>s = 1 /\ ∀ i,i < n -> eB.ok (f i) = true
 | .nils=>True
 | _=>False
theorem okD_rel {x : CV} (h : okD x) {r : QK} {X W : Nat -> Prop} {w : World} {v : Value} (hx : x.rel r X W w v) : (slR eB (zBz x)).rel r X W w v:=by
 unfold okD at h;split at h
 . rename_i n s f;obtain ⟨rfl,hk⟩:=h;show (CV.sl true (toL eB n f).length 1 (QG eB (toL eB n f))).rel r X W w v;rw [zDI];obtain ⟨a,cap,rfl,h1,h2⟩:=hx;refine ⟨a,cap,rfl,h1,λh0=>?_⟩;obtain ⟨ad,rfl,hs,ho,hX,hlt,hc⟩:=h2 h0;refine ⟨ad,rfl,hs,ho,hX,hlt,λi hi j hj=>?_⟩;obtain ⟨u,hu,hr⟩:=hc i hi j hj;refine ⟨u,hu,?_⟩;have key : QG eB (toL eB n f) i j = f i j:=by
    unfold QG;rw [zEk hi];exact (eB.ok_eq _ (hk i hi) j hj).symm
   rw [key];exact hr
 . have : v = .slice none 0 0:=hx;subst this;exact ⟨none,0,rfl,Nat.le_refl _,λh=>absurd h (Nat.lt_irrefl _)⟩
 . exact h.elim
theorem zD7 (l : List Int) : zBz (slR eB l) = l:=toL_b l
theorem ZG (l : List Int) : okD (slR eB l):=⟨rfl,λ_ _=>rfl⟩
def helC (h : Hel) (j : Nat) : CV:=bif Nat.beq j 0 then .int .i64 h.num else bif Nat.beq j 1 then slR eB h.data else bif Nat.blt j 10 then eTk.cell h.tm (j - 2) else .int .i64 h.til
structure OkH (g : Nat -> CV) : Prop where
 a : (isK .i64 (g 0) && eTk.ok (λq=>g (2 + q)) && isK .i64 (g 10)) = true
 b : okD (g 1)
def zm : NElem Hel where
 sz:=11
 cell:=helC
 rd g:=⟨Ya (g 0),zBz (g 1),eTk.rd λq=>g (2 + q),Ya (g 10)⟩
 ok:=OkH
 ok_rel g h j hj r X W w v hv:=by
  obtain ⟨h1,h2⟩:=h;simp only [Bool.and_eq_true] at h1;rcases j with _ | _ | j
  . rw [Qc h1.1.1] at hv;exact hv
  . exact okD_rel h2 hv
  . by_cases h8 : j < 8
    . have e:=eTk.ok_eq _ h1.1.2 j h8;have e2 : helC ⟨Ya (g 0),zBz (g 1),eTk.rd λq=>g (2 + q),Ya (g 10)⟩ (j + 1 + 1) = eTk.cell (eTk.rd λq=>g (2 + q)) j:=by
       unfold helC;rw [show Nat.beq (j + 1 + 1) 0 = false from rfl,show Nat.beq (j + 1 + 1) 1 = false from rfl,blt_lt (by omega : j + 1 + 1 < 10)];rfl
      show (helC _ (j + 1 + 1)).rel r X W w v;rw [e2];rw [show j + 1 + 1 = 2 + j by omega] at hv;have e3 : g (2 + j) = eTk.cell (eTk.rd λq=>g (2 + q)) j:=e;rw [e3] at hv;exact eTk.flat _ _ _ _ _ _ _ _ _ _ _ hv
    . have : j = 8:=by omega
      subst this;rw [show (8 + 1 + 1) = 10 from rfl,Qc h1.2] at hv;exact hv
 sh h j hj:=by
  rcases j with _ | _ | j
  . exact .int _ _
  . exact sh_b _
  . by_cases h8 : j < 8
    . unfold helC;rw [show Nat.beq (j + 1 + 1) 0 = false from rfl,show Nat.beq (j + 1 + 1) 1 = false from rfl,blt_lt (by omega : j + 1 + 1 < 10)];exact sh_tk h.tm j h8
    . have : j = 8:=by omega
      subst this;exact .int _ _
theorem zAy : 0 < zm.sz:=by decide
theorem zd (h : Hel) : zm.rd (zm.cell h) = h:=by
 show (⟨h.num,zBz (slR eB h.data),h.tm,h.til⟩ : Hel) = h;rw [zD7]
theorem neH_ok (h : Hel) : zm.ok (zm.cell h):=⟨rfl,ZG _⟩
def zDU : CV -> List Hel
 | .sl _ n _ f=>Ys zm n f
 | _=>[]
def okHs : CV -> Prop
 | .sl true n s f=>s = 11 /\ ∀ i,i < n -> zm.ok (f i)
 | .nils=>True
 | _=>False
theorem zD8 (l : List Hel) : zDU (slN zm l) = l:=zr zd l
theorem Zy (l : List Hel) : okHs (slN zm l):=⟨rfl,λ_ _=>neH_ok _⟩
theorem okHs_rel {x : CV} (h : okHs x) {r : QK} {X W : Nat -> Prop} {w : World} {v : Value} (hx : x.rel r X W w v) : (slN zm (zDU x)).rel r X W w v:=by
 unfold okHs at h;split at h
 . obtain ⟨rfl,hk⟩:=h;exact sl_toN (E:=zm) hk hx
 . have : v = .slice none 0 0:=hx;subst this;exact ⟨none,0,rfl,Nat.le_refl _,λh=>absurd h (Nat.lt_irrefl _)⟩
 . exact h.elim
def sedC (s : Sed) (j : Nat) : CV:=bif Nat.beq j 0 then .int .u64 s.id else bif Nat.beq j 1 then .int .i64 s.mn else slN zm s.held
structure OkS (g : Nat -> CV) : Prop where
 a : (isK .u64 (g 0) && isK .i64 (g 1)) = true
 b : okHs (g 2)
def ZB : NElem Sed where
 sz:=3
 cell:=sedC
 rd g:=⟨Ya (g 0),Ya (g 1),zDU (g 2)⟩
 ok:=OkS
 ok_rel g h j hj r X W w v hv:=by
  obtain ⟨h1,h2⟩:=h;simp only [Bool.and_eq_true] at h1;rcases j with _ | _ | _ | j
  . rw [Qc h1.1] at hv;exact hv
  . rw [show (0 + 1) = 1 from rfl,Qc h1.2] at hv;exact hv
  . exact okHs_rel h2 hv
  . exact absurd hj (by omega)
 sh s j hj:=by
  rcases j with _ | _ | _ | j
  . exact .int _ _
  . exact .int _ _
  . exact qK _
  . exact absurd hj (by omega)
theorem qA : 0 < ZB.sz:=by decide
theorem ZL (s : Sed) : ZB.rd (ZB.cell s) = s:=by
 show (⟨s.id,s.mn,zDU (slN zm s.held)⟩ : Sed) = s;rw [zD8]
def casC (s : Cas) (j : Nat) : CV:=bif Nat.beq j 0 then .int .u64 s.id else bif Nat.beq j 1 then .int .i64 s.num else slR eB s.data
structure OkC (g : Nat -> CV) : Prop where
 a : (isK .u64 (g 0) && isK .i64 (g 1)) = true
 b : okD (g 2)
def qo : NElem Cas where
 sz:=3
 cell:=casC
 rd g:=⟨Ya (g 0),Ya (g 1),zBz (g 2)⟩
 ok:=OkC
 ok_rel g h j hj r X W w v hv:=by
  obtain ⟨h1,h2⟩:=h;simp only [Bool.and_eq_true] at h1;rcases j with _ | _ | _ | j
  . rw [Qc h1.1] at hv;exact hv
  . rw [show (0 + 1) = 1 from rfl,Qc h1.2] at hv;exact hv
  . exact okD_rel h2 hv
  . exact absurd hj (by omega)
 sh s j hj:=by
  rcases j with _ | _ | _ | j
  . exact .int _ _
  . exact .int _ _
  . exact sh_b _
  . exact absurd hj (by omega)
theorem zEi (s : Cas) : qo.rd (qo.cell s) = s:=by
 show (⟨s.id,s.num,zBz (slR eB s.data)⟩ : Cas) = s;rw [zD7]
def ZY (mn : Int) : Int -> List Hel -> Bool
 | _,[]=>true
 | last,h :: t=>decide (last < h.num) && decide (h.num < mn + 32) && decide (h.num < 1073741824) && decide (h.data.length <= 64) && ZN h.tm && ZD h.til && ZY mn h.num t
def qb (s : Sed) : Bool:=decide (0 <= s.mn) && decide (s.mn <= 1073741824) && decide (s.held.length <= 32) && ZY s.mn (s.mn - 1) s.held
def qE : Int -> List Sed -> Bool
 | _,[]=>true
 | last,s :: t=>decide (last < s.id) && qb s && qE s.id t
def ZA (l : List Sed) : Bool:=decide (l.length <= 8) && qE 0 l
structure HelR (h : Hel) : Prop where
 b : BL h.data
 n : h.data.length <= 9223372036854775807
structure SedR (s : Sed) : Prop where
 id : 0 <= s.id /\ s.id < 18446744073709551616
 h : ∀ x ∈ s.held,HelR x
 n : s.held.length <= 9223372036854775807
theorem zCZ (c : Int) : Ze Try.prog 32 [(cI .i64).enc c] (cB.enc (ZD c)):=by
 refine zt (wd:=1) (by decide) zN (zb qC) zP Try.func32 rfl _ (by show 1 <= _;decide) _ ?_;repeat' (first | (apply And.intro<;>intro hc<;>(first | exact Bool.noConfusion hc | (simp only [zb0] at hc) | skip)) | (refine And.intro zp0 ?_) | (apply And.intro) | (intro s hs))
 all_goals (refine Done.mk (zG ?_);simp_all [ZD];try omega)
def LMc0 : CsL:=(32,some zC5) :: (58,some zCo) :: []
theorem zEj : qV Try.prog LMc0:=⟨zx ⟨_,Try.func32,rfl,by kernel_rfl⟩ λa _=>zCZ a.1,zx ⟨_,Try.func58,rfl,by kernel_rfl⟩ λa _=>valid_ok a.1,trivial⟩
theorem vh_step {mn last : Int} {L : List Hel} {i : Nat} {V : Bool} (hi : i < L.length) (hV : ZY mn last (L.drop i) = V) : V = (decide (last < (L.getD i default).num) && decide ((L.getD i default).num < mn + 32) && decide ((L.getD i default).num < 1073741824) && decide ((L.getD i default).data.length <= 64) && ZN (L.getD i default).tm && ZD (L.getD i default).til && ZY mn (L.getD i default).num (L.drop (i + 1))):=by
 rw [<- hV,qL hi];rfl
theorem vseed_ok (s : Sed) (hn : s.held.length <= 9223372036854775807) : Ze Try.prog 55 [(cN ZB).enc s] (cB.enc (qb s)):=by
 obtain ⟨id,mn,L⟩:=s;dsimp only at hn;unfold qb;dsimp only;obtain ⟨V,hV⟩ : ∃ V,ZY mn (mn - 1) L = V:=⟨_,rfl⟩;rw [hV];refine zt (wd:=1) (by decide) zN (zb zEj) zP Try.func55 rfl _ (by show 1 <= _;decide) _ ?_;have f1 : mn < 0 -> (decide (0 <= mn) && decide (mn <= 1073741824) && decide (L.length <= 32) && V) = false:=λh=>by rw [decide_eq_false (p:=0 <= mn) (by omega)];rfl
 have f2 : 1073741824 < mn -> (decide (0 <= mn) && decide (mn <= 1073741824) && decide (L.length <= 32) && V) = false:=λh=>by rw [decide_eq_false (p:=mn <= 1073741824) (by omega),Bool.and_false];rfl
 have f3 : 32 < L.length -> (decide (0 <= mn) && decide (mn <= 1073741824) && decide (L.length <= 32) && V) = false:=λh=>by rw [decide_eq_false (p:=L.length <= 32) (by omega),Bool.and_false];rfl
 have f4 : 0 <= mn -> mn <= 1073741824 -> L.length <= 32 -> (decide (0 <= mn) && decide (mn <= 1073741824) && decide (L.length <= 32) && V) = V:=λh1 h2 h3=>by rw [decide_eq_true (p:=0 <= mn) h1,decide_eq_true (p:=mn <= 1073741824) h2,decide_eq_true (p:=L.length <= 32) h3];rfl
 obtain ⟨R,hR⟩ : ∃ R,(decide (0 <= mn) && decide (mn <= 1073741824) && decide (L.length <= 32) && V) = R:=⟨_,rfl⟩;rw [hR] at f1 f2 f3 f4 ⊢;clear hR;repeat' (first | (apply And.intro<;>intro hc<;>(first | exact Bool.noConfusion hc | (exfalso;first | exact absurd rfl hc | omega) | (simp only [zl] at hc<;>first | exact absurd rfl hc | (exfalso;first | exact absurd rfl hc | omega) | skip) | skip)) | (refine And.intro zj ?_) | (apply And.intro) | (intro s hs;skip))
 . exact Done.mk (zG (f1 ‹_›).symm)
 . exact Done.mk (zG (f2 ‹_›).symm)
 . exact Done.mk (zG (f3 (by omega)).symm)
 have hm0 : 0 <= mn:=by omega
 have hm1 : mn <= 1073741824:=by omega
 have hl32 : L.length <= 32:=by omega
 rw [f4 hm0 hm1 hl32];clear f1 f2 f3 f4;have w1 : IntKind.i64.wrap (mn - 1) = mn - 1:=IntWalk.i64_in _ (by omega);have w2 : IntKind.i64.wrap (mn + 32) = mn + 32:=IntWalk.i64_in _ (by omega);conv=>whnf
 refine zU (zV zEj) (λs : {p : Nat × Int // p.1 <= L.length /\ ZY mn p.2 (L.drop p.1) = V}=>(⟨[(1,zL (.ptr 0 0 0 false)),(3,zL (.int .i64 s.1.2)),(24,zL (slN zm L)),(25,zL (.int .i64 (L.length : Int))),(26,zL (.int .i64 (s.1.1 : Int)))],[(0,some ⟨78,1,3,true,λ_=>sedC ⟨id,mn,L⟩⟩)],1⟩ : Hd)) (λs=>L.length - s.1.1) (λ_=>rfl) ?_ ⟨(0,mn - 1),Nat.zero_le _,hV⟩ [] ⟨rfl,⟨zF rfl,zB w1,zD (qK L).le,zB rfl,zB rfl,trivial⟩,⟨rfl,zE λj hj=>(ZB.sh _ j hj).le⟩,trivial⟩;rintro ⟨⟨i,last⟩,hi,hVi⟩;dsimp only at hi hVi ⊢;by_cases hil : i < L.length
 . have hst:=vh_step hil hVi;have w3 : IntKind.i64.wrap ((i : Int) + 1) = ((i + 1 : Nat) : Int):=(IntWalk.i64_in _ (by omega)).trans (by omega);have n1 : ¬ last < (L.getD ((i : Int).toNat) default).num -> false = V:=λg=>by rw [hst,decide_eq_false (p:=last < (L.getD i default).num) g];simp
   have n2 : ¬ (L.getD ((i : Int).toNat) default).num < mn + 32 -> false = V:=λg=>by rw [hst,decide_eq_false (p:=(L.getD i default).num < mn + 32) g];simp
   have n3 : ¬ (L.getD ((i : Int).toNat) default).num < 1073741824 -> false = V:=λg=>by rw [hst,decide_eq_false (p:=(L.getD i default).num < 1073741824) g];simp
   have n4 : ¬ (L.getD ((i : Int).toNat) default).data.length <= 64 -> false = V:=λg=>by rw [hst,decide_eq_false (p:=(L.getD i default).data.length <= 64) g];simp
   have n5 : ZN (L.getD ((i : Int).toNat) default).tm = false -> false = V:=λg=>by rw [hst,show ZN (L.getD i default).tm = false from g];simp
   have n6 : ZD (L.getD ((i : Int).toNat) default).til = false -> false = V:=λg=>by rw [hst,show ZD (L.getD i default).til = false from g];simp
   have ny : last < (L.getD ((i : Int).toNat) default).num -> (L.getD ((i : Int).toNat) default).num < mn + 32 -> (L.getD ((i : Int).toNat) default).num < 1073741824 -> (L.getD ((i : Int).toNat) default).data.length <= 64 -> ZN (L.getD ((i : Int).toNat) default).tm = true -> ZD (L.getD ((i : Int).toNat) default).til = true -> ZY mn (L.getD ((i : Int).toNat) default).num (L.drop (i + 1)) = V:=λg1 g2 g3 g4 g5 g6=>by
    rw [hst,decide_eq_true (p:=last < (L.getD i default).num) g1,decide_eq_true (p:=(L.getD i default).num < mn + 32) g2,decide_eq_true (p:=(L.getD i default).num < 1073741824) g3,decide_eq_true (p:=(L.getD i default).data.length <= 64) g4,show ZN (L.getD i default).tm = true from g5,show ZD (L.getD i default).til = true from g6];simp
   clear hst;repeat' (first | (simp only [w2]) | (apply And.intro<;>intro hc<;>(first | exact Bool.noConfusion hc | (exfalso;first | exact absurd rfl hc | omega) | (simp only [zl] at hc<;>first | exact absurd rfl hc | (exfalso;first | exact absurd rfl hc | omega) | skip) | skip)) | (refine And.intro zj ?_) | (apply And.intro) | (intro s hs;skip))
   . exact Done.mk (zG (n1 (by omega)))
   . exact Done.mk (zG (n2 (by omega)))
   . exact Done.mk (zG (n3 (by omega)))
   . exact Done.mk (zG (n4 (by omega)))
   . exact Done.mk (zG (n5 (by rename_i hs _ _;exact hs.symm.trans ‹_›)))
   . exact Done.mk (zG (n6 (hs.symm.trans hc)))
   . rename_i s1 hs1 hc1;refine ⟨⟨(i + 1,(L.getD ((i : Int).toNat) default).num),by dsimp only;omega,ny (by omega) (by omega) (by omega) (by omega) (hs1.symm.trans hc1) (hs.symm.trans hc)⟩,[],by dsimp only;omega,rfl,⟨zF rfl,zB rfl,zD (qK L).le,zB rfl,zB w3,trivial⟩,⟨rfl,zE λj hj=>(ZB.sh _ j hj).le⟩,trivial⟩
 . have hVt : V = true:=by rw [<- hVi,List.drop_of_length_le (by omega)];rfl
   rw [hVt];repeat' (first | (apply And.intro<;>intro hc<;>(first | exact Bool.noConfusion hc | (exfalso;first | exact absurd rfl hc | omega) | (simp only [zl] at hc<;>first | exact absurd rfl hc | (exfalso;first | exact absurd rfl hc | omega) | skip) | skip)) | (refine And.intro zj ?_) | (apply And.intro) | (intro s hs;skip))
   exact Done.mk (zG rfl)
abbrev vseedE : Zk:=qr (AC.cons (cN ZB) AC.nil) (λa=>a.1.held.length <= 9223372036854775807) (λa=>qb a.1) cB.enc
def ZT {α : Type} [Inhabited α] (E : NElem α) (l : List α) : CV:=.sl false l.length E.sz (zo E l)
theorem zI {α : Type} [Inhabited α] {E : NElem α} (l : List α) : Cl (ZT E l):=cl_sl λi _ j hj=>λc _=>(E.sh _ j hj).le
theorem vs_step {last : Int} {L : List Sed} {i : Nat} {V : Bool} (hi : i < L.length) (hV : qE last (L.drop i) = V) : V = (decide (last < (L.getD i default).id) && qb (L.getD i default) && qE (L.getD i default).id (L.drop (i + 1))):=by
 rw [<- hV,qL hi];rfl
theorem QV {α : Type} [Inhabited α] {L : List α} {i : Nat} (h : i < L.length) : L.getD i default ∈ L:=by
 rw [List.getD_eq_getElem?_getD,List.getElem?_eq_getElem h];exact List.getElem_mem h
def LMc1 : CsL:=(55,some vseedE) :: LMc0
theorem LMc1_ok : qV Try.prog LMc1:=⟨zx ⟨_,Try.func55,rfl,by kernel_rfl⟩ λa h=>vseed_ok a.1 h,zEj⟩
structure LHn (L : List Sed) : Prop where
 h : ∀ x ∈ L,x.held.length <= 9223372036854775807
 n : L.length <= 9223372036854775807
theorem rd_eqS {s : Bool} {M m : Sed} (hs : s = qb M) (h : M = m) : s = qb m:=by rw [hs,h]
theorem zCY (L : List Sed) (hL : LHn L) : Ze Try.prog 31 [(cNS ZB qA).enc L] (cB.enc (ZA L)):=by
 have hn:=hL.n;unfold ZA;obtain ⟨V,hV⟩ : ∃ V,qE 0 L = V:=⟨_,rfl⟩;rw [hV];refine zt (wd:=1) (by decide) zN (zb LMc1_ok) zP Try.func31 rfl _ (by show 1 <= _;decide) _ ?_;repeat' (first | (apply And.intro<;>intro hc<;>(first | exact Bool.noConfusion hc | (exfalso;first | exact absurd rfl hc | omega) | (simp only [zl] at hc<;>first | exact absurd rfl hc | (exfalso;first | exact absurd rfl hc | omega) | skip) | skip)) | (refine And.intro zj ?_) | (apply And.intro) | (intro s hs;skip))
 . refine Done.mk (zG ?_);rw [decide_eq_false (p:=L.length <= 8) (by omega)];rfl
 have hl8 : L.length <= 8:=by omega
 rw [decide_eq_true (p:=L.length <= 8) hl8,Bool.true_and];conv=>whnf
 refine zU (zV LMc1_ok) (λs : {p : Nat × Int // p.1 <= L.length /\ qE p.2 (L.drop p.1) = V}=>(⟨[(3,zL (.int .u64 s.1.2)),(9,zL (ZT ZB L)),(10,zL (.int .i64 (L.length : Int))),(11,zL (.int .i64 (s.1.1 : Int)))],[],1⟩ : Hd)) (λs=>L.length - s.1.1) (λ_=>rfl) ?_ ⟨(0,0),Nat.zero_le _,hV⟩ [] ⟨rfl,⟨zB rfl,zD (zJ (zI L)),zB rfl,zB rfl,trivial⟩,trivial⟩;rintro ⟨⟨i,last⟩,hi,hVi⟩;dsimp only at hi hVi ⊢;unfold ZT;by_cases hil : i < L.length
 . have hst:=vs_step hil hVi;have w3 : IntKind.i64.wrap ((i : Int) + 1) = ((i + 1 : Nat) : Int):=(IntWalk.i64_in _ (by omega)).trans (by omega);have hh:=hL.h _ (QV hil);have n1 : ¬ last < (L.getD ((i : Int).toNat) default).id -> false = V:=λg=>by rw [hst,decide_eq_false (p:=last < (L.getD i default).id) g];simp
   have n2 : qb (L.getD ((i : Int).toNat) default) = false -> false = V:=λg=>by rw [hst,show qb (L.getD i default) = false from g];simp
   have ny : last < (L.getD ((i : Int).toNat) default).id -> qb (L.getD ((i : Int).toNat) default) = true -> qE (L.getD ((i : Int).toNat) default).id (L.drop (i + 1)) = V:=λg1 g2=>by
    rw [hst,decide_eq_true (p:=last < (L.getD i default).id) g1,show qb (L.getD i default) = true from g2];simp
   clear hst;repeat' (first | (apply And.intro<;>intro hc<;>(first | exact Bool.noConfusion hc | (exfalso;first | exact absurd rfl hc | omega) | (simp only [zl] at hc<;>first | exact absurd rfl hc | (exfalso;first | exact absurd rfl hc | omega) | skip) | skip)) | (refine And.intro zj ?_) | (apply And.intro) | (intro s hs;(have q:=rd_eqS (m:=L.getD ((i : Int).toNat) default) hs (ZL _);clear hs)))
   . exact Done.mk (zG (n1 (by omega)))
   . exact ⟨rfl,Zy _⟩
   . exact Eq.mpr (congrArg (λz : Sed=>z.held.length <= 9223372036854775807) (ZL _)) hh
   . exact Done.mk (zG (n2 (q.symm.trans ‹_›)))
   . refine ⟨⟨(i + 1,(L.getD ((i : Int).toNat) default).id),by dsimp only;omega,ny (by omega) (q.symm.trans ‹_›)⟩,[],by dsimp only;omega,rfl,⟨zB rfl,zD (zJ (zI L)),zB rfl,zB w3,trivial⟩,trivial⟩
 . have hVt : V = true:=by rw [<- hVi,List.drop_of_length_le (by omega)];rfl
   rw [hVt];repeat' (first | (apply And.intro<;>intro hc<;>(first | exact Bool.noConfusion hc | (exfalso;first | exact absurd rfl hc | omega) | (simp only [zl] at hc<;>first | exact absurd rfl hc | (exfalso;first | exact absurd rfl hc | omega) | skip) | skip)) | (refine And.intro zj ?_) | (apply And.intro) | (intro s hs;skip))
   exact Done.mk (zG rfl)
abbrev zEh : Zk:=qr (AC.cons (cNS ZB qA) AC.nil) (λa=>LHn a.1) (λa=>ZA a.1) cB.enc
def Zf (id : Int) : List Sed -> Nat -> Nat × Bool
 | [],k=>(k,false)
 | s :: t,k=>if id <= s.id then (k,decide (s.id = id)) else Zf id t (k + 1)
def ZM (num : Int) : List Hel -> Nat -> Nat × Bool
 | [],k=>(k,false)
 | h :: t,k=>if num <= h.num then (k,decide (h.num = num)) else ZM num t (k + 1)
def encNB (r : Nat × Bool) : FV:=.tup [.c (.int .i64 (r.1 : Int)),.c (.bool r.2)]
theorem zDH {H : Hp} {a : Int} {b : Bool} {R : Nat × Bool} (h1 : a = (R.1 : Int)) (h2 : b = R.2) : Done H (.tup [.c (.int .i64 a),.c (.bool b)]) (encNB R):=Done.mk (ZZ ⟨zC h1,zW h2,trivial⟩)
theorem zFH (L : List Sed) (id : Int) (hn : L.length <= 9223372036854775807) : Ze Try.prog 33 [(cNS ZB qA).enc L,(cI .u64).enc id] (encNB (Zf id L 0)):=by
 obtain ⟨R,hR⟩ : ∃ R,Zf id L 0 = R:=⟨_,rfl⟩;rw [hR];refine zt (wd:=1) (by decide) zN (zb qC) zP Try.func33 rfl _ (by show 2 <= _;decide) _ ?_;repeat' (first | (apply And.intro<;>intro hc<;>(first | exact Bool.noConfusion hc | (exfalso;first | exact absurd rfl hc | omega) | (simp only [zl] at hc<;>first | exact absurd rfl hc | (exfalso;first | exact absurd rfl hc | omega) | skip) | skip)) | (refine And.intro zj ?_) | (apply And.intro) | (intro s hs;skip))
 conv=>whnf
 refine zU (zV qC) (λs : {i : Nat // i <= L.length /\ Zf id (L.drop i) i = R}=>(⟨[(0,zL (ZT ZB L)),(1,zL (.int .u64 id)),(8,zL (ZT ZB L)),(9,zL (.int .i64 (L.length : Int))),(10,zL (.int .i64 (s.1 : Int)))],[],1⟩ : Hd)) (λs=>L.length - s.1) (λ_=>rfl) ?_ ⟨0,Nat.zero_le _,hR⟩ [] ⟨rfl,⟨zD (zJ (zI L)),zB rfl,zD (zJ (zI L)),zB rfl,zB rfl,trivial⟩,trivial⟩;rintro ⟨i,hi,hV⟩;dsimp only at hi hV ⊢;unfold ZT;by_cases hil : i < L.length
 . have w3 : IntKind.i64.wrap ((i : Int) + 1) = ((i + 1 : Nat) : Int):=(IntWalk.i64_in _ (by omega)).trans (by omega);rw [qL hil] at hV;have ny : id <= (L.getD ((i : Int).toNat) default).id -> R = (i,decide ((L.getD ((i : Int).toNat) default).id = id)):=λg=>by rw [<- hV];exact if_pos g
   have nn : ¬ id <= (L.getD ((i : Int).toNat) default).id -> Zf id (L.drop (i + 1)) (i + 1) = R:=λg=>by rw [<- hV];exact (if_neg g).symm
   clear hV;repeat' (first | (apply And.intro<;>intro hc<;>(first | exact Bool.noConfusion hc | (exfalso;first | exact absurd rfl hc | omega) | (simp only [zl] at hc<;>first | exact absurd rfl hc | (exfalso;first | exact absurd rfl hc | omega) | skip) | skip)) | (refine And.intro zj ?_) | (apply And.intro) | (intro s hs;skip))
   . rw [ny (by omega)];exact zDH rfl rfl
   . refine ⟨⟨i + 1,by omega,nn (by omega)⟩,[],by dsimp only;omega,rfl,⟨zD (zJ (zI L)),zB rfl,zD (zJ (zI L)),zB rfl,zB w3,trivial⟩,trivial⟩
 . have hi2 : i = L.length:=by omega
   rw [List.drop_of_length_le (by omega)] at hV;have hV : (i,false) = R:=hV;rw [<- hV];repeat' (first | (apply And.intro<;>intro hc<;>(first | exact Bool.noConfusion hc | (exfalso;first | exact absurd rfl hc | omega) | (simp only [zl] at hc<;>first | exact absurd rfl hc | (exfalso;first | exact absurd rfl hc | omega) | skip) | skip)) | (refine And.intro zj ?_) | (apply And.intro) | (intro s hs;skip))
   exact zDH (by rw [hi2]) rfl
abbrev mfindE : Zk:=qr (AC.cons (cNS ZB qA) (AC.cons (cI .u64) AC.nil)) (λa=>a.1.length <= 9223372036854775807) (λa=>Zf a.2.1 a.1 0) encNB
theorem zD6 (L : List Hel) (id : Int) (hn : L.length <= 9223372036854775807) : Ze Try.prog 35 [(cNS zm zAy).enc L,(cI .i64).enc id] (encNB (ZM id L 0)):=by
 obtain ⟨R,hR⟩ : ∃ R,ZM id L 0 = R:=⟨_,rfl⟩;rw [hR];refine zt (wd:=1) (by decide) zN (zb qC) zP Try.func35 rfl _ (by show 2 <= _;decide) _ ?_;repeat' (first | (apply And.intro<;>intro hc<;>(first | exact Bool.noConfusion hc | (exfalso;first | exact absurd rfl hc | omega) | (simp only [zl] at hc<;>first | exact absurd rfl hc | (exfalso;first | exact absurd rfl hc | omega) | skip) | skip)) | (refine And.intro zj ?_) | (apply And.intro) | (intro s hs;skip))
 conv=>whnf
 refine zU (zV qC) (λs : {i : Nat // i <= L.length /\ ZM id (L.drop i) i = R}=>(⟨[(0,zL (ZT zm L)),(1,zL (.int .i64 id)),(8,zL (ZT zm L)),(9,zL (.int .i64 (L.length : Int))),(10,zL (.int .i64 (s.1 : Int)))],[],1⟩ : Hd)) (λs=>L.length - s.1) (λ_=>rfl) ?_ ⟨0,Nat.zero_le _,hR⟩ [] ⟨rfl,⟨zD (zJ (zI L)),zB rfl,zD (zJ (zI L)),zB rfl,zB rfl,trivial⟩,trivial⟩;rintro ⟨i,hi,hV⟩;dsimp only at hi hV ⊢;unfold ZT;by_cases hil : i < L.length
 . have w3 : IntKind.i64.wrap ((i : Int) + 1) = ((i + 1 : Nat) : Int):=(IntWalk.i64_in _ (by omega)).trans (by omega);rw [qL hil] at hV;have ny : id <= (L.getD ((i : Int).toNat) default).num -> R = (i,decide ((L.getD ((i : Int).toNat) default).num = id)):=λg=>by rw [<- hV];exact if_pos g
   have nn : ¬ id <= (L.getD ((i : Int).toNat) default).num -> ZM id (L.drop (i + 1)) (i + 1) = R:=λg=>by rw [<- hV];exact (if_neg g).symm
   clear hV;repeat' (first | (apply And.intro<;>intro hc<;>(first | exact Bool.noConfusion hc | (exfalso;first | exact absurd rfl hc | omega) | (simp only [zl] at hc<;>first | exact absurd rfl hc | (exfalso;first | exact absurd rfl hc | omega) | skip) | skip)) | (refine And.intro zj ?_) | (apply And.intro) | (intro s hs;skip))
   . rw [ny (by omega)];exact zDH rfl rfl
   . refine ⟨⟨i + 1,by omega,nn (by omega)⟩,[],by dsimp only;omega,rfl,⟨zD (zJ (zI L)),zB rfl,zD (zJ (zI L)),zB rfl,zB w3,trivial⟩,trivial⟩
 . have hi2 : i = L.length:=by omega
   rw [List.drop_of_length_le (by omega)] at hV;have hV : (i,false) = R:=hV;rw [<- hV];repeat' (first | (apply And.intro<;>intro hc<;>(first | exact Bool.noConfusion hc | (exfalso;first | exact absurd rfl hc | omega) | (simp only [zl] at hc<;>first | exact absurd rfl hc | (exfalso;first | exact absurd rfl hc | omega) | skip) | skip)) | (refine And.intro zj ?_) | (apply And.intro) | (intro s hs;skip))
   exact zDH (by rw [hi2]) rfl
abbrev mplaceE : Zk:=qr (AC.cons (cNS zm zAy) (AC.cons (cI .i64) AC.nil)) (λa=>a.1.length <= 9223372036854775807) (λa=>ZM a.2.1 a.1 0) encNB
theorem zD5 {c : Wc} {t : TypeId} {α : Type} [Inhabited α] {E : NElem α} {L : List α} {x : α} {n : Nat} {f : Nat -> Nat -> CV} (hn : n = L.length + 1) (h1 : ∀ i,i < L.length -> ∀ j,j < E.sz -> Zu c (f i j) (zo E L i j)) (h2 : ∀ j,j < E.sz -> Zu c (f L.length j) (E.cell x j)) :
 LeN c ⟨t,n,E.sz,false,f⟩ (Zj E t (L ++ [x])):=by
 refine ⟨rfl,by simp [Zj,hn],rfl,rfl,λi hi j hj=>?_⟩;have hi' : i < n:=hi;show Zu c (f i j) (E.cell ((L ++ [x]).getD i default) j);by_cases h : i < L.length
 . have : (L ++ [x]).getD i default = L.getD i default:=by
    simp [List.getD_eq_getElem?_getD,List.getElem?_append_left h]
   rw [this];exact h1 i h j hj
 . have hi2 : i = L.length:=by omega
   subst hi2;have : (L ++ [x]).getD L.length default = x:=by simp [List.getD_eq_getElem?_getD]
   rw [this];exact h2 j hj
theorem zA {c : Wc} {t : TypeId} {α : Type} [Inhabited α] {E : NElem α} {L : List α} : LeN c (Zj E t L) (Zj E t L):=⟨rfl,rfl,rfl,rfl,λ_ _ j hj=>(E.sh _ j hj).le⟩
theorem zB4 {α : Type} [Inhabited α] {E : NElem α} (L : List α) {i j : Nat} (hj : j < E.sz) : NF (zo E L i j):=(E.sh _ j hj).nf
def cRp1 : Codec Int where
 enc a:=.e (.c (.rp false 1 λ_=>.int .i64 a))
 dec H x:=match x with
  | .e (.c (.rp _ m g))=>match g 0 with
    | .int .i64 v=>bif Nat.beq m 1 then some (v,none,[]) else none
    | _=>none
  | _=>none
 sound H H' x a p rd h hp hh:=by
  split at h
  . rename_i sh m g;split at h
    . rename_i v hg;obtain ⟨hb,h5⟩:=qZ h;have hb:=Nat.eq_of_beq_eq_true hb;subst hb;injection h5 with h6 h7;injection h7 with h7 h8;subst h6 h7 h8;rintro cx r w u st ⟨ad,rfl,hs,ho,hx,hlt,hq⟩;refine ⟨ad,rfl,hs,λh=>ho (zB5 h),(λh=>by cases h),hlt,λj hj=>?_⟩;obtain ⟨u,hu,hr⟩:=hq j hj;obtain rfl : j = 0:=by omega
      rw [hg] at hr;exact ⟨u,hu,hr⟩
    . cases h
  . cases h
theorem zBg {c : Wc} {f : FuncId} {n m : Nat} {a b : Nat -> CV} (h : ∀ k,k < n + m -> Zu c (a k) (b k)) : Zu c (.fn f n m a) (.fn f n m b):=by
 rintro hl cx r w v st ⟨fs,cs,rfl,h1,h2,h3,h4⟩;refine ⟨fs,cs,rfl,h1,h2,λk u hu=>?_,λk u hu=>?_⟩
 . have:=(Array.getElem?_eq_some_iff.1 hu).1;exact h k (by omega) hl cx r w u st (h3 k u hu)
 . have:=(Array.getElem?_eq_some_iff.1 hu).1;exact h (n + k) (by omega) hl cx r w u st (h4 k u hu)
theorem leC_rp1 {c : Wc} {k : IntKind} {a : Int} (hf : c.fin = false) : Zu c (.rp false 1 λ_=>.int k a) (.rp false 1 λ_=>.int k a):=by
 rintro hl cx r w v st ⟨ad,rfl,hs,ho,hx,hlt,hq⟩;refine ⟨ad,rfl,hs,?_,(λh=>by cases h),hlt,hq⟩;rintro (h | ⟨h,_⟩)
 . exact ho (wr_sub (cx:=cx) hl h)
 . rw [hf] at h;cases h
def cWant : Codec (Option Int) where
 enc a:=match a with
  | none=>.e (.c (.fn 57 0 0 λ_=>.top))
  | some l=>.e (.c (.fn 59 0 1 λ_=>.rp false 1 λ_=>.int .i64 l))
 dec H x:=match x with
  | .e (.c (.fn f n m a))=>
    bif Nat.beq f 57 && Nat.beq n 0 && Nat.beq m 0 then some (none,none,[]) else
    bif Nat.beq f 59 && Nat.beq n 0 && Nat.beq m 1 then
     match a 0 with
     | .ptr k 0 0 _=>match zX H k with
       | some ⟨_,n0,z0,_,f0⟩=>match f0 0 0 with
         | .int .i64 v=>bif Nat.blt 0 n0 && Nat.blt 0 z0 then some (some v,none,[k]) else none
         | _=>none
       | none=>none
     | _=>none
    else none
  | _=>none
 sound H H' x a p rd h hp hh:=by
  split at h
  . rename_i f n m a0;cases hb : (Nat.beq f 57 && Nat.beq n 0 && Nat.beq m 0) with
    | true=>
      rw [hb,cond_true] at h;injection h with h;injection h with h h';injection h' with h' h'';subst h h' h'';simp only [Bool.and_eq_true] at hb;have b1:=Nat.eq_of_beq_eq_true hb.1.1;have b2:=Nat.eq_of_beq_eq_true hb.1.2;have b3:=Nat.eq_of_beq_eq_true hb.2;subst b1 b2 b3;rintro cx r w v st ⟨fs,cs,rfl,h1,h2,h3,h4⟩;refine ⟨fs,cs,rfl,h1,h2,λk u hu=>?_,λk u hu=>?_⟩
      . have:=(Array.getElem?_eq_some_iff.1 hu).1;omega
      . have:=(Array.getElem?_eq_some_iff.1 hu).1;omega
    | false=>
      rw [hb,cond_false] at h;cases hb2 : (Nat.beq f 59 && Nat.beq n 0 && Nat.beq m 1) with
      | false=>rw [hb2] at h;cases h
      | true=>
        rw [hb2,cond_true] at h;simp only [Bool.and_eq_true] at hb2;have b1:=Nat.eq_of_beq_eq_true hb2.1.1;have b2:=Nat.eq_of_beq_eq_true hb2.1.2;have b3:=Nat.eq_of_beq_eq_true hb2.2;subst b1 b2 b3;split at h
        . rename_i k fl ha0;split at h
          . rename_i t0 n0 z0 v0 f0 he0;split at h
            . rename_i l hc0;cases hb3 : (Nat.blt 0 n0 && Nat.blt 0 z0) with
              | false=>rw [hb3] at h;cases h
              | true=>
                rw [hb3,cond_true] at h;injection h with h;injection h with h h';injection h' with h' h'';subst h h' h'';simp only [Bool.and_eq_true] at hb3;have g0 : zX H' k = some ⟨t0,n0,z0,v0,f0⟩:=by rw [<- hh k (by simp)];exact he0
                rintro cx r w v st ⟨fs,cs,rfl,h1,h2,h3,h4⟩;refine ⟨fs,cs,rfl,h1,h2,λq u hu=>?_,λq u hu=>?_⟩
                . have:=(Array.getElem?_eq_some_iff.1 hu).1;omega
                . have hq:=(Array.getElem?_eq_some_iff.1 hu).1;have hr:=h4 q u hu;rw [Nat.zero_add] at hr;obtain rfl : q = 0:=by omega
                  rw [ha0] at hr;obtain ⟨y,hy,rfl⟩:=hr;refine ⟨⟨y.b,0 * y.sz + 0,none⟩,rfl,rfl,?_,(λh=>by cases h),(st.dom k y hy.1).1,λj hj=>?_⟩
                  . rintro ⟨k2,e2,z,q1,q2,q3,q4⟩;have:=st.inj k2 k e2 _ z y q1 g0 q2 hy.1 q3;exact q4 (by rw [this];exact List.mem_singleton.2 rfl)
                  . obtain rfl : j = 0:=by omega
                    obtain ⟨u,hu,hr⟩:=YK st g0 hy (i:=0) (j:=0) (Nat.le_of_ble_eq_true hb3.1) (Nat.le_of_ble_eq_true hb3.2);refine ⟨u,hu,?_⟩;have hr : (f0 0 0).rel r cx.X (wr r H') w u:=hr;rw [hc0] at hr;exact hr
            . cases h
          . cases h
        . cases h
  . cases h
theorem all_ok (h : Hel) : Ze Try.prog 57 [(cN zm).enc h] (cB.enc true):=by
 refine zt (wd:=1) (by decide) zN (zb qC) zP Try.func57 rfl _ (by show 1 <= _;decide) _ ?_;repeat' (first | (apply And.intro<;>intro hc<;>(first | exact Bool.noConfusion hc | (simp only [zb0] at hc) | skip)) | (refine And.intro zp0 ?_) | (apply And.intro) | (intro s hs))
 exact Done.mk (zG rfl)
theorem from_ok (h : Hel) (l : Int) : Ze Try.prog 59 [(cN zm).enc h,cRp1.enc l] (cB.enc (decide (l <= h.num))):=by
 refine zt (wd:=1) (by decide) zN (zb qC) zP Try.func59 rfl _ (by show 2 <= _;decide) _ ?_;repeat' (first | (apply And.intro<;>intro hc<;>(first | exact Bool.noConfusion hc | (exfalso;first | exact absurd rfl hc | omega) | (simp only [zl] at hc<;>first | exact absurd rfl hc | (exfalso;first | exact absurd rfl hc | omega) | skip) | skip)) | (refine And.intro zj ?_) | (apply And.intro) | (intro s hs;skip))
 all_goals first | exact Done.mk (zG rfl) | skip
theorem take_snoc {α : Type} [Inhabited α] {L : List α} {i : Nat} (h : i < L.length) : L.take (i + 1) = L.take i ++ [L.getD i default]:=by
 rw [List.take_add_one,List.getElem?_eq_getElem h,List.getD_eq_getElem?_getD,List.getElem?_eq_getElem h];rfl
def LMk : CsL:=(57,some (qr (AC.cons (cN zm) AC.nil) (λ_=>True) (λ_=>true) cB.enc)) :: (59,some (qr (AC.cons (cN zm) (AC.cons cRp1 AC.nil)) (λ_=>True) (λa=>decide (a.2.1 <= a.1.num)) cB.enc)) :: []
theorem LMk_ok : qV Try.prog LMk:=⟨zx ⟨_,Try.func57,rfl,by kernel_rfl⟩ λa _=>all_ok a.1,zx ⟨_,Try.func59,rfl,by kernel_rfl⟩ λa _=>from_ok a.1 a.2.1,trivial⟩
def qU (W : Option Int) (h : Hel) : Bool:=match W with
 | none=>true
 | some l=>decide (l <= h.num)
structure KpI (L : List Hel) : Prop where
 n : L.length <= 1000
 d : ∀ x ∈ L,x.data.length <= 1000
theorem keep_ok (L : List Hel) (W : Option Int) (hL : KpI L) : zBG Try.prog 56 [(cNS zm zAy).enc L,cWant.enc W] (some (L.filter (qU W)).length) none (Zj zm 85 (L.filter (qU W))):=by
 have hn:=hL.n;refine zBh (wd:=1) (by decide) zN (zb LMk_ok) zP Try.func56 rfl _ (by show 2 <= _;decide) (λi _ j hj=>zB4 _ hj) ?_;repeat' (first | (apply And.intro<;>intro hc<;>(first | exact Bool.noConfusion hc | (exfalso;first | exact absurd rfl hc | omega) | (simp only [zl] at hc<;>first | exact absurd rfl hc | (exfalso;first | exact absurd rfl hc | omega) | skip) | skip)) | (refine And.intro zj ?_) | (apply And.intro) | (intro s hs;skip) | (refine Exists.intro _ (And.intro ⟨rfl,rfl,rfl⟩ ?_)))
 conv=>whnf
 have hfn : ∀ c : Wc,c.fin = false -> LeF c (cWant.enc W) (cWant.enc W):=λc hc=>by
  cases W with
  | none=>exact zD (zBg λk hk=>absurd hk (Nat.not_lt_zero k))
  | some l=>exact zD (zBg λk hk=>leC_rp1 hc)
 refine zU (zV LMk_ok) (λs : {i : Nat // i <= L.length}=>(⟨[(1,cWant.enc W),(5,zL (.os 50 0 ((L.take s.1).filter (qU W)).length)),(8,zL (ZT zm L)),(9,zL (.int .i64 (L.length : Int))),(10,zL (.int .i64 (s.1 : Int)))],[(50,some (Zj zm 85 ((L.take s.1).filter (qU W))))],51⟩ : Hd)) (λs=>L.length - s.1) (λ_=>rfl) ?_ ⟨0,Nat.zero_le _⟩ [(50,none)] ⟨rfl,⟨hfn _ rfl,zD (Zh rfl),zD (zJ (zI L)),zB rfl,zB rfl,trivial⟩,⟨rfl,rfl,rfl,Nat.le_of_ble_eq_true rfl⟩,trivial⟩;rintro ⟨i,hi⟩;dsimp only at hi ⊢;obtain ⟨A,eA'⟩ : ∃ A,(L.take i).filter (qU W) = A:=⟨_,rfl⟩;have hAl : A.length <= i:=by rw [<- eA'];exact Nat.le_trans (List.length_filter_le _ _) (by rw [List.length_take];omega)
 unfold ZT;by_cases hil : i < L.length
 . have w3 : IntKind.i64.wrap ((i : Int) + 1) = ((i + 1 : Nat) : Int):=(IntWalk.i64_in _ (by omega)).trans (by omega);have hd:=hL.d _ (QV hil);have hd2 : (L.getD ((i : Int).toNat) default).data.length <= 1000:=hd;have hst : (L.take (i + 1)).filter (qU W) = if qU W (L.getD i default) = true then A ++ [L.getD i default] else A:=by
    rw [take_snoc hil,List.filter_append,eA'];simp only [List.filter_cons,List.filter_nil];split<;>simp
   rw [eA'];clear eA';rcases W with _ | l
   . have hst' : (L.take (i + 1)).filter (qU none) = A ++ [L.getD i default]:=by rw [hst];exact if_pos rfl
     clear hst;repeat' (first | (apply And.intro<;>intro hc<;>(first | exact Bool.noConfusion hc | (exfalso;first | exact absurd rfl hc | omega) | (simp only [zl] at hc<;>first | exact absurd rfl hc | (exfalso;first | exact absurd rfl hc | omega) | skip) | skip)) | (refine And.intro zj ?_) | (apply And.intro) | (intro s hs;(have q : s = true:=hs;clear hs;subst q)) | (refine Exists.intro _ (And.intro ⟨rfl,rfl,rfl⟩ ?_)))
     . exact ⟨rfl,ZG _⟩
     . refine ⟨⟨i + 1,by omega⟩,[(50,some 67)],by dsimp only;omega,rfl,⟨hfn _ rfl,zD (zH rfl (by rw [hst',List.length_append];rfl)),zD (zJ (zI L)),zB rfl,zB w3,trivial⟩,⟨rfl,?_⟩,trivial⟩;rw [hst'];refine zD5 (x:=L.getD i default) rfl (λi hi j hj=>ZU (Nat.ble_eq_true_of_le hi) (zm.sh _ j hj).le) λj hj=>Zd (Zt _) ?_;rw [Nat.sub_self];have hj : j < 11:=hj;iterate 11 (rcases j with _ | j;· first | exact zC rfl | exact zW rfl | exact ZQ rfl rfl rfl (by first | rfl | exact Nat.zero_add _) (by first | exact Nat.le_refl _ | (simp;done)) λq hq j hj=>YH (E:=eB) (congrArg (λz=>(L.getD i default).data.getD z default) (Nat.zero_add q)))
       exact absurd hj (by omega)
   . repeat' (first | (apply And.intro<;>intro hc<;>(first | exact Bool.noConfusion hc | (exfalso;first | exact absurd rfl hc | omega) | (simp only [zl] at hc<;>first | exact absurd rfl hc | (exfalso;first | exact absurd rfl hc | omega) | skip) | skip)) | (refine And.intro zj ?_) | (apply And.intro) | (intro s hs;(have q : s = decide (l <= (L.getD ((i : Int).toNat) default).num):=hs;clear hs)) | (refine Exists.intro _ (And.intro ⟨rfl,rfl,rfl⟩ ?_)))
     . exact ⟨rfl,ZG _⟩
     . have hst' : (L.take (i + 1)).filter (qU (some l)) = A ++ [L.getD i default]:=by rw [hst];exact if_pos (q.symm.trans ‹_›)
       clear hst;refine ⟨⟨i + 1,by omega⟩,[(50,some 67)],by dsimp only;omega,rfl,⟨hfn _ rfl,zD (zH rfl (by rw [hst',List.length_append];rfl)),zD (zJ (zI L)),zB rfl,zB w3,trivial⟩,⟨rfl,?_⟩,trivial⟩;rw [hst'];refine zD5 (x:=L.getD i default) rfl (λi hi j hj=>ZU (Nat.ble_eq_true_of_le hi) (zm.sh _ j hj).le) λj hj=>Zd (Zt _) ?_;rw [Nat.sub_self];have hj : j < 11:=hj;iterate 11 (rcases j with _ | j;· first | exact zC rfl | exact zW rfl | exact ZQ rfl rfl rfl (by first | rfl | exact Nat.zero_add _) (by first | exact Nat.le_refl _ | (simp;done)) λq hq j hj=>YH (E:=eB) (congrArg (λz=>(L.getD i default).data.getD z default) (Nat.zero_add q)))
       exact absurd hj (by omega)
     . have hst' : (L.take (i + 1)).filter (qU (some l)) = A:=by rw [hst];exact if_neg (λh=>Bool.noConfusion (h.symm.trans (q.symm.trans ‹_›)))
       refine ⟨⟨i + 1,by omega⟩,[],by dsimp only;omega,rfl,⟨hfn _ rfl,zD (zH rfl (by rw [hst'])),zD (zJ (zI L)),zB rfl,zB w3,trivial⟩,⟨rfl,?_⟩,trivial⟩;rw [hst'];exact zA
 . have hi2 : i = L.length:=by omega
   subst hi2;rw [List.take_length] at eA';rw [List.take_length,eA'];repeat' (first | (apply And.intro<;>intro hc<;>(first | exact Bool.noConfusion hc | (exfalso;first | exact absurd rfl hc | omega) | (simp only [zl] at hc<;>first | exact absurd rfl hc | (exfalso;first | exact absurd rfl hc | omega) | skip) | skip)) | (refine And.intro zj ?_) | (apply And.intro) | (intro s hs;skip) | (refine Exists.intro _ (And.intro ⟨rfl,rfl,rfl⟩ ?_)))
   exact ⟨⟨some 50,zD (zH rfl rfl),zA⟩⟩
abbrev keepE : Zk:=newE (AC.cons (cNS zm zAy) (AC.cons cWant AC.nil)) (λa=>KpI a.1) (λa=>a.1.filter (qU a.2.1)) (λs=>some s.length) (λ_=>none) (λs=>Zj zm 85 s)
theorem zDT : EntOk Try.prog 56 keepE:=zA2 ⟨_,Try.func56,rfl,by kernel_rfl⟩ (λs l h=>by cases h) λa h=>keep_ok a.1 a.2.1 h
structure Sem (P : Program) (nt np : Nat) (c : Code) (fr : Fr) (H : Hp) (nx : Nat) (K : Kt) : Prop where
 run : ∀ (cx : Cx) (fx : QK),(∀ k b,cx.pin k = some b -> k < np) -> ∀ a w,Is cx nt np fx fr H nx a w -> c.wp P (lift cx nt np fx K) a w
section
variable {P : Program} {T : YU} {Q : Qs} {wd nt np : Nat}
theorem QB (hwd : 0 < wd) (hT : qP P T) (hQ : zBI P Q) (hm : P.follows .mixedOrders = true) {c : Code} {fr : Fr} {H : Hp} {nx : Nat} {K : Kt} (h : qR T Q wd nt np c fr H nx K) : Sem P nt np c fr H nx K:=
 ⟨λcx fx hpin=>exec_ok hwd hT hQ hm hpin c fr H nx K h⟩
theorem sem_seq {a b : Code} {fr : Fr} {H : Hp} {nx : Nat} {K : Kt} (h : Sem P nt np a fr H nx (Yt (λfr H nx=>Sem P nt np b fr H nx K) K)) : Sem P nt np (.seq a b) fr H nx K:=by
 refine ⟨λcx fx hpin a' w hs=>?_⟩;refine wp_seq (wp_mono (h.run cx fx hpin a' w hs) λe a2 w2 hq=>?_);obtain ⟨fr',H',nx',hk,hs'⟩:=hq;cases e<;>first | exact ⟨fr',H',nx',hk,hs'⟩ | exact hk.run cx fx hpin a2 w2 hs'
theorem sem_to {σ : Type} (S : σ -> Hd) (s : σ) (rho : List (Nat × Option Nat)) {c : Code} {fr : Fr} {H : Hp} {nx : Nat} {K : Kt} (hnp : Nat.ble np (S s).nx = true) (h0 : To S np fr H s rho) (h : Sem P nt np c (S s).fr (S s).H (S s).nx K) : Sem P nt np c fr H nx K:=by
 refine ⟨λcx fx hpin a w hs=>?_⟩;obtain ⟨r,st,hf,hnm,hts,hdf,hnp',hfx⟩:=hs;obtain ⟨g1,g2,g3,g4⟩:=weaken (c:=⟨H,(S s).H,rho,(S s).nx,false⟩) st hf hpin hnp h0.1 rfl h0.2.1 h0.2.2;exact h.run cx fx hpin a w ⟨_,g1,g2,g3,hts,hdf,Nat.le_of_ble_eq_true hnp,λk hk=>(g4 k hk).trans (hfx k hk)⟩
theorem Zb (hwd : 0 < wd) (hT : qP P T) (hQ : zBI P Q) (hM : zCe Q) (hm : P.follows .mixedOrders = true) {a b : Code} {fr : Fr} {H : Hp} {nx : Nat} {K : Kt} {σ : Type} (S : σ -> Hd) (hnp : ∀ s,Nat.ble np (S s).nx = true)
 (h1 : qR T Q wd nt np a fr H nx (Yt (λfr H _=>∃ s rho,To S np fr H s rho) K)) (h2 : ∀ s,Sem P nt np b (S s).fr (S s).H (S s).nx K) : Sem P nt np (.seq a b) fr H nx K:=by
 refine sem_seq (QB hwd hT hQ hm (zBo hM a _ _ (zBn (λfr H nx h=>?_) (λ_ _ _ _ h=>h)) _ _ _ h1));obtain ⟨s,rho,h⟩:=h;exact sem_to S s rho (hnp s) h (h2 s)
theorem zK (hwd : 0 < wd) (hT : qP P T) (hQ : zBI P Q) (hm : P.follows .mixedOrders = true) {a b : Code} {fr : Fr} {H : Hp} {nx : Nat} {K : Kt} (h : qR T Q wd nt np a fr H nx (Yt (λfr H nx=>Sem P nt np b fr H nx K) K)) : Sem P nt np (.seq a b) fr H nx K:=sem_seq (QB hwd hT hQ hm h)
theorem fn_runS {cx : Cx} {f : FuncId} (hT : qP P T) {fn : Func} {c : Code} (hf : P.funcs[f]? = some fn) (hb : fn.body = some c) {args : List FV} (hn : args.length <= fn.ntmps) {H0 : Hp} {post : FV -> Hp -> Nat -> Prop}
 (h : Sem P fn.ntmps np c (Yn args 0) H0 np (qQ T fn.results.toList post)) (hpin : ∀ k b,cx.pin k = some b -> k < np) {r : QK} {w : World} {vals : Array Value} (st : St cx r H0 w) (hrel : zAe r cx.X (wr r H0) w args vals) (hnm : ∀ k,np <= k -> r k = none /\ zX H0 k = none) :
 Calls P f vals w λe w'=>∃ v r' x Hf nf,e = .returned v /\ post x Hf nf /\ St cx r' Hf w' /\ (∀ k,nf <= k -> r' k = none /\ zX Hf k = none) /\ x.rel r' cx.X (wr r' Hf) w' v /\ ∀ k,k < np -> r' k = r k:=by
 refine calls_of_wp hf hb ?_;have hsz : vals.size = args.length:=hrel.1;have fr0 : YW cx r H0 w (Yn args 0) (vals ++ Array.replicate (fn.ntmps - vals.size) undef):=by
  intro t;rw [zED,if_pos (Nat.zero_le _),Nat.sub_zero];cases hx : args[t]? with
  | none=>trivial
  | some x=>
    have hlt : t < vals.size:=by rw [hsz];exact (List.getElem?_eq_some_iff.1 hx).1
    have hv : vals[t]? = some vals[t]:=Array.getElem?_eq_getElem hlt;have e1 : (vals ++ Array.replicate (fn.ntmps - vals.size) undef).getD t undef = vals[t]:=by
     rw [Array.getD_eq_getD_getElem?,Array.getElem?_append_left hlt,hv];rfl
    rw [e1];exact hrel.2 t x _ hx hv
 refine wp_mono (h.run cx r hpin _ w ⟨_,st,fr0,hnm,by simp;omega,rfl,Nat.le_refl _,λ_ _=>rfl⟩) λe a' w' hq=>?_;obtain ⟨fr,H,nx,hk,r',st',hfr,hnm',_,hdf,_,hfx'⟩:=hq;have main : ∀ l,resL T fr H fn.results.toList = some l -> post (asF l) H nx -> a'.defers = [] /\ ∃ v,(results fn a'.tmps).run P w' = .ok v w' /\ ∃ u r' x Hf nf,Ending.returned v = .returned u /\ post x Hf nf /\ St cx r' Hf w' /\ (∀ k,nf <= k -> r' k = none /\ zX Hf k = none) /\ x.rel r' cx.X (wr r' Hf) w' u /\ ∀ k,k < np -> r' k = r k:=by
  intro l hl hp;obtain ⟨v,g1,g2⟩:=zDZ hT st' hfr hl;exact ⟨hdf,v,g1,v,r',_,H,nx,rfl,hp,st',hnm',g2,hfx'⟩
 cases e with
 | ret=>
   simp only [qQ] at hk;split at hk
   . rename_i l hl;exact main l hl hk
   . exact hk.elim
 | normal=>
   simp only [qQ] at hk;split at hk
   . rename_i l hl;exact main l hl hk
   . exact hk.elim
 | exit=>exact hk.elim
 | goto=>exact hk.elim
 | panic=>exact hk.elim
 | outgrown=>exact hk.elim
theorem zC7 (hT : qP P T) {f : FuncId} {fn : Func} {c : Code} (hf : P.funcs[f]? = some fn) (hb : fn.body = some c) (args : List FV) (hn : args.length <= fn.ntmps) (spec : FV)
 (h : Sem P fn.ntmps 0 c (Yn args 0) [] 0 (qQ T fn.results.toList λx H _=>Done H x spec)) : Ze P f args spec:=by
 intro X w vals hrel hX;have hrel' : zAe (λ_=>none) X (wr (λ_=>none) []) w args vals:=by rw [zDW];exact hrel
 refine (fn_runS hT hf hb hn h (λ_ _ h=>by cases h) (zBN hX) hrel' (λ_ _=>⟨rfl,rfl⟩)).mono λe w' he=>?_;obtain ⟨v,r',x,Hf,nf,rfl,hfin,st,_,hx,_⟩:=he;refine ⟨v,rfl,⟨st.os,st.tape,st.output,st.size,λb hb=>st.kept b hb id⟩,?_⟩;have h1:=hfin.le (λk e' h=>by cases h) _ r' w' v st hx;rw [ren_nil] at h1;refine FV.rel_w (λb hb=>?_) _ _ h1;exact .inr ⟨rfl,hb⟩
end
def YM (nm : Nat) : List Ent -> Hp
 | []=>[]
 | e :: t=>(nm,some e) :: YM (nm + 1) t
theorem zDx : ∀ (Es : List Ent) (nm k : Nat),zX (YM nm Es) k = if nm <= k then Es[k - nm]? else none:=by
 intro Es;induction Es with
 | nil=>intro nm k;simp [YM,zX,qu]
 | cons e Es ih=>
   intro nm k;unfold YM;by_cases hk : k = nm
   . subst hk;rw [if_pos (Nat.le_refl _),Nat.sub_self];exact zn _ _ _ _
   . have e1 : zX ((nm,some e) :: YM (nm + 1) Es) k = zX (YM (nm + 1) Es) k:=zZ _ _ _ hk;rw [e1,ih];by_cases hle : nm + 1 <= k
     . rw [if_pos hle,if_pos (by omega),show k - nm = (k - (nm + 1)) + 1 by omega,List.getElem?_cons_succ]
     . rw [if_neg hle,if_neg (by omega)]
theorem effL_key {Es : List Ent} {nm k : Nat} (h : ZV (YM nm Es) k = true) : nm <= k /\ k < nm + Es.length:=by
 induction Es generalizing nm with
 | nil=>cases h
 | cons e Es ih=>
   unfold YM at h;rw [QX,Bool.or_eq_true] at h;rw [List.length_cons];rcases h with h | h
   . have:=Nat.eq_of_beq_eq_true h;omega
   . have:=ih h;omega
theorem zFf {H : Hp} {k : Nat} (h : ZV H k = false) : zX H k = none:=by
 induction H with
 | nil=>rfl
 | cons p H ih=>
   obtain ⟨a,b⟩:=p;rw [QX,Bool.or_eq_false_iff] at h;have hne : k ≠ a:=λe=>by subst e;simp at h
   exact (zZ _ _ _ hne).trans (ih h.2)
def rngB (X : Nat -> Prop) (r : QK) (b : Nat) : Prop:=X b \/ ∃ k y,r k = some y /\ y.b = b
structure NewsR (X : Nat -> Prop) (w w' : World) (v : Value) (x : FV) (Es : List Ent) (r : QK) : Prop where
 bel : Below w.heap.size w w'
 dom : ∀ k y,r k = some y -> k < Es.length /\ w.heap.size <= y.b /\ y.b < w'.heap.size
 inj : ∀ k k' y y',r k = some y -> r k' = some y' -> y.b = y'.b -> k = k'
 ent : ∀ k e,Es[k]? = some e -> Yy r X (rngB X r) w' e (r k) w'.heap
 val : x.rel r X (rngB X r) w' v
def zB2 (P : Program) (f : FuncId) (args : List FV) (x : FV) (Es : List Ent) : Prop:=
 ∀ X w (vals : Array Value),zAe (λ_=>none) X (λ_=>False) w args vals -> Xw X w -> Calls P f vals w λe w'=>∃ v r,e = .returned v /\ NewsR X w w' v x Es r
structure FinNs (y : FV) (Es : List Ent) (x : FV) (H : Hp) : Prop where
 ex : ∃ rho,zEB 0 ⟨H,YM 0 Es,rho,Es.length,true⟩ = true /\ LeF ⟨H,YM 0 Es,rho,Es.length,true⟩ x y /\ WkH ⟨H,YM 0 Es,rho,Es.length,true⟩ (YM 0 Es)
section
variable {P : Program} {T : YU} {Q : Qs} {wd : Nat}
theorem zBB (hwd : 0 < wd) (hT : qP P T) (hQ : zBI P Q) (hm : P.follows .mixedOrders = true) {f : FuncId} {fn : Func} {c : Code} (hf : P.funcs[f]? = some fn) (hb : fn.body = some c) (args : List FV) (hn : args.length <= fn.ntmps) {y : FV} {Es : List Ent}
 (h : qR T Q wd fn.ntmps 0 c (Yn args 0) [] 0 (qQ T fn.results.toList λx H _=>FinNs y Es x H)) : zB2 P f args y Es:=by
 intro X w vals hrel hX;have hrel' : zAe (λ_=>none) X (wr (λ_=>none) []) w args vals:=by rw [zDW];exact hrel
 refine (zDa hwd hT hQ hm hf hb hn h (λ_ _ h=>by cases h) (zBN hX) hrel' (λ_ _=>⟨rfl,rfl⟩)).mono λe w' he=>?_;obtain ⟨v,r',x,Hf,nf,rfl,⟨rho,hrho,hfin,hent⟩,st,_,hx,_⟩:=he;obtain ⟨c,hc⟩ : ∃ c : Wc,c = ⟨Hf,YM 0 Es,rho,Es.length,true⟩:=⟨_,rfl⟩;rw [<- hc] at hrho hfin hent;have cH : c.H = Hf:=by rw [hc]
 have cH' : c.H' = YM 0 Es:=by rw [hc]
 have cnx : c.nx = Es.length:=by rw [hc]
 have cfin : c.fin = true:=by rw [hc]
 rw [<- cH'] at hent;have hlive:=hent.live;simp only [zEB,Bool.and_eq_true] at hrho;have hkeys : ∀ k o,zAG c.rho k = some o -> k < c.nx:=λk o h=>by
  obtain ⟨p,hp,rfl⟩:=zEC h;have:=List.all_eq_true.1 hrho.1 p hp;simp only [Bool.and_eq_true] at this;exact Nat.le_of_ble_eq_true this.2
 have hren : ∀ k y,c.ren r' k = some y -> ∃ k0,c.src k = some k0 /\ r' k0 = some y:=λk y h=>by
  unfold Wc.ren at h;split at h
  . rename_i k0 hk0;exact ⟨k0,hk0,h⟩
  . cases h
 have hlt : ∀ k k0,c.src k = some k0 -> k < Es.length:=λk k0 h=>by
  unfold Wc.src at h;cases hl : zAG c.rho k with
  | some o=>rw [<- cnx];exact hkeys k o hl
  | none=>
    rw [hl] at h;simp only at h;cases hb : Nat.blt k c.nx with
    | true=>rw [<- cnx];exact Nat.le_of_ble_eq_true hb
    | false=>rw [hb] at h;cases h
 have hget' : ∀ k,k < Es.length -> ∃ e,zX c.H' k = some e:=λk hk=>by
  rw [cH',zDx,if_pos (Nat.zero_le _),Nat.sub_zero];exact ⟨_,List.getElem?_eq_getElem hk⟩
 have st : St ⟨w,λ_=>False,λ_=>False,X,λ_=>none⟩ r' c.H w':=by rw [cH];exact st
 have hw : ∀ b,rngB X (c.ren r') b -> c.wr ⟨w,λ_=>False,λ_=>False,X,λ_=>none⟩ r' b:=λb hb=>by
  rcases hb with hb | ⟨k,y,hy,hyb⟩
  . exact .inr ⟨cfin,hb⟩
  . obtain ⟨k0,s1,_⟩:=hren k y hy;obtain ⟨e,he⟩:=hget' k (hlt k k0 s1);exact .inl ⟨k,e,y,he,hy,hyb⟩
 refine ⟨v,c.ren r',rfl,⟨⟨st.os,st.tape,st.output,st.size,λb hb=>st.kept b hb id⟩,λk y hy=>?_,λk k' y y' hy hy' hb=>?_,λk e he=>?_,?_⟩⟩
 . obtain ⟨k0,s1,hy⟩:=hren k y hy;obtain ⟨d1,d2,_⟩:=st.dom k0 y hy;exact ⟨hlt k k0 s1,d2.resolve_right id,d1⟩
 . obtain ⟨n0,s1,hx1⟩:=hren k y hy;obtain ⟨m0,s2,hx2⟩:=hren k' y' hy';obtain ⟨e1,l1⟩:=hget' k (hlt k n0 s1);obtain ⟨e2,l2⟩:=hget' k' (hlt k' m0 s2);obtain ⟨f1,g1⟩:=hlive k e1 l1 n0 s1;obtain ⟨f2,g2⟩:=hlive k' e2 l2 m0 s2;have:=st.inj n0 m0 f1 f2 y y' g1 g2 hx1 hx2 hb;subst this;exact zFJ hrho.2 k k' e1 e2 n0 l1 l2 s1 s2
 . have he' : zX c.H' k = some e:=by rw [cH',zDx,if_pos (Nat.zero_le _),Nat.sub_zero];exact he
   obtain ⟨_,hwk⟩:=hent.at k e he';cases hs : c.src k with
   | none=>
     rw [hs] at hwk;obtain ⟨g1,g2,g3⟩:=hwk;exact ⟨g3,(λh=>by rw [g2] at h;cases h),.inl ⟨by unfold Wc.ren;rw [hs],g1⟩⟩
   | some k0=>
     rw [hs] at hwk;unfold WkE at hwk;simp only at hwk;split at hwk
     . rename_i e2 hh;have hrk : c.ren r' k = r' k0:=by unfold Wc.ren;rw [hs]
       exact (st.blk k0 e2 hh).map hwk.t hwk.n hwk.sz hwk.v hrk.symm (λ_ _=>rfl) λi hi j hj u hu=>by
        have h1:=hwk.f i hi j hj hlive _ r' w' u st hu;exact CV.rel_w hw _ _ h1
     . exact hwk.elim
 . have hx : x.rel r' X (wr r' c.H) w' v:=by rw [cH];exact hx
   have h1:=hfin hlive _ r' w' v st hx;exact FV.rel_w hw _ _ h1
end
def Sft (m d : Nat) (x y : CV) : Prop:=∀ (r r2 : QK) (X W X2 W2 : Nat -> Prop) (w : World) (v : Value),(∀ k,k < m -> r2 (d + k) = r k) -> (∀ b,X2 b -> X b \/ W b) -> (∀ b,W2 b -> X b \/ W b) -> x.rel r X W w v -> y.rel r2 X2 W2 w v
theorem zCp {m d k i n : Nat} (h : k < m) : Sft m d (.os k i n) (.os (d + k) i n):=by
 rintro r r2 X W X2 W2 w v hr _ _ ⟨a,cap,rfl,h1,h2⟩;refine ⟨a,cap,rfl,h1,λh0=>?_⟩;obtain ⟨x,hx,h3⟩:=h2 h0;exact ⟨x,⟨by rw [hr k h];exact hx.1,hx.2⟩,h3⟩
theorem zDO {m d : Nat} {k : IntKind} {a : Int} : Sft m d (.int k a) (.int k a):=λ_ _ _ _ _ _ _ _ _ _ _ h=>h
def SftF (m d : Nat) (x y : FV) : Prop:=∀ (r r2 : QK) (X W X2 W2 : Nat -> Prop) (w : World) (v : Value),(∀ k,k < m -> r2 (d + k) = r k) -> (∀ b,X2 b -> X b \/ W b) -> (∀ b,W2 b -> X b \/ W b) -> x.rel r X W w v -> y.rel r2 X2 W2 w v
structure SftN (m d : Nat) (e e' : Ent) : Prop where
 t : e.t = e'.t
 n : e.n = e'.n
 sz : e.sz = e'.sz
 v : e.v = e'.v
 f : ∀ i,i < e.n -> ∀ j,j < e.sz -> Sft m d (e.f i j) (e'.f i j)
theorem zGJ {P : Program} {f : FuncId} (hb : zAJ P f) {args args' : List FV} {H : Hp} {rd : List Nat} {nm wd : Nat} {x y : FV} {Es Ds : List Ent} (hm : Es.length <= wd) (hl : Ds.length = Es.length) (hxy : SftF Es.length nm x y) (hE : ∀ (k : Nat) e e',Es[k]? = some e -> Ds[k]? = some e' -> SftN Es.length nm e e')
 (hbo : ∀ H',(∀ k ∈ rd,zX H k = zX H' k) -> BoL H' rd args args') (h : zB2 P f args' x Es) : zC0 P f args H nm wd ⟨none,y,YM nm Ds,rd⟩:=by
 refine ⟨hb,λH' hh cx r w vals st hfr _ hrel=>?_⟩;obtain ⟨h1,h2⟩:=hbo H' hh;refine (h (λb=>cx.X b \/ wr r H' b) w vals ⟨hrel.1.trans h1,λi y u hy hu=>?_⟩ (st_xw st)).mono λe w' he=>?_
 . have hi : i < args.length:=by rw [h1];exact (List.getElem?_eq_some_iff.1 hy).1
   exact FV.rel_w (λ_ h=>h.elim) _ _ (h2 i _ y (List.getElem?_eq_getElem hi) hy cx r w u st (hrel.2 i _ u (List.getElem?_eq_getElem hi) hu))
 . obtain ⟨v,r0,rfl,hR⟩:=he;have hbel:=hR.bel;have inn : ∀ k,(nm <= k /\ k < nm + Es.length) -> r k = none /\ zX H' k = none:=λk hk=>hfr k hk.1 (by omega);obtain ⟨r2,er2⟩ : ∃ r2 : QK,r2 = λk=>if nm <= k /\ k < nm + Es.length then r0 (k - nm) else r k:=⟨_,rfl⟩
   have r2i : ∀ k,(nm <= k /\ k < nm + Es.length) -> r2 k = r0 (k - nm):=λk hk=>by rw [er2];exact if_pos hk
   have r2o : ∀ k,¬ (nm <= k /\ k < nm + Es.length) -> r2 k = r k:=λk hk=>by rw [er2];exact if_neg hk
   have hr2 : ∀ k x,r k = some x -> r2 k = some x:=λk x hx=>by
    by_cases hk : nm <= k /\ k < nm + Es.length
    . rw [(inn k hk).1] at hx;cases hx
    . rw [r2o k hk];exact hx
   have hgi : ∀ k,(nm <= k /\ k < nm + Es.length) -> zX (YM nm Ds ++ H') k = Ds[k - nm]?:=λk hk=>by
    have e1 : zX (YM nm Ds ++ H') k = bif ZV (YM nm Ds) k then zX (YM nm Ds) k else zX H' k:=qB _ _ _ _;have e2 : zX (YM nm Ds) k = Ds[k - nm]?:=by rw [zDx,if_pos hk.1]
    cases hkey : ZV (YM nm Ds) k with
    | true=>rw [e1,hkey,cond_true,e2]
    | false=>
      exfalso;have e3 : zX (YM nm Ds) k = none:=zFf hkey;rw [e2,List.getElem?_eq_getElem (by omega)] at e3;cases e3
   have hgo : ∀ k,¬ (nm <= k /\ k < nm + Es.length) -> zX (YM nm Ds ++ H') k = zX H' k:=λk hk=>by
    have e1 : zX (YM nm Ds ++ H') k = bif ZV (YM nm Ds) k then zX (YM nm Ds) k else zX H' k:=qB _ _ _ _;cases hkey : ZV (YM nm Ds) k with
    | false=>rw [e1,hkey,cond_false]
    | true=>
      exfalso;obtain ⟨a,b⟩:=effL_key hkey;omega
   have hwr2 : ∀ b,wr r2 (YM nm Ds ++ H') b -> rngB (λb=>cx.X b \/ wr r H' b) r0 b:=by
    rintro b ⟨k,e,x,he,hx,hxb⟩;by_cases hk : nm <= k /\ k < nm + Es.length
    . rw [r2i k hk] at hx;exact .inr ⟨_,x,hx,hxb⟩
    . rw [r2o k hk] at hx;rw [hgo k hk] at he;exact .inl (.inr ⟨k,e,x,he,hx,hxb⟩)
   have hsh : ∀ k,k < Es.length -> r2 (nm + k) = r0 k:=λk hk=>by rw [r2i (nm + k) ⟨by omega,by omega⟩,Nat.add_sub_cancel_left]
   obtain ⟨g1,g2⟩:=st.below hbel;have hdomo : ∀ k x,r0 k = some x -> x.b < w'.heap.size /\ cx.w0.heap.size <= x.b /\ ¬ cx.X x.b:=λk x hx=>by
    obtain ⟨_,a1,a2⟩:=hR.dom k x hx;refine ⟨a2,Nat.le_trans st.size a1,λhX=>?_⟩;have:=Nat.lt_of_lt_of_le (st.xlt.lt _ hX) st.size;omega
   have hE2 : Ext r (wr r H') w r2 (wr r2 (YM nm Ds ++ H')) w':=by
    refine ⟨hr2,hbel.size,λb hb _=>hbel.block b hb,λb hb hw=>?_⟩;rcases hwr2 b hw with (hX | hw) | ⟨k,x,hx,hxb⟩
    . obtain ⟨k,e,x,he,hx,hxb⟩:=hw;by_cases hk : nm <= k /\ k < nm + Es.length
      . rw [r2i k hk] at hx;obtain ⟨_,a1,a2⟩:=hR.dom _ x hx;omega
      . rw [r2o k hk] at hx;rw [hgo k hk] at he;exact ⟨k,e,x,he,hx,hxb⟩
    . exact hw
    . obtain ⟨_,a1,a2⟩:=hR.dom k x hx;omega
   refine ⟨v,rfl,r2,hE2,⟨g2.os,g2.tape,g2.output,g2.size,g2.kept,g2.xlt,λk x hx=>?_,λk e x he hx=>?_,λn m e1 e2 x y hn hm hx hy hxy=>?_,λk b hk=>hr2 k b (g2.pin k b hk),λk e he=>?_⟩,λk hk=>r2o k (by omega),λk e he=>?_,?_⟩
   . by_cases hk : nm <= k /\ k < nm + Es.length
     . rw [r2i k hk] at hx;obtain ⟨a1,a2,a3⟩:=hdomo _ x hx;exact ⟨a1,.inl a2,a3⟩
     . rw [r2o k hk] at hx;exact g2.dom k x hx
   . by_cases hk : nm <= k /\ k < nm + Es.length
     . rw [r2i k hk] at hx;exact .inl (hdomo _ x hx).2.1
     . rw [r2o k hk] at hx;have he' : zX (YM nm Ds ++ H') k = some e:=he;rw [hgo k hk] at he';exact g2.ow k e x he' hx
   . have lt : ∀ k x,¬ (nm <= k /\ k < nm + Es.length) -> r2 k = some x -> x.b < w.heap.size:=λk x hk hx=>by rw [r2o k hk] at hx;exact (st.dom k x hx).1
     have ge : ∀ k x,(nm <= k /\ k < nm + Es.length) -> r2 k = some x -> w.heap.size <= x.b:=λk x hk hx=>by rw [r2i k hk] at hx;exact (hR.dom _ x hx).2.1
     by_cases h : nm <= n /\ n < nm + Es.length
     . by_cases h' : nm <= m /\ m < nm + Es.length
       . rw [r2i n h] at hx;rw [r2i m h'] at hy;have:=hR.inj _ _ x y hx hy hxy;omega
       . have:=lt m y h' hy;have:=ge n x h hx;omega
     . by_cases h' : nm <= m /\ m < nm + Es.length
       . have:=lt n x h hx;have:=ge m y h' hy;omega
       . have hn' : zX (YM nm Ds ++ H') n = some e1:=hn;have hm' : zX (YM nm Ds ++ H') m = some e2:=hm;rw [hgo n h] at hn';rw [hgo m h'] at hm';rw [r2o n h] at hx;rw [r2o m h'] at hy;exact st.inj n m e1 e2 x y hn' hm' hx hy hxy
   . have he' : zX (YM nm Ds ++ H') k = some e:=he;by_cases hk : nm <= k /\ k < nm + Es.length
     . rw [hgi k hk] at he';obtain ⟨e0,he0⟩ : ∃ e0,Es[k - nm]? = some e0:=⟨_,List.getElem?_eq_getElem (by omega)⟩;have hs:=hE (k - nm) e0 e he0 he';rw [r2i k hk];exact (hR.ent (k - nm) e0 he0).map hs.t hs.n hs.sz hs.v rfl (λ_ _=>rfl) λi hi j hj u hu=>hs.f i hi j hj r0 r2 _ _ _ _ _ _ hsh (λb hb=>.inl (.inl hb)) (λb hb=>.inr (hwr2 b hb)) hu
     . rw [hgo k hk] at he';rw [r2o k hk];have hold:=st.old he' rfl (w':=w') λx hx=>hbel.block _ (st.dom k x hx).1;exact hold.ext hE2
   . have he' : zX (YM nm Ds ++ H') k = some e:=he;by_cases hk : nm <= k /\ k < nm + Es.length
     . exact .inl ⟨.inl (by omega),by omega⟩
     . rw [hgo k hk] at he';exact .inr ⟨e,he'⟩
   . exact hxy r0 r2 _ _ _ _ _ _ hsh (λb hb=>.inl (.inl hb)) (λb hb=>.inr (hwr2 b hb)) hR.val
def zDy {α R : Type} (A : AC α) (p : α -> Prop) (F : α -> R) (m : Nat) (y : Nat -> R -> FV) (Ds : Nat -> R -> List Ent) : Zk:=λargs H nm wd=>
 match A.dec H args with
 | some (a,q,rd)=>bif Nat.ble m wd then some λK=>pAnd q (p a /\ ∀ s,s = F a -> K (y nm s) (YM nm (Ds nm s)) rd) else none
 | none=>none
theorem zCT {α R : Type} {A : AC α} {p : α -> Prop} {F : α -> R} {m : Nat} {y : Nat -> R -> FV} {Ds : Nat -> R -> List Ent} {P : Program} {f : FuncId} (hb : zAJ P f) (hl : ∀ nm s,(Ds nm s).length = m) (hxy : ∀ nm s,SftF m nm (y 0 s) (y nm s)) (hE : ∀ nm a,p a -> ∀ (k : Nat) e e',(Ds 0 (F a))[k]? = some e -> (Ds nm (F a))[k]? = some e' -> SftN m nm e e') (h : ∀ a,p a -> zB2 P f (A.enc a) (y 0 (F a)) (Ds 0 (F a))) : EntOk P f (zDy A p F m y Ds):=by
 refine ⟨λargs H nm wd q hwd hq K hK=>?_,λargs H nm wd q hq K K' hKK hK=>?_⟩
 . unfold zDy at hq;split at hq
   . rename_i a pr rd hd;obtain ⟨hm,hq⟩:=qZ hq;subst hq;obtain ⟨h1,h2,h3⟩:=YA.1 hK;refine ⟨_,_,_,zGJ hb (by rw [hl];exact Nat.le_of_ble_eq_true hm) (by rw [hl,hl]) ?_ ?_ (λH' hh=>A.sound H H' args a pr rd hd h1 hh) (h a h2),h3 _ rfl⟩
     . rw [hl];exact hxy nm _
     . rw [hl];exact hE nm a h2
   . cases hq
 . unfold zDy at hq;split at hq
   . obtain ⟨_,hq⟩:=qZ hq;subst hq;obtain ⟨h1,h2,h3⟩:=YA.1 hK;exact YA.2 ⟨h1,h2,λs hs=>hKK _ _ _ (h3 s hs)⟩
   . cases hq
theorem sftF_c {m d : Nat} {x y : CV} (h : Sft m d x y) : SftF m d (zL x) (zL y):=λr r2 X W X2 W2 w v hr hX hW hx=>h r r2 X W X2 W2 w v hr hX hW hx
theorem zDS {m d : Nat} {x : CV} (h : ShC x) : Sft m d x x:=λ_ _ _ _ _ _ _ _ _ hX hW hx=>h.bo hX hW hx
def zBs (d g : Nat) (L : List Sed) (i j : Nat) : CV:=bif Nat.beq j 2 && Nat.beq i g then .os d 0 (L.getD i default).held.length else zo ZB L i j
theorem zCX {d g : Nat} {L : List Sed} : zBs d g L g 2 = .os d 0 (L.getD g default).held.length:=by unfold zBs;simp
theorem Yd {d g : Nat} {L : List Sed} {i j : Nat} (h : i ≠ g \/ j ≠ 2) : zBs d g L i j = zo ZB L i j:=by
 unfold zBs;have : (Nat.beq j 2 && Nat.beq i g) = false:=by
  rcases h with h | h
  . rw [zAz h,Bool.and_false]
  . rw [zAz h];rfl
 rw [this];rfl
theorem zDG {c : Wc} {d d' g : Nat} {L : List Sed} {i j : Nat} (hj : j < 3) (h : i = g -> c.src d' = some d) : Zu c (zBs d g L i j) (zBs d' g L i j):=by
 by_cases hi : i = g /\ j = 2
 . obtain ⟨rfl,rfl⟩:=hi;rw [zCX,zCX];exact zH (h rfl) rfl
 . have h' : i ≠ g \/ j ≠ 2:=by omega
   rw [Yd h',Yd h'];exact (ZB.sh _ j hj).le
def entG (d g : Nat) (n : Nat) (L : List Sed) : Ent:=⟨78,n,3,false,zBs d g L⟩
def hldG (g i : Nat) (L : List Sed) : List Hel:=if g < i then (L.getD g default).held else []
theorem hldG_ne {g i : Nat} {L : List Sed} (h : i ≠ g) : hldG g (i + 1) L = hldG g i L:=by
 unfold hldG;by_cases h1 : g < i
 . rw [if_pos h1,if_pos (by omega)]
 . rw [if_neg h1,if_neg (by omega)]
theorem hldG_eq {g : Nat} {L : List Sed} : hldG g (g + 1) L = (L.getD g default).held:=if_pos (Nat.lt_succ_self g)
structure ClI (L : List Sed) : Prop where
 n : L.length <= 1000
 k : ∀ x ∈ L,KpI x.held
def LMl : CsL:=(56,some keepE) :: []
theorem LMl_ok : qV Try.prog LMl:=⟨zDT,trivial⟩
theorem Qu (L : List Hel) : L.filter (qU none) = L:=List.filter_eq_self.2 λ_ _=>rfl
theorem clone_ok (g : Nat) (L : List Sed) (hL : ClI L) : zB2 Try.prog 34 [(cNS ZB qA).enc L] (zL (.os 0 0 L.length)) [entG 1 g L.length L,Zj zm 85 (L.getD g default).held]:=by
 have hn:=hL.n;refine zBB (wd:=1) (by decide) zN (zb LMl_ok) zP Try.func34 rfl _ (by show 1 <= _;decide) ?_;have w0 : IntKind.i64.wrap ((L.length : Int) + 1) = ((L.length + 1 : Nat) : Int):=(IntWalk.i64_in _ (by omega)).trans (by omega);repeat' (first | (simp only [w0]) | (apply And.intro<;>intro hc<;>(first | exact Bool.noConfusion hc | (exfalso;first | exact absurd rfl hc | omega) | (simp only [zl] at hc<;>first | exact absurd rfl hc | (exfalso;first | exact absurd rfl hc | omega) | skip) | skip)) | (refine And.intro zj ?_) | (apply And.intro) | (intro s hs;skip) | (refine Exists.intro _ (And.intro ⟨rfl,rfl,rfl⟩ ?_)))
 conv=>whnf
 refine zU (zV LMl_ok) (λs : {i : Nat // i <= L.length}=>(⟨[(3,zL (.os 50 0 s.1)),(10,zL (ZT ZB L)),(11,zL (.int .i64 (L.length : Int))),(12,zL (.int .i64 (s.1 : Int)))],[(50,some (entG 51 g s.1 L)),(51,some (Zj zm 85 (hldG g s.1 L)))],52⟩ : Hd)) (λs=>L.length - s.1) (λ_=>rfl) ?_ ⟨0,Nat.zero_le _⟩ [(50,some 4),(51,none)] ⟨rfl,⟨zD (zH rfl rfl),zD (zJ (zI L)),zB rfl,zB rfl,trivial⟩,⟨rfl,⟨rfl,rfl,rfl,rfl,λi hi=>absurd hi (Nat.not_lt_zero i)⟩⟩,⟨rfl,rfl,rfl,Nat.le_of_ble_eq_true rfl⟩,trivial⟩;rintro ⟨i,hi⟩;dsimp only at hi ⊢;unfold ZT;by_cases hil : i < L.length
 . have w3 : IntKind.i64.wrap ((i : Int) + 1) = ((i + 1 : Nat) : Int):=(IntWalk.i64_in _ (by omega)).trans (by omega);have hk:=hL.k _ (QV hil);obtain ⟨A,eA⟩ : ∃ A,hldG g i L = A:=⟨_,rfl⟩;rw [eA];repeat' (first | (apply And.intro<;>intro hc<;>(first | exact Bool.noConfusion hc | (exfalso;first | exact absurd rfl hc | omega) | (simp only [zl] at hc<;>first | exact absurd rfl hc | (exfalso;first | exact absurd rfl hc | omega) | skip) | skip)) | (refine And.intro zj ?_) | (apply And.intro) | (intro s hs;(have q : s = (L.getD ((i : Int).toNat) default).held:=hs.trans (by show (Ys zm _ _).filter (qU none) = _;rw [Qu];exact zr zd _);clear hs;subst q)) | (refine Exists.intro _ (And.intro ⟨rfl,rfl,rfl⟩ ?_)))
   . exact λ_ _=>⟨rfl,ZG _⟩
   . exact Eq.mpr (congrArg KpI (zr zd _)) hk
   . by_cases hg : i = g
     . subst hg;refine ⟨⟨i + 1,hil⟩,[(50,some 65),(51,some 59)],by dsimp only;omega,rfl,⟨zD (zH rfl rfl),zD (zJ (zI L)),zB rfl,zB w3,trivial⟩,?_⟩;refine ⟨⟨rfl,⟨rfl,rfl,rfl,rfl,λp hp j hj=>?_⟩⟩,⟨rfl,?_⟩,trivial⟩
       . have hp' : p < i + 1:=hp;have hj' : j < 3:=hj;show Zu _ (Zp (Nat.blt p i) (zBs 51 i L p j) _) (zBs 51 i L p j);by_cases hpi : p < i
         . exact ZU (Nat.ble_eq_true_of_le hpi) (zDG hj' (λh=>by omega))
         . obtain rfl : p = i:=by omega
           refine Zd (Zt _) ?_;rw [Nat.sub_self];rcases j with _ | _ | _ | j
           . rw [Yd (.inr (by decide))];exact zC rfl
           . rw [Yd (.inr (by decide))];exact zC rfl
           . rw [zCX];exact zH rfl rfl
           . omega
       . dsimp only;rw [hldG_eq];exact zA
     . have eh : hldG g (i + 1) L = A:=by rw [<- eA];exact hldG_ne hg
       refine ⟨⟨i + 1,hil⟩,[(50,some 65)],by dsimp only;omega,rfl,⟨zD (zH rfl rfl),zD (zJ (zI L)),zB rfl,zB w3,trivial⟩,?_⟩;dsimp only;rw [eh];refine ⟨⟨rfl,⟨rfl,rfl,rfl,rfl,λp hp j hj=>?_⟩⟩,⟨rfl,zA⟩,trivial⟩;have hp' : p < i + 1:=hp;have hj' : j < 3:=hj;show Zu _ (Zp (Nat.blt p i) (zBs 51 g L p j) _) (zBs 51 g L p j);by_cases hpi : p < i
       . exact ZU (Nat.ble_eq_true_of_le hpi) (zDG hj' (λ_=>rfl))
       . obtain rfl : p = i:=by omega
         refine Zd (Zt _) ?_;rw [Nat.sub_self,Yd (.inl hg)];rcases j with _ | _ | _ | j
         . exact zC rfl
         . exact zC rfl
         . exact ZQ rfl rfl rfl rfl (by rw [Nat.zero_add];exact Nat.le_refl _) λq hq j hj=>by
            have e : 0 + q = q:=Nat.zero_add q;rw [e];exact (zm.sh _ j hj).le
         . omega
 . have hi2 : i = L.length:=by omega
   subst hi2;repeat' (first | (apply And.intro<;>intro hc<;>(first | exact Bool.noConfusion hc | (exfalso;first | exact absurd rfl hc | omega) | (simp only [zl] at hc<;>first | exact absurd rfl hc | (exfalso;first | exact absurd rfl hc | omega) | skip) | skip)) | (refine And.intro zj ?_) | (apply And.intro) | (intro s hs;skip) | (refine Exists.intro _ (And.intro ⟨rfl,rfl,rfl⟩ ?_)))
   conv=>whnf
   refine ⟨⟨[(0,some 50),(1,some 51)],rfl,zD (zH rfl rfl),⟨rfl,⟨rfl,rfl,rfl,rfl,λp hp j hj=>zDG hj λ_=>rfl⟩⟩,⟨rfl,?_⟩,trivial⟩⟩;have : hldG g L.length L = (L.getD g default).held:=by
    unfold hldG;by_cases h : g < L.length
    . rw [if_pos h]
    . rw [if_neg h,List.getD_eq_getElem?_getD,List.getElem?_eq_none (by omega)];rfl
   rw [this];exact zA
abbrev cloneE (g : Nat) : Zk:=zDy (AC.cons (cNS ZB qA) AC.nil) (λa=>ClI a.1) (λa=>a.1) 2 (λnm L=>zL (.os nm 0 L.length)) (λnm L=>[entG (nm + 1) g L.length L,Zj zm 85 (L.getD g default).held])
theorem sft_rowG {nm g : Nat} {L : List Sed} {i j : Nat} (hj : j < 3) : Sft 2 nm (zBs (0 + 1) g L i j) (zBs (nm + 1) g L i j):=by
 by_cases hi : i = g /\ j = 2
 . obtain ⟨rfl,rfl⟩:=hi;rw [zCX,zCX];exact zCp (by decide)
 . have h' : i ≠ g \/ j ≠ 2:=by omega
   rw [Yd h',Yd h'];exact zDS (ZB.sh _ j hj)
theorem cloneE_ok (g : Nat) : EntOk Try.prog 34 (cloneE g):=zCT ⟨_,Try.func34,rfl,by kernel_rfl⟩ (λ_ _=>rfl) (λnm s=>sftF_c (by have h : Sft 2 nm (.os 0 0 s.length) (.os (nm + 0) 0 s.length):=zCp (by decide);exact h)) (λnm a _ k e e' h h'=>by
 rcases k with _ | _ | k
 . injection h with h;injection h' with h';subst h h';exact ⟨rfl,rfl,rfl,rfl,λi hi j hj=>sft_rowG hj⟩
 . injection h with h;injection h' with h';subst h h';exact ⟨rfl,rfl,rfl,rfl,λi hi j hj=>zDS (zm.sh _ j hj)⟩
 . cases h) λa h=>clone_ok g a.1 h
section
variable {P : Program} {T : YU}
theorem zBC (hT : qP P T) {f : FuncId} {fn : Func} {c : Code} (hf : P.funcs[f]? = some fn) (hb : fn.body = some c) (args : List FV) (hn : args.length <= fn.ntmps) {kd : Option Nat} {rest : Option (List EV)} {e' : Ent}
 (hnf : ∀ i,i < e'.n -> ∀ j,j < e'.sz -> NF (e'.f i j)) (h : Sem P fn.ntmps 0 c (Yn args 0) [] 0 (qQ T fn.results.toList λx H _=>FinN kd rest e' x H)) : zBG P f args kd rest e':=by
 intro X w vals hrel hX;have hrel' : zAe (λ_=>none) X (wr (λ_=>none) []) w args vals:=by rw [zDW];exact hrel
 refine (fn_runS hT hf hb hn h (λ_ _ h=>by cases h) (zBN hX) hrel' (λ_ _=>⟨rfl,rfl⟩)).mono λe w' he=>?_;obtain ⟨v,r',x,Hf,nf,rfl,⟨rho,hfin,hent⟩,st,_,hx,_⟩:=he;have hsrc : ∀ k,Wc.src ⟨Hf,[(0,some e')],[(0,rho)],1,true⟩ k = if k = 0 then rho else none:=λk=>by
  unfold Wc.src;simp only [zAG];by_cases hk : k = 0
  . subst hk;simp
  . have h1 : Nat.beq k 0 = false:=by
     cases hb : Nat.beq k 0 with
     | false=>rfl
     | true=>exact absurd (Nat.eq_of_beq_eq_true hb) hk
    have h2 : Nat.blt k 1 = false:=by
     cases hb : Nat.blt k 1 with
     | false=>rfl
     | true=>have:=Nat.le_of_ble_eq_true hb;omega
    simp [h1,h2,hk]
 have hren : Wc.ren ⟨Hf,[(0,some e')],[(0,rho)],1,true⟩ r' = at0 (rho.bind r'):=by
  funext k
  unfold Wc.ren at0;rw [hsrc];by_cases hk : k = 0
  . rw [if_pos hk,if_pos hk];cases rho<;>rfl
  . rw [if_neg hk,if_neg hk]
 have hlive : Wc.Live ⟨Hf,[(0,some e')],[(0,rho)],1,true⟩:=λk e1 he1 k0 hk0=>by
  rw [hsrc] at hk0;split at hk0
  . subst hk0;unfold WkE at hent;simp only at hent;split at hent
    . rename_i e2 hh;exact ⟨e2,hh⟩
    . exact hent.elim
  . cases hk0
 have hwr : ∀ b,orB X (rho.bind r') b -> Wc.wr ⟨Hf,[(0,some e')],[(0,rho)],1,true⟩ ⟨w,λ_=>False,λ_=>False,X,λ_=>none⟩ r' b:=λb hb=>by
  rcases hb with hb | ⟨y,hy,hyb⟩
  . exact .inr ⟨rfl,hb⟩
  . refine .inl ⟨0,e',y,zn _ _ _ _,?_,hyb⟩;rw [hren];show (if 0 = 0 then _ else _) = _;rw [if_pos rfl];exact hy
 refine ⟨v,rho.bind r',rfl,⟨st.os,st.tape,st.output,st.size,λb hb=>st.kept b hb id⟩,λy hy=>?_,?_,?_⟩
 . cases rho with
   | none=>cases hy
   | some j=>
     have hy' : r' j = some y:=hy;obtain ⟨d1,d2,_⟩:=st.dom j y hy';exact ⟨d2.resolve_right id,d1⟩
 . cases rho with
   | none=>
     obtain ⟨g1,g2,g3⟩:=hent;exact ⟨g3,(λh=>by rw [g2] at h;cases h),.inl ⟨rfl,g1⟩⟩
   | some j=>
     unfold WkE at hent;simp only at hent;split at hent
     . rename_i e2 hh;exact (st.blk j e2 hh).map hent.t hent.n hent.sz hent.v rfl (λ_ _=>rfl) λi hi j' hj u hu=>by
        have h1:=hent.f i hi j' hj hlive _ r' w' u st hu;exact CV.rel_w hwr _ _ (hnf i (by rw [<- hent.n];exact hi) j' (by rw [<- hent.sz];exact hj) _ _ _ _ _ _ h1)
     . exact hent.elim
 . have h1:=hfin hlive _ r' w' v st hx;rw [hren] at h1;exact FV.rel_w hwr _ _ h1
end
def normK : Hp -> List Nat -> Hp -> (Hp -> Prop) -> Prop
 | [],_,acc,k=>k acc
 | (t,v) :: l,seen,acc,k=>bif zB8 seen t then normK l seen acc k else normK l (t :: seen) ((t,v) :: acc) k
def zCU (H : Hp) : Hp:=H.map λp=>(p.1,none)
theorem zFg {l : List Nat} {t : Nat} : zB8 l t = true ↔ t ∈ l:=by
 constructor
 . intro h;obtain ⟨x,hx,hb⟩:=List.any_eq_true.1 h;rw [Nat.eq_of_beq_eq_true hb];exact hx
 . exact Yf
def zAi : Hp -> List Nat -> Hp -> Hp
 | [],_,acc=>acc
 | (t,v) :: l,seen,acc=>bif zB8 seen t then zAi l seen acc else zAi l (t :: seen) ((t,v) :: acc)
theorem normK_L : ∀ (l : Hp) (seen : List Nat) (acc : Hp) (k : Hp -> Prop),normK l seen acc k = k (zAi l seen acc):=by
 intro l;induction l with
 | nil=>intro seen acc k;rfl
 | cons p l ih=>
   intro seen acc k;obtain ⟨t0,v⟩:=p;unfold normK zAi;cases zB8 seen t0 with
   | true=>exact ih _ _ _
   | false=>exact ih _ _ _
theorem normL_eq : ∀ (l : Hp) (seen : List Nat) (acc : Hp),(∀ t,t ∈ seen ↔ ZV acc t = true) ->
 (∀ t,ZV (zAi l seen acc) t = (ZV acc t || ZV l t)) /\ ∀ t,qu none (zAi l seen acc) t = qu none (acc ++ l) t:=by
 intro l;induction l with
 | nil=>intro seen acc _;exact ⟨λt=>by simp [ZV,zAi],λt=>by simp [zAi]⟩
 | cons p l ih=>
   intro seen acc hs;obtain ⟨t0,v⟩:=p;cases hb : zB8 seen t0 with
   | true=>
     obtain ⟨h2,h3⟩:=ih seen acc hs;have hk : ZV acc t0 = true:=(hs t0).1 (zFg.1 hb);have hL : zAi ((t0,v) :: l) seen acc = zAi l seen acc:=by show (bif zB8 seen t0 then _ else _) = _;rw [hb];rfl
     rw [hL];refine ⟨λt=>?_,λt=>?_⟩
     . rw [h2 t,QX];by_cases ht : t0 = t
       . subst ht;rw [hk];simp
       . have : Nat.beq t0 t = false:=by
          cases h : Nat.beq t0 t with
          | false=>rfl
          | true=>exact absurd (Nat.eq_of_beq_eq_true h) ht
         rw [this];simp
     . rw [h3 t,qB,qB];cases hkt : ZV acc t with
       | true=>rfl
       | false=>
         have ht : t ≠ t0:=λh=>by subst h;rw [hk] at hkt;cases hkt
         rw [cond_false,cond_false];exact (zZ _ _ _ ht).symm
   | false=>
     have hk : ZV acc t0 = false:=by
      cases h : ZV acc t0 with
      | false=>rfl
      | true=>have:=zFg.2 ((hs t0).2 h);rw [hb] at this;cases this
     have hL : zAi ((t0,v) :: l) seen acc = zAi l (t0 :: seen) ((t0,v) :: acc):=by show (bif zB8 seen t0 then _ else _) = _;rw [hb];rfl
     rw [hL];obtain ⟨h2,h3⟩:=ih (t0 :: seen) ((t0,v) :: acc) (λt=>by
      rw [QX,List.mem_cons,hs t,Bool.or_eq_true];constructor
      . rintro (rfl | h)
        . exact .inl (by simp)
        . exact .inr h
      . rintro (h | h)
        . exact .inl (Nat.eq_of_beq_eq_true h).symm
        . exact .inr h)
     refine ⟨λt=>?_,λt=>?_⟩
     . rw [h2 t,QX,QX];cases Nat.beq t0 t<;>cases ZV acc t<;>rfl
     . rw [h3 t];show qu none (((t0,v) :: acc) ++ l) t = qu none (acc ++ (t0,v) :: l) t;rw [qB,qB,QX];by_cases ht : t = t0
       . subst ht;rw [hk,show Nat.beq t t = true by simp,Bool.true_or,cond_true,cond_false,zn,zn]
       . have e1 : Nat.beq t0 t = false:=by
          cases h : Nat.beq t0 t with
          | false=>rfl
          | true=>exact absurd (Nat.eq_of_beq_eq_true h).symm ht
         rw [e1,Bool.false_or,zZ _ _ _ ht,zZ _ _ _ ht]
def inEnd (H Hf : Hp) (nf top : Nat) (k : Hp -> Prop) : Prop:=Nat.ble nf top = true /\ normK (Hf ++ zCU H) [] [] k
theorem inEnd_eq {H Hf : Hp} {nf top : Nat} {k : Hp -> Prop} (h : inEnd H Hf nf top k) : nf <= top /\ ∃ L,k L /\ ∀ t,zX (L ++ H) t = zX Hf t:=by
 refine ⟨Nat.le_of_ble_eq_true h.1,?_⟩;obtain ⟨h2,h3⟩:=normL_eq (Hf ++ zCU H) [] [] (λt=>by simp [ZV]);refine ⟨zAi (Hf ++ zCU H) [] [],by have:=h.2;rw [normK_L] at this;exact this,λt=>?_⟩;have hkill : ∀ (H : Hp) t,ZV (zCU H) t = ZV H t:=λH t=>by
  unfold ZV zCU;rw [List.any_map];rfl
 have hnone : ∀ (H : Hp) t,qu none (zCU H) t = none:=by
  intro H;induction H with
  | nil=>intro t;rfl
  | cons p H ih=>
    intro t;show (bif Nat.beq t p.1 then none else qu none (zCU H) t) = none;cases Nat.beq t p.1 with
    | true=>rfl
    | false=>exact ih t
 show qu none (zAi (Hf ++ zCU H) [] [] ++ H) t = qu none Hf t;rw [qB,h2 t,h3 t];have e0 : ZV ([] : Hp) t = false:=rfl;have e1 : ZV (Hf ++ zCU H) t = (ZV Hf t || ZV H t):=by
  unfold ZV;rw [List.any_append];exact congrArg (_ || ·) (hkill H t)
 rw [e0,e1,Bool.false_or,List.nil_append,qB];cases h4 : ZV Hf t with
 | true=>rfl
 | false=>
   have look_no : ∀ (H : Hp),ZV H t = false -> qu none H t = none:=by
    intro H;induction H with
    | nil=>intro _;rfl
    | cons p H ih=>
      obtain ⟨k,v⟩:=p;intro h;rw [QX] at h;simp only [Bool.or_eq_false_iff] at h;have : Nat.beq t k = false:=by rw [zEF];exact h.1
      show (bif Nat.beq t k then v else qu none H t) = none;rw [this];exact ih h.2
   rw [cond_false,Bool.false_or,hnone,look_no Hf h4];cases h5 : ZV H t with
   | true=>rfl
   | false=>rw [cond_false,look_no H h5]
def inlE (T : YU) (Q : Qs) (wi nt : Nat) (rv : List ResultVar) (c : Code) : Zk:=λargs H nm wd=>some λK=>
 Nat.ble args.length nt = true /\ qR T Q wi nt nm c (Yn args 0) H nm (qQ T rv λx Hf nf=>inEnd H Hf nf (nm + wd) λe=>K x e [zBt])
theorem zEX {T : YU} {rv : List ResultVar} {p p' : FV -> Hp -> Nat -> Prop} (h : ∀ x H n,p x H n -> p' x H n) : ∀ e fr H nx,qQ T rv p e fr H nx -> qQ T rv p' e fr H nx:=by
 intro e fr H nx hp;cases e with
 | ret=>
   simp only [qQ] at hp ⊢;split at hp
   . exact h _ _ _ hp
   . exact hp.elim
 | normal=>
   simp only [qQ] at hp ⊢;split at hp
   . exact h _ _ _ hp
   . exact hp.elim
 | exit=>exact hp.elim
 | goto=>exact hp.elim
 | panic=>exact hp.elim
 | outgrown=>exact hp.elim
theorem gl_in {cx : Cx} {r : QK} {H : Hp} {w : World} (st : St cx r H w) : zCl (λb=>cx.X b \/ (∃ k x,r k = some x /\ x.b = b) \/ wr r H b) w:=λp hp=>by
 obtain ⟨h1,h2,h3⟩:=(st_xw st).2 p hp;refine ⟨h1,?_,h3⟩;rintro (h | ⟨k,x,hk,hb⟩ | h)
 . exact h2 (.inl h)
 . obtain ⟨g1,g2,_⟩:=st.xlt.gl p hp;rcases (st.dom k x hk).2.1 with hd | hd
   . omega
   . exact g2 (.inr (.inl (by rw [<- hb];exact hd)))
 . exact h2 (.inr h)
theorem inlE_ok {P : Program} {T : YU} {Q : Qs} {wi : Nat} (hwi : 0 < wi) (hT : qP P T) (hQ : zBI P Q) (hM : zCe Q) (hm : P.follows .mixedOrders = true) {f : FuncId} {fn : Func} {c : Code} (hf : P.funcs[f]? = some fn) (hb : fn.body = some c) (hnm : (fn.name == "runtime.NumGoroutine") = false) : EntOk P f (inlE T Q wi fn.ntmps fn.results.toList c):=by
 refine ⟨λargs H nm wd q hwd hq K hK=>?_,λargs H nm wd q hq K K' hKK hK=>?_⟩
 . injection hq with hq;subst hq;obtain ⟨hn,hK⟩:=hK;have hn:=Nat.le_of_ble_eq_true hn;obtain ⟨⟨x,Hf,nf⟩,hend,hex⟩:=zEV (α:=FV × Hp × Nat) (post:=λa x H n=>x = a.1 /\ H = a.2.1 /\ n = a.2.2) (S:=λa=>inEnd H a.2.1 a.2.2 (nm + wd) λe=>K a.1 e [zBt]) hwi hQ
    (zBo hM c _ _ (zEX λx Hf nf h=>⟨(x,Hf,nf),h,rfl,rfl,rfl⟩) _ _ _ hK)
   obtain ⟨hle,L,hKL,hL⟩:=inEnd_eq hend;refine ⟨x,L,[zBt],⟨⟨fn,hf,by rw [hb];rfl,hnm⟩,λH' hh cx r w vals st hfr hw hrel=>?_⟩,hKL⟩;obtain ⟨w1,w2⟩:=hw (List.mem_singleton.2 rfl);have w1' : ∀ k,zX H' k = zX H k:=λk=>(w1 k).symm;have st:=st.congr w1';rw [zBY (r:=r) w1'] at hrel;have w3 : ∀ k,nm <= k -> r k = none /\ zX H k = none:=λk hk=>⟨(w2 k hk).1,by rw [w1];exact (w2 k hk).2⟩;have hG:=gl_in st;refine (zDa (np:=nm) (cx:=⟨w,λb=>∃ k x,r k = some x /\ x.b = b,wr r H,cx.X,λk=>if k < nm then r k else none⟩) hwi hT (QR_ok P) hm hf hb hn hex (λk b hk=>?_)
    ⟨rfl,rfl,rfl,Nat.le_refl _,λ_ _ _=>rfl,⟨λb hb=>Nat.lt_of_lt_of_le (st.xlt.lt b hb) st.size,hG⟩,λk x hk=>⟨(st.dom k x hk).1,.inr ⟨k,x,hk,rfl⟩,(st.dom k x hk).2.2⟩,λk e x he hx=>.inr ⟨k,e,x,he,hx,rfl⟩,st.inj,λk b hk=>?_,st.blk⟩ hrel w3).mono λe w' he=>?_
   . by_cases h : k < nm
     . exact h
     . have hk' : (if k < nm then r k else none) = some b:=hk;rw [if_neg h] at hk';cases hk'
   . by_cases h : k < nm
     . have hk' : (if k < nm then r k else none) = some b:=hk;rw [if_pos h] at hk';exact hk'
     . have hk' : (if k < nm then r k else none) = some b:=hk;rw [if_neg h] at hk';cases hk'
   . obtain ⟨v,r',x',Hf',nf',rfl,⟨e1,e2,e3⟩,st',hn',hx,hlow⟩:=he;dsimp only at e1 e2 e3;rw [e2] at st' hx;rw [e1] at hx;rw [e2,e3] at hn';clear e1 e2 e3;have hG : ∀ t,zX (L ++ H') t = zX Hf t:=λt=>by
      rw [<- hL t];show qu none (L ++ H') t = qu none (L ++ H) t;rw [qB,qB];cases ZV L t with
      | true=>rfl
      | false=>exact w1' t
     have hle2 : ∀ k,nm + wd <= k -> r' k = none /\ zX Hf k = none:=λk hk=>hn' k (Nat.le_trans hle hk);have stF : St cx r' Hf w':=by
      refine ⟨st'.os.trans st.os,st'.tape.trans st.tape,st'.output.trans st.output,Nat.le_trans st.size st'.size,λb hb hE=>?_,st.xlt,λk y hk=>?_,λk e y he hy=>?_,st'.inj,λk b hk=>?_,st'.blk⟩
      . rw [<- st.kept b hb hE];refine st'.kept b (Nat.lt_of_lt_of_le hb st.size) ?_;rintro ⟨k,e,y,he,hy,rfl⟩;rcases st.ow k e y he hy with h | h
        . omega
        . exact hE h
      . obtain ⟨d1,d2,d3⟩:=st'.dom k y hk;refine ⟨d1,?_,d3⟩;rcases d2 with d2 | ⟨k0,x0,d4,d5⟩
        . exact .inl (Nat.le_trans st.size d2)
        . rw [<- d5];exact (st.dom k0 x0 d4).2.1
      . rcases st'.ow k e y he hy with h | ⟨k0,e0,x0,h1,h2,h3⟩
        . exact .inl (Nat.le_trans st.size h)
        . rw [<- h3];exact st.ow k0 e0 x0 h1 h2
      . have hr:=st.pin k b hk;have : k < nm:=by
         rcases Nat.lt_or_ge k nm with h | h
         . exact h
         . rw [(w3 k h).1] at hr;cases hr
        rw [hlow k this];exact hr
     have hwr : wr r' (L ++ H') = wr r' Hf:=zBY hG;have hwr0 : wr r H' = wr r H:=zBY w1';refine ⟨v,rfl,r',⟨λk b hk=>?_,st'.size,λb hb hW=>st'.kept b hb (by rw [<- hwr0];exact hW),λb hb hW=>?_⟩,stF.congr λt=>(hG t).symm,λk hk=>?_,λk e hk=>?_,by rw [hwr];exact hx⟩
     . have : k < nm:=by
        rcases Nat.lt_or_ge k nm with h | h
        . exact h
        . rw [(w3 k h).1] at hk;cases hk
       rw [hlow k this];exact hk
     . rw [hwr] at hW;rw [hwr0];obtain ⟨k,e,y,he,hy,rfl⟩:=hW;rcases st'.ow k e y he hy with h | h
       . have : w.heap.size <= y.b:=h;omega
       . exact h
     . rcases hk with hk | hk
       . exact hlow k hk
       . rw [(hle2 k hk).1,(w3 k (by omega)).1]
     . refine .inl ⟨.inr (List.mem_singleton.2 rfl),?_⟩;rcases Nat.lt_or_ge k (nm + wd) with h | h
       . exact h
       . have hk' : zX (L ++ H') k = some e:=hk;rw [hG k,(hle2 k h).2] at hk';cases hk'
 . injection hq with hq;subst hq;refine ⟨hK.1,zBo hM c _ _ (zEX λx Hf nf h=>⟨h.1,?_⟩) _ _ _ hK.2⟩;have h2:=h.2;rw [normK_L] at h2 ⊢;exact hKK _ _ _ h2
def Zn {α : Type} (k : Nat) (x : α) (L : List α) : List α:=L.take k ++ x :: L.drop k
def ze (s : Sed) (l : Int) : Sed:=if l <= s.mn then s else ⟨s.id,l,s.held.filter (qU (some l))⟩
def ZO (s : Sed) (i : Nat) : Sed:={ s with held:=s.held.set i { s.held.getD i default with tm:=Qq (s.held.getD i default).tm } }
def ZP (c : Cas) (now draw : Int) : Hel:=⟨c.num,c.data,(zAA 2 3 2 now draw).1,if 1099511627776 < now + 20 then 1099511627776 else now + 20⟩
def qO (s : Sed) (h : Hel) (i : Nat) : Sed:={ s with held:=Zn i h s.held }
def ZX (s : Sed) (now : Int) (c : Cas) (deaf : Bool) (draw : Int) : Sed × Bool:=
 if c.num < s.mn then (s,false) else
 if (ZM c.num s.held 0).2 = true then (ZO s (ZM c.num s.held 0).1,false) else
 if deaf = true then (ze (ze s (c.num - 31)) (c.num + 1),false) else
 (qO (ze s (c.num - 31)) (ZP c now draw) (ZM c.num (ze s (c.num - 31)).held 0).1,true)
def Qn (c : Cas) (L : List Sed) : List Sed:=if (Zf c.id L 0).2 = true then L else Zn (Zf c.id L 0).1 ⟨c.id,c.num,[]⟩ L
def qD (L : List Sed) (now : Int) (c : Cas) (deaf : Bool) (draw : Int) : List Sed × Bool × Int:=
 if ZA L = false \/ c.id = 0 \/ 64 < c.data.length then ([],false,1) else
 if ZD now = false \/ c.num < 0 \/ 1073741824 <= c.num then ([],false,2) else
 if (Zf c.id L 0).2 = false /\ 8 <= L.length then ([],false,10) else
 ((Qn c L).set (Zf c.id L 0).1 (ZX ((Qn c L).getD (Zf c.id L 0).1 default) now c deaf draw).1,(ZX ((Qn c L).getD (Zf c.id L 0).1 default) now c deaf draw).2,0)
theorem zAU {id : Int} : ∀ {L : List Sed} {k : Nat},(Zf id L k).1 <= k + L.length /\ ((Zf id L k).2 = true -> (Zf id L k).1 < k + L.length) /\ k <= (Zf id L k).1:=by
 intro L;induction L with
 | nil=>intro k;exact ⟨Nat.le_refl _,(λh=>by cases h),Nat.le_refl _⟩
 | cons s t ih=>
   intro k;unfold Zf;by_cases h : id <= s.id
   . rw [if_pos h];exact ⟨by simp,λ_=>by simp,Nat.le_refl _⟩
   . rw [if_neg h];obtain ⟨h1,h2,h3⟩:=ih (k:=k + 1);rw [List.length_cons];exact ⟨by omega,λh=>by have:=h2 h;omega,by omega⟩
theorem QC {id : Int} : ∀ {L : List Hel} {k : Nat},(ZM id L k).1 <= k + L.length /\ ((ZM id L k).2 = true -> (ZM id L k).1 < k + L.length) /\ k <= (ZM id L k).1:=by
 intro L;induction L with
 | nil=>intro k;exact ⟨Nat.le_refl _,(λh=>by cases h),Nat.le_refl _⟩
 | cons s t ih=>
   intro k;unfold ZM;by_cases h : id <= s.num
   . rw [if_pos h];exact ⟨by simp,λ_=>by simp,Nat.le_refl _⟩
   . rw [if_neg h];obtain ⟨h1,h2,h3⟩:=ih (k:=k + 1);rw [List.length_cons];exact ⟨by omega,λh=>by have:=h2 h;omega,by omega⟩
theorem qf {α : Type} {k : Nat} {x : α} {L : List α} (h : k <= L.length) : (Zn k x L).length = L.length + 1:=by
 unfold Zn;rw [List.length_append,List.length_cons,List.length_take,List.length_drop];omega
theorem Yb {α : Type} [Inhabited α] {k : Nat} {x : α} {L : List α} {i : Nat} (hk : k <= L.length) (h : i < k) : (Zn k x L).getD i default = L.getD i default:=by
 unfold Zn;rw [List.getD_eq_getElem?_getD,List.getD_eq_getElem?_getD,List.getElem?_append_left (by rw [List.length_take];omega),List.getElem?_take,if_pos h]
theorem QD {α : Type} [Inhabited α] {k : Nat} {x : α} {L : List α} (hk : k <= L.length) : (Zn k x L).getD k default = x:=by
 unfold Zn;rw [List.getD_eq_getElem?_getD,List.getElem?_append_right (by rw [List.length_take];omega),List.length_take,show k - min k L.length = 0 by omega];rfl
theorem Yc {α : Type} [Inhabited α] {k : Nat} {x : α} {L : List α} {i : Nat} (hk : k <= L.length) (h : k < i) : (Zn k x L).getD i default = L.getD (i - 1) default:=by
 unfold Zn;rw [List.getD_eq_getElem?_getD,List.getD_eq_getElem?_getD,List.getElem?_append_right (by rw [List.length_take];omega),List.length_take,show i - min k L.length = (i - k - 1) + 1 by omega,List.getElem?_cons_succ,List.getElem?_drop];congr 2
 omega
theorem QI {mn : Int} : ∀ {L : List Hel} {last : Int},ZY mn last L = true -> ∀ h ∈ L,last < h.num /\ h.num < mn + 32 /\ h.num < 1073741824 /\ h.data.length <= 64 /\ ZN h.tm = true /\ ZD h.til = true:=by
 intro L;induction L with
 | nil=>intro last _ h hh;cases hh
 | cons a t ih=>
   intro last h x hx;unfold ZY at h;simp only [Bool.and_eq_true,decide_eq_true_eq] at h;obtain ⟨⟨⟨⟨⟨⟨h1,h2⟩,h3⟩,h4⟩,h5⟩,h6⟩,h7⟩:=h;rcases List.mem_cons.1 hx with rfl | hx
   . exact ⟨h1,h2,h3,h4,h5,h6⟩
   . obtain ⟨g1,g⟩:=ih h7 x hx;exact ⟨by omega,g⟩
structure SdOk (s : Sed) : Prop where
 mn : 0 <= s.mn /\ s.mn <= 1073741824
 n : s.held.length <= 32
 h : ZY s.mn (s.mn - 1) s.held = true
theorem sd_ok {s : Sed} (h : qb s = true) : SdOk s:=by
 unfold qb at h;simp only [Bool.and_eq_true,decide_eq_true_eq] at h;obtain ⟨⟨⟨h1,h2⟩,h3⟩,h4⟩:=h;exact ⟨⟨h1,h2⟩,h3,h4⟩
theorem vs_mem : ∀ {L : List Sed} {last : Int},qE last L = true -> ∀ x ∈ L,last < x.id /\ SdOk x:=by
 intro L;induction L with
 | nil=>intro last _ h hh;cases hh
 | cons a t ih=>
   intro last h x hx;unfold qE at h;simp only [Bool.and_eq_true,decide_eq_true_eq] at h;obtain ⟨⟨h1,h2⟩,h3⟩:=h;rcases List.mem_cons.1 hx with rfl | hx
   . exact ⟨h1,sd_ok h2⟩
   . obtain ⟨g1,g⟩:=ih h3 x hx;exact ⟨by omega,g⟩
theorem Zv {L : List Sed} (h : ZA L = true) : L.length <= 8:=by
 unfold ZA at h;simp only [Bool.and_eq_true,decide_eq_true_eq] at h;exact h.1
theorem qq {L : List Sed} (h : ZA L = true) : ∀ x ∈ L,0 < x.id /\ SdOk x:=by
 unfold ZA at h;simp only [Bool.and_eq_true,decide_eq_true_eq] at h;exact vs_mem h.2
theorem SdOk.k {s : Sed} (h : SdOk s) : KpI s.held:=⟨by have:=h.n;omega,λx hx=>by have:=(QI h.h x hx).2.2.2.1;omega⟩
theorem vl_cl {L : List Sed} (h : ZA L = true) : ClI L:=⟨by have:=Zv h;omega,λx hx=>(qq h x hx).2.k⟩
theorem QE (n : Nat) : Nat.beq n n = true:=Nat.beq_refl n
theorem YD {c : Wc} {n a m : Nat} {r zf zz : Nat -> Nat -> CV} {e : Nat -> CV} {W : CV} {p j : Nat} (ha : a <= n) (hm : m = n - a) (hp : p < n + 1)
 (h1 : p < a -> Zu c (r p j) W) (h2 : p = a -> Zu c (e j) W) (h3 : a < p -> Zu c (r (p - 1) j) W) :
 Zu c (zBW false (ovE (λk j=>Zp (Nat.blt k n) (r k j) (zf k j)) (0 + (a + 1)) m (λk j=>Zp (Nat.blt (0 + a + k) n) (r (0 + a + k) j) (zz k j))) (0 + a) e p j) W:=by
 subst hm;show Zu c (Zp (Nat.beq p (0 + a)) (e j) (ovE _ _ _ _ p j)) W;rw [Nat.zero_add];by_cases hpa : p = a
 . subst hpa;exact ZU (QE _) (h2 rfl)
 . refine Zd (zAz hpa) ?_;by_cases hlt : p < a
   . rw [zEu (by omega)];exact ZU (Nat.ble_eq_true_of_le (by omega)) (h1 hlt)
   . rw [ovE_in (by omega)];have e1 : a + (p - (0 + (a + 1))) = p - 1:=by omega
     show Zu c (Zp (Nat.blt (a + (p - (0 + (a + 1)))) n) (r (a + (p - (0 + (a + 1)))) j) _) W;rw [e1];exact ZU (Nat.ble_eq_true_of_le (by omega)) (h3 (by omega))
def Zc : Nat -> Code -> Code
 | 0,c=>c
 | k + 1,.seq _ b=>Zc k b
 | _ + 1,c=>c
def LMr : CsL:=(56,some keepE) :: []
theorem LMr_ok : qV Try.prog LMr:=⟨zDT,trivial⟩
def raiseE : Zk:=inlE T (qH LMr) 1 Try.f37.ntmps Try.f37.results.toList (Try.f37.body.getD Code.ret)
theorem raiseE_ok : EntOk Try.prog 37 raiseE:=inlE_ok (by decide) zN (zb LMr_ok) (zV LMr_ok) zP Try.func37 rfl rfl
def qY (g : Nat) : CsL:=(31,some zEh) :: (32,some zC5) :: (33,some mfindE) :: (34,some (cloneE g)) :: (35,some mplaceE) :: (37,some raiseE) :: LTk
theorem zY (g : Nat) : qV Try.prog (qY g):=⟨zx ⟨_,Try.func31,rfl,by kernel_rfl⟩ λa h=>zCY a.1 h,zx ⟨_,Try.func32,rfl,by kernel_rfl⟩ λa _=>zCZ a.1,zx ⟨_,Try.func33,rfl,by kernel_rfl⟩ λa h=>zFH a.1 a.2.1 h,cloneE_ok g,zx ⟨_,Try.func35,rfl,by kernel_rfl⟩ λa h=>zD6 a.1 a.2.1 h,raiseE_ok,zCn⟩
end Go.Proofs.Ytfaibcgakcmhcaa.AX
namespace Go.Proofs.Ytfaibcgakcmhcaa.AX
theorem qX {α : Type} {x d : α} {l : List α} {i : Nat} : (x :: l).getD (i + 1) d = l.getD i d:=by simp [List.getD_eq_getElem?_getD]
theorem YF {last : Int} {a : Sed} {t : List Sed} : qE last (a :: t) = true ↔ last < a.id /\ qb a = true /\ qE a.id t = true:=by
 show (decide (last < a.id) && qb a && qE a.id t) = true ↔ _;simp only [Bool.and_eq_true,decide_eq_true_eq,and_assoc]
theorem fnd_mem : ∀ {L : List Sed} {last : Int} {k : Nat} {x : Sed},qE last L = true -> x ∈ L -> (Zf x.id L k).2 = true /\ L.getD ((Zf x.id L k).1 - k) default = x:=by
 intro L;induction L with
 | nil=>intro _ _ _ _ h;cases h
 | cons a t ih=>
   intro last k x hv hx;rw [YF] at hv;rcases List.mem_cons.1 hx with rfl | hx
   . unfold Zf;rw [if_pos (Int.le_refl _),Nat.sub_self];exact ⟨decide_eq_true rfl,rfl⟩
   . have h1:=vs_mem hv.2.2 x hx;unfold Zf;rw [if_neg (by have:=h1.1;omega)];obtain ⟨g1,g2⟩:=ih (k:=k + 1) hv.2.2 hx;refine ⟨g1,?_⟩;have:=(zAU (id:=x.id) (L:=t) (k:=k + 1)).2.2;rw [show (Zf x.id t (k + 1)).1 - k = ((Zf x.id t (k + 1)).1 - (k + 1)) + 1 by omega,qX];exact g2
theorem fnd_true : ∀ {L : List Sed} {k : Nat} {id : Int},(Zf id L k).2 = true -> (L.getD ((Zf id L k).1 - k) default).id = id /\ (Zf id L k).1 - k < L.length:=by
 intro L;induction L with
 | nil=>intro _ _ h;cases h
 | cons a t ih=>
   intro k id h;unfold Zf at h ⊢;by_cases hc : id <= a.id
   . rw [if_pos hc] at h ⊢;rw [Nat.sub_self];exact ⟨of_decide_eq_true h,by simp⟩
   . rw [if_neg hc] at h ⊢;have:=(zAU (id:=id) (L:=t) (k:=k + 1)).2.2;obtain ⟨g1,g2⟩:=ih h;rw [show (Zf id t (k + 1)).1 - k = ((Zf id t (k + 1)).1 - (k + 1)) + 1 by omega,qX,List.length_cons];exact ⟨g1,by omega⟩
theorem vs_ins : ∀ {L : List Sed} {last : Int} {k : Nat} {x : Sed},qE last L = true -> last < x.id -> qb x = true -> (Zf x.id L k).2 = false -> qE last (Zn ((Zf x.id L k).1 - k) x L) = true:=by
 intro L;induction L with
 | nil=>
   intro last k x _ hl hx _;show qE last (Zn (k - k) x []) = true;rw [Nat.sub_self];exact YF.2 ⟨hl,hx,rfl⟩
 | cons a t ih=>
   intro last k x hv hl hx hf;have hv':=YF.1 hv;unfold Zf at hf ⊢;by_cases hc : x.id <= a.id
   . rw [if_pos hc] at hf ⊢;have hne : ¬ a.id = x.id:=of_decide_eq_false hf;rw [Nat.sub_self];exact YF.2 ⟨hl,hx,YF.2 ⟨by omega,hv'.2⟩⟩
   . rw [if_neg hc] at hf ⊢;have:=(zAU (id:=x.id) (L:=t) (k:=k + 1)).2.2;rw [show (Zf x.id t (k + 1)).1 - k = ((Zf x.id t (k + 1)).1 - (k + 1)) + 1 by omega];exact YF.2 ⟨hv'.1,hv'.2.1,ih hv'.2.2 (by omega) hx hf⟩
theorem vs_set : ∀ {L : List Sed} {last : Int} {i : Nat} {x : Sed},qE last L = true -> i < L.length -> x.id = (L.getD i default).id -> qb x = true -> qE last (L.set i x) = true:=by
 intro L;induction L with
 | nil=>intro _ _ _ _ h;exact absurd h (Nat.not_lt_zero _)
 | cons a t ih=>
   intro last i x hv hi hid hx;have hv':=YF.1 hv;cases i with
   | zero=>
     have hid : x.id = a.id:=hid;exact YF.2 ⟨by omega,hx,by rw [hid];exact hv'.2.2⟩
   | succ i=>
     rw [qX] at hid;exact YF.2 ⟨hv'.1,hv'.2.1,ih hv'.2.2 (by simpa using hi) hid hx⟩
structure HelOk (mn : Int) (h : Hel) : Prop where
 w : h.num < mn + 32
 b : h.num < 1073741824
 d : h.data.length <= 64
 t : ZN h.tm = true
 u : ZD h.til = true
theorem Qj {mn last : Int} {a : Hel} {t : List Hel} : ZY mn last (a :: t) = true ↔ last < a.num /\ HelOk mn a /\ ZY mn a.num t = true:=by
 show (decide (last < a.num) && decide (a.num < mn + 32) && decide (a.num < 1073741824) && decide (a.data.length <= 64) && ZN a.tm && ZD a.til && ZY mn a.num t) = true ↔ _;simp only [Bool.and_eq_true,decide_eq_true_eq];constructor
 . rintro ⟨⟨⟨⟨⟨⟨h1,h2⟩,h3⟩,h4⟩,h5⟩,h6⟩,h7⟩;exact ⟨h1,⟨h2,h3,h4,h5,h6⟩,h7⟩
 . rintro ⟨h1,⟨h2,h3,h4,h5,h6⟩,h7⟩;exact ⟨⟨⟨⟨⟨⟨h1,h2⟩,h3⟩,h4⟩,h5⟩,h6⟩,h7⟩
theorem plc_mem {mn : Int} : ∀ {L : List Hel} {last : Int} {k : Nat} {x : Hel},ZY mn last L = true -> x ∈ L -> (ZM x.num L k).2 = true /\ L.getD ((ZM x.num L k).1 - k) default = x:=by
 intro L;induction L with
 | nil=>intro _ _ _ _ h;cases h
 | cons a t ih=>
   intro last k x hv hx;rw [Qj] at hv;rcases List.mem_cons.1 hx with rfl | hx
   . unfold ZM;rw [if_pos (Int.le_refl _),Nat.sub_self];exact ⟨decide_eq_true rfl,rfl⟩
   . have h1:=QI hv.2.2 x hx;unfold ZM;rw [if_neg (by have:=h1.1;omega)];obtain ⟨g1,g2⟩:=ih (k:=k + 1) hv.2.2 hx;refine ⟨g1,?_⟩;have:=(QC (id:=x.num) (L:=t) (k:=k + 1)).2.2;rw [show (ZM x.num t (k + 1)).1 - k = ((ZM x.num t (k + 1)).1 - (k + 1)) + 1 by omega,qX];exact g2
theorem zFG : ∀ {L : List Hel} {k : Nat} {id : Int},(ZM id L k).2 = true -> (L.getD ((ZM id L k).1 - k) default).num = id /\ (ZM id L k).1 - k < L.length:=by
 intro L;induction L with
 | nil=>intro _ _ h;cases h
 | cons a t ih=>
   intro k id h;unfold ZM at h ⊢;by_cases hc : id <= a.num
   . rw [if_pos hc] at h ⊢;rw [Nat.sub_self];exact ⟨of_decide_eq_true h,by simp⟩
   . rw [if_neg hc] at h ⊢;have:=(QC (id:=id) (L:=t) (k:=k + 1)).2.2;obtain ⟨g1,g2⟩:=ih h;rw [show (ZM id t (k + 1)).1 - k = ((ZM id t (k + 1)).1 - (k + 1)) + 1 by omega,qX,List.length_cons];exact ⟨g1,by omega⟩
theorem zw {α : Type} [Inhabited α] {L : List α} {i : Nat} (h : i < L.length) : L.getD i default ∈ L:=by
 rw [List.getD_eq_getElem?_getD,List.getElem?_eq_getElem h];exact List.getElem_mem h
theorem Qb {mn last num : Int} {L : List Hel} {f : Hel -> Bool} (hv : ZY mn last L = true) (h : (ZM num L 0).2 = false) : (ZM num (L.filter f) 0).2 = false:=by
 cases hc : (ZM num (L.filter f) 0).2 with
 | false=>rfl
 | true=>
   obtain ⟨g1,g2⟩:=zFG hc;have hm:=zw g2;have:=(plc_mem (k:=0) hv (List.mem_filter.1 hm).1).1;rw [g1,h] at this;cases this
theorem vh_ins {mn : Int} : ∀ {L : List Hel} {last : Int} {k : Nat} {x : Hel},ZY mn last L = true -> last < x.num -> HelOk mn x -> (ZM x.num L k).2 = false -> ZY mn last (Zn ((ZM x.num L k).1 - k) x L) = true:=by
 intro L;induction L with
 | nil=>
   intro last k x _ hl hx _;show ZY mn last (Zn (k - k) x []) = true;rw [Nat.sub_self];exact Qj.2 ⟨hl,hx,rfl⟩
 | cons a t ih=>
   intro last k x hv hl hx hf;have hv':=Qj.1 hv;unfold ZM at hf ⊢;by_cases hc : x.num <= a.num
   . rw [if_pos hc] at hf ⊢;have hne : ¬ a.num = x.num:=of_decide_eq_false hf;rw [Nat.sub_self];exact Qj.2 ⟨hl,hx,Qj.2 ⟨by omega,hv'.2⟩⟩
   . rw [if_neg hc] at hf ⊢;have:=(QC (id:=x.num) (L:=t) (k:=k + 1)).2.2;rw [show (ZM x.num t (k + 1)).1 - k = ((ZM x.num t (k + 1)).1 - (k + 1)) + 1 by omega];exact Qj.2 ⟨hv'.1,hv'.2.1,ih hv'.2.2 (by omega) hx hf⟩
theorem vh_set {mn : Int} : ∀ {L : List Hel} {last : Int} {i : Nat} {x : Hel},ZY mn last L = true -> i < L.length -> x.num = (L.getD i default).num -> HelOk mn x -> ZY mn last (L.set i x) = true:=by
 intro L;induction L with
 | nil=>intro _ _ _ _ h;exact absurd h (Nat.not_lt_zero _)
 | cons a t ih=>
   intro last i x hv hi hid hx;have hv':=Qj.1 hv;cases i with
   | zero=>
     have hid : x.num = a.num:=hid;exact Qj.2 ⟨by omega,hx,by rw [hid];exact hv'.2.2⟩
   | succ i=>
     rw [qX] at hid;exact Qj.2 ⟨hv'.1,hv'.2.1,ih hv'.2.2 (by simpa using hi) hid hx⟩
theorem vh_filter {mn l : Int} (hl : mn <= l) : ∀ {L : List Hel} {last last' : Int},ZY mn last L = true -> (last' <= last \/ last' < l) -> ZY l last' (L.filter (qU (some l))) = true:=by
 intro L;induction L with
 | nil=>intros;rfl
 | cons a t ih=>
   intro last last' hv hl';have hv':=Qj.1 hv;rw [List.filter_cons];by_cases hw : qU (some l) a = true
   . rw [if_pos hw];have hw' : l <= a.num:=of_decide_eq_true hw;exact Qj.2 ⟨by omega,⟨by have:=hv'.2.1.w;omega,hv'.2.1.b,hv'.2.1.d,hv'.2.1.t,hv'.2.1.u⟩,ih hv'.2.2 (.inl (Int.le_refl _))⟩
   . rw [if_neg hw];refine ih hv'.2.2 ?_;have hw' : ¬ l <= a.num:=λh=>hw (decide_eq_true h);omega
theorem sd_of {s : Sed} (h : SdOk s) : qb s = true:=by
 unfold qb;rw [decide_eq_true h.mn.1,decide_eq_true h.mn.2,decide_eq_true h.n,h.h];rfl
theorem YG {s : Sed} {l : Int} (h : SdOk s) (hl : l <= 1073741824) : SdOk (ze s l):=by
 unfold ze;split
 . exact h
 . rename_i hc;exact ⟨⟨by have:=h.mn;show 0 <= l;omega,hl⟩,Nat.le_trans (List.length_filter_le _ _) h.n,(show ZY l (l - 1) (s.held.filter (qU (some l))) = true from vh_filter (by omega) h.h (.inr (by omega)))⟩
theorem raise_mn {s : Sed} {l : Int} : l <= (ze s l).mn /\ s.mn <= (ze s l).mn:=by
 unfold ze;split
 . exact ⟨by assumption,Int.le_refl _⟩
 . exact ⟨Int.le_refl _,by dsimp only;omega⟩
theorem zDR {s : Sed} {l : Int} : (ze s l).id = s.id:=by
 unfold ze;split<;>rfl
theorem zF1 {t : Trk} (h : ZN t = true) : ZN (Qq t) = true:=by
 have hn:=qx h;obtain ⟨p1,p2⟩:=zAK h;unfold Qq;rw [if_pos h];split
 . exact zAw p1 p2 (by show 0 <= t.heard + 1 /\ t.heard + 1 <= _;omega) hn.2.2.2.2.1 hn.2.2.2.2.2
 . exact h
theorem QQ {s : Sed} (h : SdOk s) {x : Hel} (hx : x ∈ s.held) : HelOk s.mn x:=by
 obtain ⟨_,h1,h2,h3,h4,h5⟩:=QI h.h x hx;exact ⟨h1,h2,h3,h4,h5⟩
theorem hearS_ok {s : Sed} {i : Nat} (h : SdOk s) (hi : i < s.held.length) : SdOk (ZO s i):=by
 have hx:=QQ h (zw hi);exact ⟨h.mn,by show (s.held.set _ _).length <= 32;rw [List.length_set];exact h.n,vh_set h.h hi rfl ⟨hx.w,hx.b,hx.d,zF1 hx.t,hx.u⟩⟩
theorem vh_len {mn : Int} : ∀ {L : List Hel} {last : Int},ZY mn last L = true -> (L.length : Int) <= mn + 32 - last - 1 \/ L = []:=by
 intro L;induction L with
 | nil=>intro _ _;exact .inr rfl
 | cons a t ih=>
   intro last hv;have hv':=Qj.1 hv;have hw:=hv'.2.1.w;left;rw [List.length_cons];rcases ih hv'.2.2 with h | h
   . omega
   . subst h;show ((0 + 1 : Nat) : Int) <= _;omega
theorem add_ok35 {s : Sed} {c : Cas} {now draw : Int} (h : SdOk s) (hn : 0 <= now /\ now <= 1099511627776) (hd : c.data.length <= 64) (h1 : s.mn <= c.num) (h2 : c.num < s.mn + 32) (h3 : c.num < 1073741824) (hf : (ZM c.num s.held 0).2 = false) : SdOk (qO s (ZP c now draw) (ZM c.num s.held 0).1):=by
 have hx : HelOk s.mn (ZP c now draw):=⟨h2,h3,hd,zEW rfl hn,Zi.2 (by unfold ZP;dsimp only;split<;>omega)⟩;have hv : ZY s.mn (s.mn - 1) (Zn (ZM c.num s.held 0).1 (ZP c now draw) s.held) = true:=vh_ins (k:=0) (x:=ZP c now draw) h.h (by show s.mn - 1 < c.num;omega) hx hf;refine ⟨h.mn,?_,hv⟩;show (Zn _ _ s.held).length <= 32;rcases vh_len hv with g | g
 . omega
 . rw [g];exact Nat.zero_le _
structure AccV (s s' : Sed) : Prop where
 id : s'.id = s.id
 ok : SdOk s'
theorem acc_ok {s : Sed} {now : Int} {c : Cas} {deaf : Bool} {draw : Int} (h : SdOk s) (hn : 0 <= now /\ now <= 1099511627776) (hd : c.data.length <= 64) (h3 : c.num < 1073741824) : AccV s (ZX s now c deaf draw).1:=by
 unfold ZX;split
 . exact ⟨rfl,h⟩
 . rename_i hm;split
   . rename_i hp;exact ⟨rfl,hearS_ok h (zFG hp).2⟩
   . rename_i hp;have hr:=YG (l:=c.num - 31) h (by omega);split
     . exact ⟨by rw [zDR,zDR],YG hr (by omega)⟩
     . refine ⟨zDR,add_ok35 hr hn hd ?_ ?_ h3 ?_⟩
       . unfold ze;split
         . omega
         . dsimp only;omega
       . have:=(raise_mn (s:=s) (l:=c.num - 31)).1;omega
       . unfold ze;split
         . simpa using hp
         . exact Qb h.h (by simpa using hp)
theorem zEg {L : List Sed} {c : Cas} (hv : ZA L = true) (hc0 : 0 < c.id) (hn : 0 <= c.num /\ c.num <= 1073741824) (hl : (Zf c.id L 0).2 = true \/ L.length < 8) : ZA (Qn c L) = true /\ (Zf c.id L 0).1 < (Qn c L).length /\ ((Qn c L).getD (Zf c.id L 0).1 default).id = c.id:=by
 have hle:=zAU (id:=c.id) (L:=L) (k:=0);unfold Qn;split
 . rename_i h;exact ⟨hv,by have:=hle.2.1 h;omega,(fnd_true h).1⟩
 . rename_i h;have h8 : L.length < 8:=hl.resolve_left h;unfold ZA at hv ⊢;simp only [Bool.and_eq_true,decide_eq_true_eq] at hv ⊢;refine ⟨⟨by rw [qf (by omega)];omega,?_⟩,by rw [qf (by omega)];omega,by rw [QD (by omega)]⟩;exact vs_ins (k:=0) (x:=⟨c.id,c.num,[]⟩) hv.2 hc0 (sd_of ⟨hn,Nat.zero_le _,rfl⟩) (by simpa using h)
theorem zBy {L : List Sed} {now : Int} {c : Cas} {deaf : Bool} {draw : Int} (hid : 0 <= c.id) (h : (qD L now c deaf draw).2.2 = 0) : ZA (qD L now c deaf draw).1 = true:=by
 unfold qD at h ⊢;split at h
 . cases h
 . rename_i h1;rw [if_neg h1];split at h
   . cases h
   . rename_i h2;rw [if_neg h2];split at h
     . cases h
     . rename_i h3;rw [if_neg h3];have hv : ZA L = true:=by
        cases hh : ZA L with
        | true=>rfl
        | false=>exact absurd (.inl hh) h1
       have ht : ZD now = true:=by
        cases hh : ZD now with
        | true=>rfl
        | false=>exact absurd (.inl hh) h2
       have hl : (Zf c.id L 0).2 = true \/ L.length < 8:=by
        cases hh : (Zf c.id L 0).2 with
        | true=>exact .inl rfl
        | false=>exact .inr (by rcases Nat.lt_or_ge L.length 8 with g | g;exact g;exact absurd ⟨hh,g⟩ h3)
       obtain ⟨g1,g2,g3⟩:=zEg (c:=c) hv (by omega) (by omega) hl;have hs:=qq g1 _ (zw g2);obtain ⟨a1,a2⟩:=acc_ok (now:=now) (c:=c) (deaf:=deaf) (draw:=draw) hs.2 (Zi.1 ht) (by omega) (by omega);unfold ZA at g1 ⊢;simp only [Bool.and_eq_true,decide_eq_true_eq] at g1 ⊢;exact ⟨by rw [List.length_set];exact g1.1,vs_set g1.2 g2 a1 (sd_of a2)⟩
theorem zCw {L : List Sed} (h : ZA L = true) : qE 0 L = true:=by
 unfold ZA at h;simp only [Bool.and_eq_true,decide_eq_true_eq] at h;exact h.2
structure DfI (l : List Sed) (H : List (Int × Int)) : Prop where
 v : ZA l = true
 e : ∀ x ∈ l,(1 <= x.id /\ x.id <= 3) /\ x.held = []
 h : ∀ p ∈ H,((1 <= p.1 /\ p.1 <= 3) /\ 0 <= p.2 /\ p.2 < 40) /\ ∃ x ∈ l,x.id = p.1 /\ p.2 < x.mn
def lastF (now : Int) : List Hel -> Int -> Int
 | [],l=>l
 | h :: t,l=>lastF now t (if h.til <= now then h.num + 1 else l)
def clsS (now : Int) (s : Sed) : Sed:=ze s (lastF now s.held s.mn)
def zAo (id now draw : Int) : List Hel -> Nat -> List Hel × List Cas
 | [],_=>([],[])
 | h :: t,b=>
   if h.tm.start <= now then
    ({ h with tm:=(Qr h.tm now (IntKind.u32.wrap (draw + (b : Int)))).1 } :: (zAo id now draw t (b + 1)).1,
     if (Qr h.tm now (IntKind.u32.wrap (draw + (b : Int)))).2.1 = true then ⟨id,h.num,h.data⟩ :: (zAo id now draw t (b + 1)).2 else (zAo id now draw t (b + 1)).2)
   else (h :: (zAo id now draw t (b + 1)).1,(zAo id now draw t (b + 1)).2)
def runL (now draw : Int) : List Sed -> Nat -> List Sed × List Cas
 | [],_=>([],[])
 | s :: t,b=>({ s with held:=(zAo s.id now draw s.held b).1 } :: (runL now draw t (b + s.held.length)).1,(zAo s.id now draw s.held b).2 ++ (runL now draw t (b + s.held.length)).2)
theorem vs_map {f : Sed -> Sed} (hid : ∀ s,(f s).id = s.id) (hok : ∀ s,SdOk s -> SdOk (f s)) : ∀ {L : List Sed} {last : Int},qE last L = true -> qE last (L.map f) = true:=by
 intro L;induction L with
 | nil=>intro _ _;rfl
 | cons a t ih=>
   intro last hv;have hv':=YF.1 hv;exact YF.2 ⟨by rw [hid];exact hv'.1,sd_of (hok a (sd_ok hv'.2.1)),by rw [hid];exact ih hv'.2.2⟩
def hasS (s : Sed) (n : Int) : Prop:=n < s.mn \/ n ∈ s.held.map Hel.num
structure OnI (l : List Sed) (G : Nat -> Bool) : Prop where
 v : ZA l = true
 r : ∀ x ∈ l,1 <= x.id /\ x.id <= 5
 g : ∀ i n : Nat,i <= 5 -> n < 64 -> G (i * 64 + n) = true -> ∃ x ∈ l,x.id = (i : Int) /\ hasS x (n : Int)
end Go.Proofs.Ytfaibcgakcmhcaa.AX
namespace Go.Proofs.Ytfaibcgakcmhcaa.AX
open Go.RowKit
def SA (L : List Sed) (g : Nat) (now : Int) (c : Cas) (deaf : Bool) (draw : Int) (_ : Unit) : Hd:=
 ⟨[(1,zL (.int .i64 now)),(3,zL (.bool deaf)),(4,zL (.int .u32 draw)),(7,zL (.ptr 0 0 0 false)),(13,zL (.int .i64 (g : Int))),(15,zL (.os 1 0 L.length))],
  [(0,some ⟨32,1,3,true,λ_=>qo.cell c⟩),(1,some (entG 2 g L.length L)),(2,some (Zj zm 85 (L.getD g default).held))],3⟩
def Zz (R : List Sed × Bool × Int) : Option (List EV):=some [.c (.bool R.2.1),.c (.int .i64 R.2.2)]
theorem qc {R : List Sed × Bool × Int} {k : Int} {H : Hp} (h : R = ([],false,k)) : FinN (some R.1.length) (Zz R) (Zj ZB 78 R.1) (.tup [.c .nils,.c (.bool false),.c (.int .i64 k)]) H:=by
 subst h;exact ⟨none,ZZ ⟨Zh rfl,zW rfl,zC rfl,trivial⟩,⟨rfl,rfl,Nat.le_of_ble_eq_true rfl⟩⟩
structure AcI (L : List Sed) (a : Nat) (now : Int) (c : Cas) (draw : Int) : Prop where
 lt : a < L.length
 n : L.length <= 9
 k : KpI (L.getD a default).held
 h : (L.getD a default).held.length <= 32
 mn : 0 <= (L.getD a default).mn /\ (L.getD a default).mn <= 1073741824
 num : 0 <= c.num /\ c.num < 1073741824
 d : c.data.length <= 64
 now : 0 <= now /\ now <= 1099511627776
 dr : ZS draw
theorem zg {L : List Sed} {a p : Nat} {s : Sed} (h : p ≠ a) : (L.set a s).getD p default = L.getD p default:=by
 rw [List.getD_eq_getElem?_getD,List.getD_eq_getElem?_getD,List.getElem?_set,if_neg (Ne.symm h)]
theorem Qw {L : List Sed} {a : Nat} {s : Sed} (h : a < L.length) : (L.set a s).getD a default = s:=by
 rw [List.getD_eq_getElem?_getD,List.getElem?_set,if_pos rfl,if_pos h];rfl
def QO (d : Nat) (s : Sed) (a : Nat) (L : List Sed) (k j : Nat) : CV:=bif Nat.beq k a then (bif Nat.beq j 2 then .os d 0 s.held.length else sedC s j) else zo ZB L k j
theorem zAL {d a j : Nat} {s : Sed} {L : List Sed} : QO d s a L a j = bif Nat.beq j 2 then .os d 0 s.held.length else sedC s j:=by unfold QO;rw [QE];rfl
theorem zc {d a k j : Nat} {s : Sed} {L : List Sed} (h : k ≠ a) : QO d s a L k j = zo ZB L k j:=by unfold QO;rw [zAz h];rfl
theorem zBD {d a n : Nat} {L : List Sed} : entG d a n L = ⟨78,n,3,false,QO d (L.getD a default) a L⟩:=by
 unfold entG;congr 1
 funext k j
 by_cases hk : k = a
 . subst hk;rw [zAL];unfold zBs;rw [QE,Bool.and_true];rfl
 . rw [zc hk,Yd (.inl hk)]
def SB (L : List Sed) (a : Nat) (s : Sed) (now : Int) (c : Cas) (deaf : Bool) (draw : Int) (_ : Unit) : Hd:=
 ⟨[(1,zL (.int .i64 now)),(3,zL (.bool deaf)),(4,zL (.int .u32 draw)),(7,zL (.ptr 0 0 0 false)),(15,zL (.os 1 0 L.length)),(16,zL (.ptr 1 a 0 false))],
  [(0,some ⟨32,1,3,true,λ_=>qo.cell c⟩),(1,some ⟨78,L.length,3,false,QO 2 s a L⟩),(2,some (Zj zm 85 s.held))],3⟩
theorem row_set {c : Wc} {L : List Sed} {a p j : Nat} {s : Sed} {x : CV} (ha : a < L.length) (hj : j < 3) (hne : p ≠ a -> x = zo ZB L p j) (h : p = a -> Zu c x (ZB.cell s j)) : Zu c x (zo ZB (L.set a s) p j):=by
 by_cases hp : p = a
 . subst hp;have e : zo ZB (L.set p s) p j = ZB.cell s j:=congrArg (λz=>ZB.cell z j) (Qw ha);rw [e];exact h rfl
 . rw [hne hp];have e : zo ZB (L.set a s) p j = zo ZB L p j:=congrArg (λz=>ZB.cell z j) (zg hp);rw [e];exact (ZB.sh _ j hj).le
theorem ZJ {f : Nat -> Nat -> CV} {i p j : Nat} {g : Nat -> CV} (h : p ≠ i) : zBW false f i g p j = f p j:=by
 show Zp (Nat.beq p i) (g j) (f p j) = f p j;rw [QS,zAz h];rfl
theorem zT {α : Type} [Inhabited α] {E : NElem α} (hE : ∀ a,E.rd (E.cell a) = a) (l : List α) : Ys E l.length (λk j=>zo E l (0 + k) j) = l:=by
 have e : (λk j=>zo E l (0 + k) j) = zo E l:=by funext k j;rw [Nat.zero_add]
 rw [e];exact zr hE l
theorem qj {s F : Nat × Bool} {id : Int} {M L : List Hel} (hs : s = ZM id M 0) (h : M = L) (hF : ZM id L 0 = F) : F = s:=by rw [hs,h,hF]
theorem zAM {s : Trk} {k i : Nat} {l : List Hel} (hs : s = Qq (eTk.rd λq=>zo zm l k (0 + 2 + q))) (h : k = i) : s = Qq (l.getD i default).tm:=by subst h;exact hs
theorem Zm {c : Wc} {d d' a k j : Nat} {s : Sed} {L : List Sed} (hj : j < 3) (h : c.src d' = some d) : Zu c (QO d s a L k j) (QO d' s a L k j):=by
 by_cases hk : k = a
 . subst hk;rw [zAL,zAL];rcases j with _ | _ | _ | j
   . exact zC rfl
   . exact zC rfl
   . exact zH h rfl
   . omega
 . rw [zc hk,zc hk];exact (ZB.sh _ j hj).le
theorem zAN {c : Wc} {d a k j : Nat} {s : Sed} {L : List Sed} {x : CV} (hj : j < 3) (hne : k ≠ a -> x = zo ZB L k j) (h : k = a -> Zu c x (bif Nat.beq j 2 then .os d 0 s.held.length else sedC s j)) : Zu c x (QO d s a L k j):=by
 by_cases hk : k = a
 . subst hk;rw [zAL];exact h rfl
 . rw [zc hk,hne hk];exact (ZB.sh _ j hj).le
theorem zAO {c : Wc} {l : List Hel} {t : Trk} {i q j : Nat} (hi : i < l.length) (hj : j < 11) : Zu c (zBW false (zo zm l) (0 + i) (ovw false zm.sz (zo zm l (0 + i)) (0 + 2) eTk.sz (eTk.cell t)) q j) (zo zm (l.set i { l.getD i default with tm:=t }) q j):=by
 rw [Nat.zero_add];by_cases hq : q = i
 . subst hq;have e : zo zm (l.set q { l.getD q default with tm:=t }) q j = zm.cell { l.getD q default with tm:=t } j:=congrArg (λz=>zm.cell z j) (by rw [List.getD_eq_getElem?_getD,List.getElem?_set,if_pos rfl,if_pos hi];rfl);rw [e];refine ZU (QE _) ?_;iterate 11 (rcases j with _ | j;· first | exact zC rfl | exact zW rfl | exact (zm.sh _ 1 (by decide)).le)
   exact absurd hj (by omega)
 . have e : zo zm (l.set i { l.getD i default with tm:=t }) q j = zo zm l q j:=congrArg (λz=>zm.cell z j) (by simp only [List.getD_eq_getElem?_getD];rw [List.getElem?_set,if_neg (Ne.symm hq)]);rw [e,ZJ hq];exact (zm.sh _ j hj).le
theorem ZC {H : Hp} {L : List Sed} {a k d : Nat} {s : Sed} {b : Bool} {R : List Sed × Bool × Int} (hR : R = (L.set a s,b,0)) (ha : a < L.length) {f : Nat -> Nat -> CV} (hk : zX H k = some ⟨78,L.length,3,false,f⟩) (hne : ∀ p,p ≠ a -> ∀ j,f p j = zo ZB L p j)
 (h0 : f a 0 = .int .u64 s.id) (h1 : f a 1 = .int .i64 s.mn) (h2 : f a 2 = .os d 0 s.held.length) {e : Ent} (hd : zX H d = some e) (hdk : Nat.beq d k = false) (en : e.n = s.held.length) (ez : e.sz = 11)
 (hc : ∀ q,q < s.held.length -> ∀ j,j < 11 -> Zu ⟨H,[(0,some (Zj ZB 78 R.1))],[(0,some k)],1,true⟩ (e.f q j) (zo zm s.held q j)) :
 FinN (some R.1.length) (Zz R) (Zj ZB 78 R.1) (.tup [.c (.os k 0 L.length),.c (.bool b),.c (.int .i64 0)]) H:=by
 subst hR;refine ⟨some k,ZZ ⟨zH rfl (List.length_set).symm,zW rfl,zC rfl,trivial⟩,?_⟩;unfold WkE;simp only;rw [hk];refine ⟨rfl,(List.length_set).symm,rfl,rfl,λp hp j hj=>?_⟩;have hj : j < 3:=hj;refine row_set ha hj (λh=>hne p h j) λh=>?_;subst h;rcases j with _ | _ | _ | j
 . show Zu _ (f p 0) _;rw [h0];exact zC rfl
 . show Zu _ (f p 1) _;rw [h1];exact zC rfl
 . show Zu _ (f p 2) _;rw [h2];refine ZQ hd ?_ ez rfl (by omega) λq hq j hj=>?_
   . show (!(Nat.beq d k || false)) = true;rw [hdk];rfl
   . have e1 : 0 + q = q:=Nat.zero_add q;rw [e1];exact hc q hq j hj
 . omega
theorem zAP {s : Sed} {l : Int} (h : KpI s.held) : KpI (ze s l).held:=by
 unfold ze;split
 . exact h
 . exact ⟨Nat.le_trans (List.length_filter_le _ _) h.n,λx hx=>h.d x (List.mem_filter.1 hx).1⟩
theorem zAQ {s : Sed} {l : Int} {n : Nat} (h : s.held.length <= n) : (ze s l).held.length <= n:=by
 unfold ze;split
 . exact h
 . exact Nat.le_trans (List.length_filter_le _ _) h
def YC (s : Smy) (n : Int) : Bool:=decide (0 <= n - s.mn) && (decide (n - s.mn < 32) && decide (bits .and .u32 (shrI .u32 s.bits (n - s.mn)) 1 = 1))
structure HsI (s : Smy) (n : Int) : Prop where
 m : 0 <= s.mn /\ s.mn <= 1073741824
 n : 0 <= n /\ n <= 4611686018427387904
theorem has_ok (s : Smy) (n : Int) (h : HsI s n) : Ze Try.prog 52 [(cE zu).enc s,(cI .i64).enc n] (cB.enc (YC s n)):=by
 obtain ⟨⟨m1,m2⟩,n1,n2⟩:=h;obtain ⟨d,hd⟩ : ∃ d,n - s.mn = d:=⟨_,rfl⟩;obtain ⟨R,hR⟩ : ∃ R,YC s n = R:=⟨_,rfl⟩;have a1 : ¬ 0 <= d -> false = R:=λg=>by rw [<- hR];unfold YC;rw [hd,decide_eq_false g];rfl
 have a2 : ¬ d < 32 -> false = R:=λg=>by rw [<- hR];unfold YC;rw [hd,decide_eq_false g,Bool.false_and,Bool.and_false]
 have a3 : 0 <= d -> d < 32 -> decide (bits .and .u32 (shrI .u32 s.bits d) 1 = 1) = R:=λg g'=>by rw [<- hR];unfold YC;rw [hd,decide_eq_true g,decide_eq_true g',Bool.true_and,Bool.true_and]
 rw [hR];have w0 : IntKind.i64.wrap (n - s.mn) = d:=by rw [hd];exact IntWalk.i64_in _ (by omega)
 refine zt (wd:=1) (by decide) zN (zb qC) zP Try.func52 rfl _ (by show 2 <= _;decide) _ ?_;by_cases g0 : 0 <= d
 . by_cases g1 : d < 32
   . have a3:=a3 g0 g1;clear a1 a2;repeat' (first | (simp only [w0]) | (apply And.intro<;>intro hc<;>(first | exact Bool.noConfusion hc | (exfalso;first | exact absurd rfl hc | omega) | (simp only [zl] at hc<;>first | exact absurd rfl hc | (exfalso;first | exact absurd rfl hc | omega) | skip) | skip)) | (refine And.intro zj ?_) | (apply And.intro) | (intro s hs;skip))
     exact Done.mk (zG a3)
   . have a2:=a2 g1;clear a1 a3;repeat' (first | (simp only [w0]) | (apply And.intro<;>intro hc<;>(first | exact Bool.noConfusion hc | (exfalso;first | exact absurd rfl hc | omega) | (simp only [zl] at hc<;>first | exact absurd rfl hc | (exfalso;first | exact absurd rfl hc | omega) | skip) | skip)) | (refine And.intro zj ?_) | (apply And.intro) | (intro s hs;skip))
     exact Done.mk (zG a2)
 . have a1:=a1 g0;clear a2 a3;repeat' (first | (simp only [w0]) | (apply And.intro<;>intro hc<;>(first | exact Bool.noConfusion hc | (exfalso;first | exact absurd rfl hc | omega) | (simp only [zl] at hc<;>first | exact absurd rfl hc | (exfalso;first | exact absurd rfl hc | omega) | skip) | skip)) | (refine And.intro zj ?_) | (apply And.intro) | (intro s hs;skip))
   exact Done.mk (zG a1)
def QN : Int -> List Smy -> Bool
 | _,[]=>true
 | last,s :: t=>decide (last < s.id) && decide (0 <= s.mn) && decide (s.mn <= 1073741824) && QN s.id t
def ZR (l : List Smy) : Bool:=decide (l.length <= 8) && QN 0 l
theorem vy_step {last : Int} {L : List Smy} {i : Nat} {V : Bool} (hi : i < L.length) (hV : QN last (L.drop i) = V) : V = (decide (last < (L.getD i default).id) && decide (0 <= (L.getD i default).mn) && decide ((L.getD i default).mn <= 1073741824) && QN (L.getD i default).id (L.drop (i + 1))):=by
 rw [<- hV,qL hi];rfl
theorem vsms_ok (L : List Smy) (hn : L.length <= 9223372036854775807) : Ze Try.prog 51 [(cSl zu zAV).enc L] (cB.enc (ZR L)):=by
 unfold ZR;obtain ⟨V,hV⟩ : ∃ V,QN 0 L = V:=⟨_,rfl⟩;rw [hV];refine zt (wd:=1) (by decide) zN (zb qC) zP Try.func51 rfl _ (by show 1 <= _;decide) _ ?_;repeat' (first | (apply And.intro<;>intro hc<;>(first | exact Bool.noConfusion hc | (exfalso;first | exact absurd rfl hc | omega) | (simp only [zl] at hc<;>first | exact absurd rfl hc | (exfalso;first | exact absurd rfl hc | omega) | skip) | skip)) | (refine And.intro zj ?_) | (apply And.intro) | (intro s hs;skip))
 . refine Done.mk (zG ?_);rw [decide_eq_false (p:=L.length <= 8) (by omega)];rfl
 have hl8 : L.length <= 8:=by omega
 rw [decide_eq_true (p:=L.length <= 8) hl8,Bool.true_and];conv=>whnf
 refine zU (zV qC) (λs : {p : Nat × Int // p.1 <= L.length /\ QN p.2 (L.drop p.1) = V}=>(⟨[(3,zL (.int .u64 s.1.2)),(9,zL (Qy zu L)),(10,zL (.int .i64 (L.length : Int))),(11,zL (.int .i64 (s.1.1 : Int)))],[],1⟩ : Hd)) (λs=>L.length - s.1.1) (λ_=>rfl) ?_ ⟨(0,0),Nat.zero_le _,hV⟩ [] ⟨rfl,⟨zB rfl,zM (zO zu L),zB rfl,zB rfl,trivial⟩,trivial⟩;rintro ⟨⟨i,last⟩,hi,hVi⟩;dsimp only at hi hVi ⊢;unfold Qy;by_cases hil : i < L.length
 . have hst:=vy_step hil hVi;have w3 : IntKind.i64.wrap ((i : Int) + 1) = ((i + 1 : Nat) : Int):=(IntWalk.i64_in _ (by omega)).trans (by omega);have n1 : ¬ last < (L.getD ((i : Int).toNat) default).id -> false = V:=λg=>by rw [hst,decide_eq_false (p:=last < (L.getD i default).id) g];simp
   have n2 : ¬ 0 <= (L.getD ((i : Int).toNat) default).mn -> false = V:=λg=>by rw [hst,decide_eq_false (p:=0 <= (L.getD i default).mn) g];simp
   have n3 : ¬ (L.getD ((i : Int).toNat) default).mn <= 1073741824 -> false = V:=λg=>by rw [hst,decide_eq_false (p:=(L.getD i default).mn <= 1073741824) g];simp
   have ny : last < (L.getD ((i : Int).toNat) default).id -> 0 <= (L.getD ((i : Int).toNat) default).mn -> (L.getD ((i : Int).toNat) default).mn <= 1073741824 -> QN (L.getD ((i : Int).toNat) default).id (L.drop (i + 1)) = V:=λg1 g2 g3=>by
    rw [hst,decide_eq_true (p:=last < (L.getD i default).id) g1,decide_eq_true (p:=0 <= (L.getD i default).mn) g2,decide_eq_true (p:=(L.getD i default).mn <= 1073741824) g3];simp
   clear hst;repeat' (first | (apply And.intro<;>intro hc<;>(first | exact Bool.noConfusion hc | (exfalso;first | exact absurd rfl hc | omega) | (simp only [zl] at hc<;>first | exact absurd rfl hc | (exfalso;first | exact absurd rfl hc | omega) | skip) | skip)) | (refine And.intro zj ?_) | (apply And.intro) | (intro s hs;skip))
   . exact Done.mk (zG (n1 (by omega)))
   . exact Done.mk (zG (n2 (by omega)))
   . exact Done.mk (zG (n3 (by omega)))
   . refine ⟨⟨(i + 1,(L.getD ((i : Int).toNat) default).id),by dsimp only;omega,ny (by omega) (by omega) (by omega)⟩,[],by dsimp only;omega,rfl,⟨zB rfl,zM (zO zu L),zB rfl,zB w3,trivial⟩,trivial⟩
 . have hVt : V = true:=by rw [<- hVi,List.drop_of_length_le (by omega)];rfl
   rw [hVt];repeat' (first | (apply And.intro<;>intro hc<;>(first | exact Bool.noConfusion hc | (exfalso;first | exact absurd rfl hc | omega) | (simp only [zl] at hc<;>first | exact absurd rfl hc | (exfalso;first | exact absurd rfl hc | omega) | skip) | skip)) | (refine And.intro zj ?_) | (apply And.intro) | (intro s hs;skip))
   exact Done.mk (zG rfl)
abbrev hasE : Zk:=qr (AC.cons (cE zu) (AC.cons (cI .i64) AC.nil)) (λa=>HsI a.1 a.2.1) (λa=>YC a.1 a.2.1) cB.enc
abbrev vsmsE : Zk:=qr (AC.cons (cSl zu zAV) AC.nil) (λa=>a.1.length <= 9223372036854775807) (λa=>ZR a.1) cB.enc
def zAH (s : Smy) (x : Sed) : Nat -> Nat -> Bool
 | 0,_=>false
 | m + 1,i=>if YC s (s.mn + i) = false \/ s.mn + i < x.mn then zAH s x m (i + 1) else if (ZM (s.mn + i) x.held 0).2 = false then true else zAH s x m (i + 1)
def qy (L : List Sed) (s : Smy) : Bool:=if (Zf s.id L 0).2 = false then decide (s.bits ≠ 0) else zAH s (L.getD (Zf s.id L 0).1 default) 32 0
structure LkI (L : List Sed) (s : Smy) : Prop where
 n : L.length <= 9223372036854775807
 h : ∀ x ∈ L,x.held.length <= 9223372036854775807
 m : 0 <= s.mn /\ s.mn <= 1073741824
theorem zEY {s : Smy} {x : Sed} {i : Nat} {V : Bool} (hi : i < 32) (hV : zAH s x (32 - i) i = V) : (if YC s (s.mn + i) = false \/ s.mn + i < x.mn then zAH s x (32 - (i + 1)) (i + 1) else if (ZM (s.mn + i) x.held 0).2 = false then true else zAH s x (32 - (i + 1)) (i + 1)) = V:=by
 rw [<- hV,show 32 - i = (32 - (i + 1)) + 1 by omega];rfl
def LLk : CsL:=(33,some mfindE) :: (35,some mplaceE) :: (52,some hasE) :: []
theorem LLk_ok : qV Try.prog LLk:=⟨zx ⟨_,Try.func33,rfl,by kernel_rfl⟩ λa h=>zFH a.1 a.2.1 h,zx ⟨_,Try.func35,rfl,by kernel_rfl⟩ λa h=>zD6 a.1 a.2.1 h,zx ⟨_,Try.func52,rfl,by kernel_rfl⟩ λa h=>has_ok a.1 a.2.1 h,trivial⟩
theorem rd_fndq {s F : Nat × Bool} {id : Int} {M L : List Sed} (hs : s = Zf id M 0) (h : M = L) (hF : Zf id L 0 = F) : F = s:=by rw [hs,h,hF]
theorem lacks_ok (L : List Sed) (s : Smy) (h : LkI L s) : Ze Try.prog 54 [(cNS ZB qA).enc L,(cE zu).enc s] (cB.enc (qy L s)):=by
 obtain ⟨hn,hh,m1,m2⟩:=h;obtain ⟨R,hR⟩ : ∃ R,qy L s = R:=⟨_,rfl⟩;obtain ⟨F,hF⟩ : ∃ F,Zf s.id L 0 = F:=⟨_,rfl⟩;rw [hR];refine zt (wd:=1) (by decide) zN (zb LLk_ok) zP Try.func54 rfl _ (by show 2 <= _;decide) _ ?_;repeat' (first | (apply And.intro<;>intro hc<;>(first | exact Bool.noConfusion hc | (exfalso;first | exact absurd rfl hc | omega) | (simp only [zl] at hc<;>first | exact absurd rfl hc | (exfalso;first | exact absurd rfl hc | omega) | skip) | skip)) | (refine And.intro zj ?_) | (apply And.intro) | (intro s hs;(have q:=rd_fndq hs (zr ZL _) hF;clear hs;subst q)))
 . exact λ_ _=>⟨rfl,Zy _⟩
 . exact Eq.mpr (congrArg (λz : List Sed=>z.length <= 9223372036854775807) (zr ZL _)) hn
 . have e : decide (s.bits ≠ 0) = R:=by rw [<- hR];unfold qy;rw [hF,if_pos ‹_›]
   conv=>whnf
   exact Done.mk (zG (((by first | rfl | (simp [bne];done) | (cases hb : decide (s.bits = 0)<;>simp_all) : (s.bits != 0) = decide (s.bits ≠ 0))).trans e))
 have hFt : F.2 = true:=by assumption
 have hFl : F.1 < L.length:=by have:=(zAU (id:=s.id) (L:=L) (k:=0)).2.1;rw [hF] at this;have:=this hFt;omega
 have hV : zAH s (L.getD F.1 default) 32 0 = R:=by rw [<- hR];unfold qy;rw [hF,if_neg (by rw [hFt];simp)]
 have hhx:=hh _ (zw hFl);conv=>whnf
 refine zU (zV LLk_ok) (λi : {i : Nat // i <= 32 /\ zAH s (L.getD F.1 default) (32 - i) i = R}=>(⟨[(0,zL (ZT ZB L)),(3,zL (.ptr 0 0 0 false)),(5,zL (.int .i64 (F.1 : Int))),(23,zL (.int .i64 (i.1 : Int)))],[(0,some ⟨60,1,3,true,λ_=>zu.cell s⟩)],1⟩ : Hd)) (λi=>32 - i.1) (λ_=>rfl) ?_ ⟨0,Nat.zero_le _,hV⟩ [] ⟨rfl,⟨zD (zJ (zI L)),zF rfl,zB rfl,zB rfl,trivial⟩,⟨rfl,zE λj hj=>(Elem.flat _ _ _).le⟩,trivial⟩;rintro ⟨i,hi,hVi⟩;dsimp only at hi hVi ⊢;unfold ZT;by_cases hil : i < 32
 . have hst:=zEY hil hVi;have w3 : IntKind.i64.wrap ((i : Int) + 1) = ((i + 1 : Nat) : Int):=(IntWalk.i64_in _ (by omega)).trans (by omega);have w4 : IntKind.i64.wrap (s.mn + (i : Int)) = s.mn + (i : Int):=IntWalk.i64_in _ (by omega);obtain ⟨B,hB⟩ : ∃ B,YC s (s.mn + (i : Int)) = B:=⟨_,rfl⟩;obtain ⟨P,hP⟩ : ∃ P,ZM (s.mn + (i : Int)) (L.getD F.1 default).held 0 = P:=⟨_,rfl⟩;rw [hB,hP] at hst;have g1 : B = false -> zAH s (L.getD F.1 default) (32 - (i + 1)) (i + 1) = R:=λh=>by rw [if_pos (.inl h)] at hst;exact hst
   have g2 : s.mn + (i : Int) < (L.getD F.1 default).mn -> zAH s (L.getD F.1 default) (32 - (i + 1)) (i + 1) = R:=λh=>by rw [if_pos (.inr h)] at hst;exact hst
   have g3 : B = true -> ¬ s.mn + (i : Int) < (L.getD F.1 default).mn -> P.2 = false -> true = R:=λh h' h2=>by rw [if_neg (by rw [h];rintro (h | h);cases h;exact h' h),if_pos h2] at hst;exact hst
   have g4 : B = true -> ¬ s.mn + (i : Int) < (L.getD F.1 default).mn -> P.2 = true -> zAH s (L.getD F.1 default) (32 - (i + 1)) (i + 1) = R:=λh h' h2=>by rw [if_neg (by rw [h];rintro (h | h);cases h;exact h' h),if_neg (by rw [h2];simp)] at hst;exact hst
   clear hst;repeat' (first | (simp only [w4]) | (apply And.intro<;>intro hc<;>(first | exact Bool.noConfusion hc | (exfalso;first | exact absurd rfl hc | omega) | (simp only [zl] at hc<;>first | exact absurd rfl hc | (exfalso;first | exact absurd rfl hc | omega) | skip) | skip)) | (refine And.intro zj ?_) | (apply And.intro) | (intro s hs;(first | (have q : B = s:=hB.symm.trans hs.symm;clear hs;subst q) | (have q:=qj hs (zr zd _) hP;clear hs;subst q))))
   . exact ⟨⟨m1,m2⟩,by omega,by omega⟩
   . conv=>whnf
     exact ⟨⟨i + 1,hil,g1 ‹_›⟩,[],by dsimp only;omega,rfl,⟨zD (zJ (zI L)),zF rfl,zB rfl,zB w3,trivial⟩,⟨rfl,zE λj hj=>(Elem.flat _ _ _).le⟩,trivial⟩
   . conv=>whnf
     exact ⟨⟨i + 1,hil,g2 ‹_›⟩,[],by dsimp only;omega,rfl,⟨zD (zJ (zI L)),zF rfl,zB rfl,zB w3,trivial⟩,⟨rfl,zE λj hj=>(Elem.flat _ _ _).le⟩,trivial⟩
   . exact λ_ _=>⟨rfl,ZG _⟩
   . exact Eq.mpr (congrArg (λz : List Hel=>z.length <= 9223372036854775807) (zr zd _)) hhx
   . conv=>whnf
     exact Done.mk (zG (g3 ‹_› ‹_› ‹_›))
   . conv=>whnf
     exact ⟨⟨i + 1,hil,g4 ‹_› ‹_› ‹_›⟩,[],by dsimp only;omega,rfl,⟨zD (zJ (zI L)),zF rfl,zB rfl,zB w3,trivial⟩,⟨rfl,zE λj hj=>(Elem.flat _ _ _).le⟩,trivial⟩
 . have hVf : R = false:=by rw [<- hVi,show 32 - i = 0 by omega];rfl
   rw [hVf];repeat' (first | (apply And.intro<;>intro hc<;>(first | exact Bool.noConfusion hc | (exfalso;first | exact absurd rfl hc | omega) | (simp only [zl] at hc<;>first | exact absurd rfl hc | (exfalso;first | exact absurd rfl hc | omega) | skip) | skip)) | (refine And.intro zj ?_) | (apply And.intro) | (intro s hs;skip))
   exact Done.mk (zG rfl)
end Go.Proofs.Ytfaibcgakcmhcaa.AX
namespace Go.Proofs.Ytfaibcgakcmhcaa.AX
def bitsF (mn : Int) : List Hel -> Int -> Int
 | [],b=>b
 | h :: t,b=>bitsF mn t (bits .or .u32 b (Yq .u32 1 (h.num - mn)))
def sumS (s : Sed) : Smy:=⟨s.id,s.mn,bitsF s.mn s.held 0⟩
def YY (L : List Sed) : List Smy:=if ZA L = true then L.map sumS else []
def ZK (id : Int) : List Smy -> Smy -> Smy
 | [],a=>a
 | s :: t,a=>ZK id t (if s.id = id then s else a)
def zAC (m : Smy) (now draw : Int) (h : Hel) : Hel:=if m.mn <= h.num /\ YC m h.num = false then { h with tm:=(Zq h.tm now draw).1 } else h
def QU (S : List Smy) (now draw : Int) (s : Sed) : Sed:={ s with held:=s.held.map (zAC (ZK s.id S ⟨0,0,0⟩) now draw) }
def Zs (L : List Sed) (now : Int) (S : List Smy) (draw : Int) : List Sed × Bool × Int:=
 if ZA L = false \/ ZR S = false then ([],false,1) else
 if ZD now = false then ([],false,2) else
 (L.map (QU S now draw),S.any (qy L),0)
theorem vy_mem : ∀ {L : List Smy} {last : Int},QN last L = true -> ∀ x ∈ L,last < x.id /\ 0 <= x.mn /\ x.mn <= 1073741824:=by
 intro L;induction L with
 | nil=>intro _ _ _ h;cases h
 | cons a t ih=>
   intro last h x hx;unfold QN at h;simp only [Bool.and_eq_true,decide_eq_true_eq] at h;obtain ⟨⟨⟨h1,h2⟩,h3⟩,h4⟩:=h;rcases List.mem_cons.1 hx with rfl | hx
   . exact ⟨h1,h2,h3⟩
   . obtain ⟨g1,g⟩:=ih h4 x hx;exact ⟨by omega,g⟩
theorem vys {S : List Smy} (h : ZR S = true) : S.length <= 8 /\ ∀ x ∈ S,0 < x.id /\ 0 <= x.mn /\ x.mn <= 1073741824:=by
 unfold ZR at h;simp only [Bool.and_eq_true,decide_eq_true_eq] at h;exact ⟨h.1,vy_mem h.2⟩
theorem Qi {id : Int} : ∀ {S : List Smy} {a : Smy},(∀ x ∈ S,0 <= x.mn /\ x.mn <= 1073741824) -> (0 <= a.mn /\ a.mn <= 1073741824) -> 0 <= (ZK id S a).mn /\ (ZK id S a).mn <= 1073741824:=by
 intro S;induction S with
 | nil=>intro a _ h;exact h
 | cons s t ih=>
   intro a h1 h2;refine ih (λx hx=>h1 x (List.mem_cons_of_mem _ hx)) ?_;split
   . exact h1 s (List.mem_cons_self ..)
   . exact h2
theorem rst_ok {x : Trk} {now draw : Int} (h : ZN x = true) (ht : 0 <= now /\ now <= 1099511627776) : ZN (Zq x now draw).1 = true:=
 zFb x now draw (by unfold Zq;rw [if_pos h,if_pos (Zi.2 ht)];split<;>rfl)
theorem cmp_vh {m : Smy} {now draw mn : Int} (ht : 0 <= now /\ now <= 1099511627776) : ∀ {L : List Hel} {last : Int},ZY mn last L = true -> ZY mn last (L.map (zAC m now draw)) = true:=by
 intro L;induction L with
 | nil=>intro _ _;rfl
 | cons a t ih=>
   intro last hv;have hv':=Qj.1 hv;have e : (zAC m now draw a).num = a.num:=by unfold zAC;split<;>rfl
   refine Qj.2 ⟨by rw [e];exact hv'.1,?_,by rw [e];exact ih hv'.2.2⟩;unfold zAC;split
   . exact ⟨hv'.2.1.w,hv'.2.1.b,hv'.2.1.d,rst_ok hv'.2.1.t ht,hv'.2.1.u⟩
   . exact hv'.2.1
theorem cmp_ok {S : List Smy} {now draw : Int} {s : Sed} (ht : 0 <= now /\ now <= 1099511627776) (h : SdOk s) : SdOk (QU S now draw s):=⟨h.mn,by show (s.held.map _).length <= 32;rw [List.length_map];exact h.n,cmp_vh ht h.h⟩
theorem zCv {L : List Sed} {now draw : Int} {S : List Smy} (h : (Zs L now S draw).2.2 = 0) : ZA (Zs L now S draw).1 = true:=by
 unfold Zs at h ⊢;split at h
 . cases h
 . rename_i h1;rw [if_neg h1];split at h
   . cases h
   . rename_i h2;rw [if_neg h2];have hv : ZA L = true:=by
      cases hh : ZA L with
      | true=>rfl
      | false=>exact absurd (.inl hh) h1
     have ht : ZD now = true:=by
      cases hh : ZD now with
      | true=>rfl
      | false=>exact absurd hh h2
     unfold ZA;simp only [Bool.and_eq_true,decide_eq_true_eq];exact ⟨by rw [List.length_map];exact Zv hv,vs_map (f:=QU S now draw) (λs=>rfl) (λs=>cmp_ok (Zi.1 ht)) (zCw hv)⟩
theorem zDQ {L : List Sed} {now draw : Int} {S : List Smy} (hv : ZA L = true) (hS : ZR S = true) (ht : ZD now = true) : Zs L now S draw = (L.map (QU S now draw),S.any (qy L),0):=by
 unfold Zs;rw [if_neg (by rw [hv,hS];simp),if_neg (by rw [ht];simp)]
end Go.Proofs.Ytfaibcgakcmhcaa.AX
namespace Go.Proofs.Ytfaibcgakcmhcaa.AX
open Go.RowKit
structure AcJ (L : List Sed) (a : Nat) (s : Sed) (now : Int) (c : Cas) (draw : Int) : Prop where
 lt : a < L.length
 n : L.length <= 9
 k : KpI s.held
 h : s.held.length <= 32
 num : 0 <= c.num /\ c.num < 1073741824
 d : c.data.length <= 64
 now : 0 <= now /\ now <= 1099511627776
 dr : ZS draw
theorem acc3_0 (g0 : Nat) (L : List Sed) (a : Nat) (sd : Sed) (now : Int) (c : Cas) (deaf : Bool) (draw : Int) (hI : AcJ L a sd now c draw) (R : List Sed × Bool × Int) (hR : R = (L.set a (if deaf = true then ze sd (c.num + 1) else qO sd (ZP c now draw) (ZM c.num sd.held 0).1),!deaf,0)) (a3 : a = 0) :
 Sem Try.prog Try.f11.ntmps 0 (Zc 11 (Try.f11.body.getD Code.ret)) (SB L a sd now c deaf draw ()).fr (SB L a sd now c deaf draw ()).H (SB L a sd now c deaf draw ()).nx (qQ T Try.f11.results.toList λx H _=>FinN (some R.1.length) (Zz R) (Zj ZB 78 R.1) x H):=by
 obtain ⟨ha,hn,hk,hh,hnum,hd,hnow,hdr⟩:=hI;unfold SB;subst a3;have w1 : IntKind.i64.wrap (c.num + 1) = c.num + 1:=IntWalk.i64_in _ (by omega);have w2 : IntKind.i64.wrap (now + 20) = now + 20:=IntWalk.i64_in _ (by omega);cases deaf with
 | true=>
   refine zK (wd:=1024) (Q:=qH (qY g0)) (by decide) zN (zb (zY g0)) zP ?_;repeat' (first | (simp only [w1]) | (apply And.intro<;>intro hc<;>(first | exact Bool.noConfusion hc | (exfalso;first | exact absurd rfl hc | omega) | (simp only [zl] at hc<;>first | exact absurd rfl hc | (exfalso;first | exact absurd rfl hc | omega) | skip) | skip)) | (refine And.intro zj ?_) | (apply And.intro) | (intro s hs;skip) | (refine Exists.intro _ (And.intro ⟨rfl,rfl,rfl⟩ ?_)))
   . exact rfl
   . conv=>whnf
     refine ZC (s:=sd) (d:=2) (hR.trans ?_) ha rfl (λp h j=>zc h) rfl rfl rfl rfl rfl rfl rfl λq hq j hj=>(zm.sh _ j hj).le;rw [if_pos rfl,show ze sd (c.num + 1) = sd from if_pos hc];rfl
   . exact ⟨rfl,ZG _⟩
   . exact Eq.mpr (congrArg KpI (zT zd _)) hk
   . conv=>whnf
     have q : sd.held.filter (qU (some (c.num + 1))) = s:=(hs.trans (by rw [zT zd])).symm;clear hs;refine ZC (s:=⟨sd.id,c.num + 1,s⟩) (d:=5141) (hR.trans ?_) ha rfl (λp h j=>(ZJ h).trans ((ZJ h).trans (zc h))) rfl rfl rfl rfl rfl rfl rfl λq hq j hj=>(zm.sh _ j hj).le;rw [if_pos rfl,show ze sd (c.num + 1) = ⟨sd.id,c.num + 1,s⟩ from (if_neg hc).trans (by rw [q])];rfl
 | false=>
   obtain ⟨⟨i,b⟩,hP⟩ : ∃ P,ZM c.num sd.held 0 = P:=⟨_,rfl⟩;have hle:=QC (id:=c.num) (L:=sd.held) (k:=0);rw [hP,Nat.zero_add] at hle;dsimp only at hle;obtain ⟨hle1,_,_⟩:=hle;have hR2 : R = (L.set 0 (qO sd (ZP c now draw) i),true,0):=by rw [hR,hP];rfl
   clear hR;have w3 : IntKind.i64.wrap ((i : Int) + 1) = ((i + 1 : Nat) : Int):=(IntWalk.i64_in _ (by omega)).trans (by omega);obtain ⟨tr,hT⟩ : ∃ r,zAA 2 3 2 now draw = r:=⟨_,rfl⟩;refine zK (wd:=1) (Q:=qH (qY g0)) (by decide) zN (zb (zY g0)) zP ?_;repeat' (first | (simp only [w2]) | (apply And.intro<;>intro hc<;>(first | exact Bool.noConfusion hc | (exfalso;first | exact absurd rfl hc | omega) | (simp only [zl] at hc<;>first | exact absurd rfl hc | (exfalso;first | exact absurd rfl hc | omega) | skip) | skip)) | (refine And.intro zj ?_) | (apply And.intro) | (intro s hs;skip) | (refine Exists.intro _ (And.intro ⟨rfl,rfl,rfl⟩ ?_)))
   refine zK (wd:=1) (Q:=qH (qY g0)) (by decide) zN (zb (zY g0)) zP ?_;repeat' (first | (simp only [w2]) | (apply And.intro<;>intro hc<;>(first | exact Bool.noConfusion hc | (exfalso;first | exact absurd rfl hc | omega) | (simp only [zl] at hc<;>first | exact absurd rfl hc | (exfalso;first | exact absurd rfl hc | omega) | skip) | skip)) | (refine And.intro zj ?_) | (apply And.intro) | (intro s hs;(have q : tr = s:=hT.symm.trans hs.symm;clear hs;subst q)) | (refine Exists.intro _ (And.intro ⟨rfl,rfl,rfl⟩ ?_)))
   refine zK (wd:=1) (Q:=qH (qY g0)) (by decide) zN (zb (zY g0)) zP ?_;repeat' (first | (simp only [w2]) | (apply And.intro<;>intro hc<;>(first | exact Bool.noConfusion hc | (exfalso;first | exact absurd rfl hc | omega) | (simp only [zl] at hc<;>first | exact absurd rfl hc | (exfalso;first | exact absurd rfl hc | omega) | skip) | skip)) | (refine And.intro zj ?_) | (apply And.intro) | (intro s hs;skip) | (refine Exists.intro _ (And.intro ⟨rfl,rfl,rfl⟩ ?_)))
   refine zK (wd:=1) (Q:=qH (qY g0)) (by decide) zN (zb (zY g0)) zP ?_;repeat' (first | (simp only [w2,w3]) | (apply And.intro<;>intro hc<;>(first | exact Bool.noConfusion hc | (exfalso;first | exact absurd rfl hc | omega) | (simp only [zl] at hc<;>first | exact absurd rfl hc | (exfalso;first | exact absurd rfl hc | omega) | skip) | skip)) | (refine And.intro zj ?_) | (apply And.intro) | (intro s hs;(have q:=qj hs (zT zd _) hP;clear hs;subst q)) | (refine Exists.intro _ (And.intro ⟨rfl,rfl,rfl⟩ ?_)))
   . exact λ_ _=>⟨rfl,ZG _⟩
   . exact Eq.mpr (congrArg (λz : List Hel=>z.length <= 9223372036854775807) (zT zd _)) (by omega)
   refine zK (wd:=1) (Q:=qH (qY g0)) (by decide) zN (zb (zY g0)) zP ?_;repeat' (first | (simp only [w2,w3]) | (apply And.intro<;>intro hc<;>(first | exact Bool.noConfusion hc | (exfalso;first | exact absurd rfl hc | omega) | (simp only [zl] at hc<;>first | exact absurd rfl hc | (exfalso;first | exact absurd rfl hc | omega) | skip) | skip)) | (refine And.intro zj ?_) | (apply And.intro) | (intro s hs;skip) | (refine Exists.intro _ (And.intro ⟨rfl,rfl,rfl⟩ ?_)))
   refine zK (wd:=1) (Q:=qH (qY g0)) (by decide) zN (zb (zY g0)) zP ?_;repeat' (first | (simp only [w2,w3]) | (apply And.intro<;>intro hc<;>(first | exact Bool.noConfusion hc | (exfalso;first | exact absurd rfl hc | omega) | (simp only [zl] at hc<;>first | exact absurd rfl hc | (exfalso;first | exact absurd rfl hc | omega) | skip) | skip)) | (refine And.intro zj ?_) | (apply And.intro) | (intro s hs;skip) | (refine Exists.intro _ (And.intro ⟨rfl,rfl,rfl⟩ ?_)))
   refine QB (wd:=1) (Q:=qH (qY g0)) (by decide) zN (zb (zY g0)) zP ?_;repeat' (first | (simp only [w2,w3]) | (apply And.intro<;>intro hc<;>(first | exact Bool.noConfusion hc | (exfalso;first | exact absurd rfl hc | omega) | (simp only [zl] at hc<;>first | exact absurd rfl hc | (exfalso;first | exact absurd rfl hc | omega) | skip) | skip)) | (refine And.intro zj ?_) | (apply And.intro) | (intro s hs;skip) | (refine Exists.intro _ (And.intro ⟨rfl,rfl,rfl⟩ ?_)))
   conv=>whnf
   have hAl : (qO sd (ZP c now draw) i).held.length = sd.held.length + 1:=qf hle1;refine ZC (s:=qO sd (ZP c now draw) i) (d:=44) hR2 ha rfl (λp h j=>(ZJ h).trans (zc h)) rfl rfl (by rw [hAl];rfl) rfl rfl hAl.symm rfl λq hq j hj=>?_;rw [hAl] at hq;show Zu _ _ (zo zm (Zn i (ZP c now draw) sd.held) q j);refine YD (r:=zo zm sd.held) hle1 ?_ hq (λh=>?_) (λh=>?_) (λh=>?_)
   . show min (sd.held.length + 1 - i) (sd.held.length + 1 - (i + 1)) = _;omega
   . rw [show zo zm (Zn i (ZP c now draw) sd.held) q j = zo zm sd.held q j from congrArg (λz=>zm.cell z j) (Yb hle1 h)];exact (zm.sh _ j hj).le
   . subst h;rw [show zo zm (Zn q (ZP c now draw) sd.held) q j = zm.cell (ZP c now draw) j from congrArg (λz=>zm.cell z j) (QD hle1)];have e0 : ZP c now draw = ⟨c.num,c.data,tr.1,if 1099511627776 < now + 20 then 1099511627776 else now + 20⟩:=by unfold ZP;rw [hT]
     rw [e0];iterate 11 (rcases j with _ | j;· first | exact zC rfl | exact zW rfl | exact ZQ rfl rfl rfl (by first | rfl | exact Nat.zero_add _) (by first | exact Nat.le_refl _ | (simp;done)) λq hq j hj=>YH (E:=eB) (congrArg (λz=>c.data.getD z default) (Nat.zero_add q)))
     exact absurd hj (by omega)
   . rw [show zo zm (Zn i (ZP c now draw) sd.held) q j = zo zm sd.held (q - 1) j from congrArg (λz=>zm.cell z j) (Yc hle1 h)];exact (zm.sh _ j hj).le
theorem acc3_1 (g0 : Nat) (L : List Sed) (a : Nat) (sd : Sed) (now : Int) (c : Cas) (deaf : Bool) (draw : Int) (hI : AcJ L a sd now c draw) (R : List Sed × Bool × Int) (hR : R = (L.set a (if deaf = true then ze sd (c.num + 1) else qO sd (ZP c now draw) (ZM c.num sd.held 0).1),!deaf,0)) (a3 : a = 1) :
 Sem Try.prog Try.f11.ntmps 0 (Zc 11 (Try.f11.body.getD Code.ret)) (SB L a sd now c deaf draw ()).fr (SB L a sd now c deaf draw ()).H (SB L a sd now c deaf draw ()).nx (qQ T Try.f11.results.toList λx H _=>FinN (some R.1.length) (Zz R) (Zj ZB 78 R.1) x H):=by
 obtain ⟨ha,hn,hk,hh,hnum,hd,hnow,hdr⟩:=hI;unfold SB;subst a3;have w1 : IntKind.i64.wrap (c.num + 1) = c.num + 1:=IntWalk.i64_in _ (by omega);have w2 : IntKind.i64.wrap (now + 20) = now + 20:=IntWalk.i64_in _ (by omega);cases deaf with
 | true=>
   refine zK (wd:=1024) (Q:=qH (qY g0)) (by decide) zN (zb (zY g0)) zP ?_;repeat' (first | (simp only [w1]) | (apply And.intro<;>intro hc<;>(first | exact Bool.noConfusion hc | (exfalso;first | exact absurd rfl hc | omega) | (simp only [zl] at hc<;>first | exact absurd rfl hc | (exfalso;first | exact absurd rfl hc | omega) | skip) | skip)) | (refine And.intro zj ?_) | (apply And.intro) | (intro s hs;skip) | (refine Exists.intro _ (And.intro ⟨rfl,rfl,rfl⟩ ?_)))
   . exact rfl
   . conv=>whnf
     refine ZC (s:=sd) (d:=2) (hR.trans ?_) ha rfl (λp h j=>zc h) rfl rfl rfl rfl rfl rfl rfl λq hq j hj=>(zm.sh _ j hj).le;rw [if_pos rfl,show ze sd (c.num + 1) = sd from if_pos hc];rfl
   . exact ⟨rfl,ZG _⟩
   . exact Eq.mpr (congrArg KpI (zT zd _)) hk
   . conv=>whnf
     have q : sd.held.filter (qU (some (c.num + 1))) = s:=(hs.trans (by rw [zT zd])).symm;clear hs;refine ZC (s:=⟨sd.id,c.num + 1,s⟩) (d:=5141) (hR.trans ?_) ha rfl (λp h j=>(ZJ h).trans ((ZJ h).trans (zc h))) rfl rfl rfl rfl rfl rfl rfl λq hq j hj=>(zm.sh _ j hj).le;rw [if_pos rfl,show ze sd (c.num + 1) = ⟨sd.id,c.num + 1,s⟩ from (if_neg hc).trans (by rw [q])];rfl
 | false=>
   obtain ⟨⟨i,b⟩,hP⟩ : ∃ P,ZM c.num sd.held 0 = P:=⟨_,rfl⟩;have hle:=QC (id:=c.num) (L:=sd.held) (k:=0);rw [hP,Nat.zero_add] at hle;dsimp only at hle;obtain ⟨hle1,_,_⟩:=hle;have hR2 : R = (L.set 1 (qO sd (ZP c now draw) i),true,0):=by rw [hR,hP];rfl
   clear hR;have w3 : IntKind.i64.wrap ((i : Int) + 1) = ((i + 1 : Nat) : Int):=(IntWalk.i64_in _ (by omega)).trans (by omega);obtain ⟨tr,hT⟩ : ∃ r,zAA 2 3 2 now draw = r:=⟨_,rfl⟩;refine zK (wd:=1) (Q:=qH (qY g0)) (by decide) zN (zb (zY g0)) zP ?_;repeat' (first | (simp only [w2]) | (apply And.intro<;>intro hc<;>(first | exact Bool.noConfusion hc | (exfalso;first | exact absurd rfl hc | omega) | (simp only [zl] at hc<;>first | exact absurd rfl hc | (exfalso;first | exact absurd rfl hc | omega) | skip) | skip)) | (refine And.intro zj ?_) | (apply And.intro) | (intro s hs;skip) | (refine Exists.intro _ (And.intro ⟨rfl,rfl,rfl⟩ ?_)))
   refine zK (wd:=1) (Q:=qH (qY g0)) (by decide) zN (zb (zY g0)) zP ?_;repeat' (first | (simp only [w2]) | (apply And.intro<;>intro hc<;>(first | exact Bool.noConfusion hc | (exfalso;first | exact absurd rfl hc | omega) | (simp only [zl] at hc<;>first | exact absurd rfl hc | (exfalso;first | exact absurd rfl hc | omega) | skip) | skip)) | (refine And.intro zj ?_) | (apply And.intro) | (intro s hs;(have q : tr = s:=hT.symm.trans hs.symm;clear hs;subst q)) | (refine Exists.intro _ (And.intro ⟨rfl,rfl,rfl⟩ ?_)))
   refine zK (wd:=1) (Q:=qH (qY g0)) (by decide) zN (zb (zY g0)) zP ?_;repeat' (first | (simp only [w2]) | (apply And.intro<;>intro hc<;>(first | exact Bool.noConfusion hc | (exfalso;first | exact absurd rfl hc | omega) | (simp only [zl] at hc<;>first | exact absurd rfl hc | (exfalso;first | exact absurd rfl hc | omega) | skip) | skip)) | (refine And.intro zj ?_) | (apply And.intro) | (intro s hs;skip) | (refine Exists.intro _ (And.intro ⟨rfl,rfl,rfl⟩ ?_)))
   refine zK (wd:=1) (Q:=qH (qY g0)) (by decide) zN (zb (zY g0)) zP ?_;repeat' (first | (simp only [w2,w3]) | (apply And.intro<;>intro hc<;>(first | exact Bool.noConfusion hc | (exfalso;first | exact absurd rfl hc | omega) | (simp only [zl] at hc<;>first | exact absurd rfl hc | (exfalso;first | exact absurd rfl hc | omega) | skip) | skip)) | (refine And.intro zj ?_) | (apply And.intro) | (intro s hs;(have q:=qj hs (zT zd _) hP;clear hs;subst q)) | (refine Exists.intro _ (And.intro ⟨rfl,rfl,rfl⟩ ?_)))
   . exact λ_ _=>⟨rfl,ZG _⟩
   . exact Eq.mpr (congrArg (λz : List Hel=>z.length <= 9223372036854775807) (zT zd _)) (by omega)
   refine zK (wd:=1) (Q:=qH (qY g0)) (by decide) zN (zb (zY g0)) zP ?_;repeat' (first | (simp only [w2,w3]) | (apply And.intro<;>intro hc<;>(first | exact Bool.noConfusion hc | (exfalso;first | exact absurd rfl hc | omega) | (simp only [zl] at hc<;>first | exact absurd rfl hc | (exfalso;first | exact absurd rfl hc | omega) | skip) | skip)) | (refine And.intro zj ?_) | (apply And.intro) | (intro s hs;skip) | (refine Exists.intro _ (And.intro ⟨rfl,rfl,rfl⟩ ?_)))
   refine zK (wd:=1) (Q:=qH (qY g0)) (by decide) zN (zb (zY g0)) zP ?_;repeat' (first | (simp only [w2,w3]) | (apply And.intro<;>intro hc<;>(first | exact Bool.noConfusion hc | (exfalso;first | exact absurd rfl hc | omega) | (simp only [zl] at hc<;>first | exact absurd rfl hc | (exfalso;first | exact absurd rfl hc | omega) | skip) | skip)) | (refine And.intro zj ?_) | (apply And.intro) | (intro s hs;skip) | (refine Exists.intro _ (And.intro ⟨rfl,rfl,rfl⟩ ?_)))
   refine QB (wd:=1) (Q:=qH (qY g0)) (by decide) zN (zb (zY g0)) zP ?_;repeat' (first | (simp only [w2,w3]) | (apply And.intro<;>intro hc<;>(first | exact Bool.noConfusion hc | (exfalso;first | exact absurd rfl hc | omega) | (simp only [zl] at hc<;>first | exact absurd rfl hc | (exfalso;first | exact absurd rfl hc | omega) | skip) | skip)) | (refine And.intro zj ?_) | (apply And.intro) | (intro s hs;skip) | (refine Exists.intro _ (And.intro ⟨rfl,rfl,rfl⟩ ?_)))
   conv=>whnf
   have hAl : (qO sd (ZP c now draw) i).held.length = sd.held.length + 1:=qf hle1;refine ZC (s:=qO sd (ZP c now draw) i) (d:=44) hR2 ha rfl (λp h j=>(ZJ h).trans (zc h)) rfl rfl (by rw [hAl];rfl) rfl rfl hAl.symm rfl λq hq j hj=>?_;rw [hAl] at hq;show Zu _ _ (zo zm (Zn i (ZP c now draw) sd.held) q j);refine YD (r:=zo zm sd.held) hle1 ?_ hq (λh=>?_) (λh=>?_) (λh=>?_)
   . show min (sd.held.length + 1 - i) (sd.held.length + 1 - (i + 1)) = _;omega
   . rw [show zo zm (Zn i (ZP c now draw) sd.held) q j = zo zm sd.held q j from congrArg (λz=>zm.cell z j) (Yb hle1 h)];exact (zm.sh _ j hj).le
   . subst h;rw [show zo zm (Zn q (ZP c now draw) sd.held) q j = zm.cell (ZP c now draw) j from congrArg (λz=>zm.cell z j) (QD hle1)];have e0 : ZP c now draw = ⟨c.num,c.data,tr.1,if 1099511627776 < now + 20 then 1099511627776 else now + 20⟩:=by unfold ZP;rw [hT]
     rw [e0];iterate 11 (rcases j with _ | j;· first | exact zC rfl | exact zW rfl | exact ZQ rfl rfl rfl (by first | rfl | exact Nat.zero_add _) (by first | exact Nat.le_refl _ | (simp;done)) λq hq j hj=>YH (E:=eB) (congrArg (λz=>c.data.getD z default) (Nat.zero_add q)))
     exact absurd hj (by omega)
   . rw [show zo zm (Zn i (ZP c now draw) sd.held) q j = zo zm sd.held (q - 1) j from congrArg (λz=>zm.cell z j) (Yc hle1 h)];exact (zm.sh _ j hj).le
theorem acc3_2 (g0 : Nat) (L : List Sed) (a : Nat) (sd : Sed) (now : Int) (c : Cas) (deaf : Bool) (draw : Int) (hI : AcJ L a sd now c draw) (R : List Sed × Bool × Int) (hR : R = (L.set a (if deaf = true then ze sd (c.num + 1) else qO sd (ZP c now draw) (ZM c.num sd.held 0).1),!deaf,0)) (a3 : a = 2) :
 Sem Try.prog Try.f11.ntmps 0 (Zc 11 (Try.f11.body.getD Code.ret)) (SB L a sd now c deaf draw ()).fr (SB L a sd now c deaf draw ()).H (SB L a sd now c deaf draw ()).nx (qQ T Try.f11.results.toList λx H _=>FinN (some R.1.length) (Zz R) (Zj ZB 78 R.1) x H):=by
 obtain ⟨ha,hn,hk,hh,hnum,hd,hnow,hdr⟩:=hI;unfold SB;subst a3;have w1 : IntKind.i64.wrap (c.num + 1) = c.num + 1:=IntWalk.i64_in _ (by omega);have w2 : IntKind.i64.wrap (now + 20) = now + 20:=IntWalk.i64_in _ (by omega);cases deaf with
 | true=>
   refine zK (wd:=1024) (Q:=qH (qY g0)) (by decide) zN (zb (zY g0)) zP ?_;repeat' (first | (simp only [w1]) | (apply And.intro<;>intro hc<;>(first | exact Bool.noConfusion hc | (exfalso;first | exact absurd rfl hc | omega) | (simp only [zl] at hc<;>first | exact absurd rfl hc | (exfalso;first | exact absurd rfl hc | omega) | skip) | skip)) | (refine And.intro zj ?_) | (apply And.intro) | (intro s hs;skip) | (refine Exists.intro _ (And.intro ⟨rfl,rfl,rfl⟩ ?_)))
   . exact rfl
   . conv=>whnf
     refine ZC (s:=sd) (d:=2) (hR.trans ?_) ha rfl (λp h j=>zc h) rfl rfl rfl rfl rfl rfl rfl λq hq j hj=>(zm.sh _ j hj).le;rw [if_pos rfl,show ze sd (c.num + 1) = sd from if_pos hc];rfl
   . exact ⟨rfl,ZG _⟩
   . exact Eq.mpr (congrArg KpI (zT zd _)) hk
   . conv=>whnf
     have q : sd.held.filter (qU (some (c.num + 1))) = s:=(hs.trans (by rw [zT zd])).symm;clear hs;refine ZC (s:=⟨sd.id,c.num + 1,s⟩) (d:=5141) (hR.trans ?_) ha rfl (λp h j=>(ZJ h).trans ((ZJ h).trans (zc h))) rfl rfl rfl rfl rfl rfl rfl λq hq j hj=>(zm.sh _ j hj).le;rw [if_pos rfl,show ze sd (c.num + 1) = ⟨sd.id,c.num + 1,s⟩ from (if_neg hc).trans (by rw [q])];rfl
 | false=>
   obtain ⟨⟨i,b⟩,hP⟩ : ∃ P,ZM c.num sd.held 0 = P:=⟨_,rfl⟩;have hle:=QC (id:=c.num) (L:=sd.held) (k:=0);rw [hP,Nat.zero_add] at hle;dsimp only at hle;obtain ⟨hle1,_,_⟩:=hle;have hR2 : R = (L.set 2 (qO sd (ZP c now draw) i),true,0):=by rw [hR,hP];rfl
   clear hR;have w3 : IntKind.i64.wrap ((i : Int) + 1) = ((i + 1 : Nat) : Int):=(IntWalk.i64_in _ (by omega)).trans (by omega);obtain ⟨tr,hT⟩ : ∃ r,zAA 2 3 2 now draw = r:=⟨_,rfl⟩;refine zK (wd:=1) (Q:=qH (qY g0)) (by decide) zN (zb (zY g0)) zP ?_;repeat' (first | (simp only [w2]) | (apply And.intro<;>intro hc<;>(first | exact Bool.noConfusion hc | (exfalso;first | exact absurd rfl hc | omega) | (simp only [zl] at hc<;>first | exact absurd rfl hc | (exfalso;first | exact absurd rfl hc | omega) | skip) | skip)) | (refine And.intro zj ?_) | (apply And.intro) | (intro s hs;skip) | (refine Exists.intro _ (And.intro ⟨rfl,rfl,rfl⟩ ?_)))
   refine zK (wd:=1) (Q:=qH (qY g0)) (by decide) zN (zb (zY g0)) zP ?_;repeat' (first | (simp only [w2]) | (apply And.intro<;>intro hc<;>(first | exact Bool.noConfusion hc | (exfalso;first | exact absurd rfl hc | omega) | (simp only [zl] at hc<;>first | exact absurd rfl hc | (exfalso;first | exact absurd rfl hc | omega) | skip) | skip)) | (refine And.intro zj ?_) | (apply And.intro) | (intro s hs;(have q : tr = s:=hT.symm.trans hs.symm;clear hs;subst q)) | (refine Exists.intro _ (And.intro ⟨rfl,rfl,rfl⟩ ?_)))
   refine zK (wd:=1) (Q:=qH (qY g0)) (by decide) zN (zb (zY g0)) zP ?_;repeat' (first | (simp only [w2]) | (apply And.intro<;>intro hc<;>(first | exact Bool.noConfusion hc | (exfalso;first | exact absurd rfl hc | omega) | (simp only [zl] at hc<;>first | exact absurd rfl hc | (exfalso;first | exact absurd rfl hc | omega) | skip) | skip)) | (refine And.intro zj ?_) | (apply And.intro) | (intro s hs;skip) | (refine Exists.intro _ (And.intro ⟨rfl,rfl,rfl⟩ ?_)))
   refine zK (wd:=1) (Q:=qH (qY g0)) (by decide) zN (zb (zY g0)) zP ?_;repeat' (first | (simp only [w2,w3]) | (apply And.intro<;>intro hc<;>(first | exact Bool.noConfusion hc | (exfalso;first | exact absurd rfl hc | omega) | (simp only [zl] at hc<;>first | exact absurd rfl hc | (exfalso;first | exact absurd rfl hc | omega) | skip) | skip)) | (refine And.intro zj ?_) | (apply And.intro) | (intro s hs;(have q:=qj hs (zT zd _) hP;clear hs;subst q)) | (refine Exists.intro _ (And.intro ⟨rfl,rfl,rfl⟩ ?_)))
   . exact λ_ _=>⟨rfl,ZG _⟩
   . exact Eq.mpr (congrArg (λz : List Hel=>z.length <= 9223372036854775807) (zT zd _)) (by omega)
   refine zK (wd:=1) (Q:=qH (qY g0)) (by decide) zN (zb (zY g0)) zP ?_;repeat' (first | (simp only [w2,w3]) | (apply And.intro<;>intro hc<;>(first | exact Bool.noConfusion hc | (exfalso;first | exact absurd rfl hc | omega) | (simp only [zl] at hc<;>first | exact absurd rfl hc | (exfalso;first | exact absurd rfl hc | omega) | skip) | skip)) | (refine And.intro zj ?_) | (apply And.intro) | (intro s hs;skip) | (refine Exists.intro _ (And.intro ⟨rfl,rfl,rfl⟩ ?_)))
   refine zK (wd:=1) (Q:=qH (qY g0)) (by decide) zN (zb (zY g0)) zP ?_;repeat' (first | (simp only [w2,w3]) | (apply And.intro<;>intro hc<;>(first | exact Bool.noConfusion hc | (exfalso;first | exact absurd rfl hc | omega) | (simp only [zl] at hc<;>first | exact absurd rfl hc | (exfalso;first | exact absurd rfl hc | omega) | skip) | skip)) | (refine And.intro zj ?_) | (apply And.intro) | (intro s hs;skip) | (refine Exists.intro _ (And.intro ⟨rfl,rfl,rfl⟩ ?_)))
   refine QB (wd:=1) (Q:=qH (qY g0)) (by decide) zN (zb (zY g0)) zP ?_;repeat' (first | (simp only [w2,w3]) | (apply And.intro<;>intro hc<;>(first | exact Bool.noConfusion hc | (exfalso;first | exact absurd rfl hc | omega) | (simp only [zl] at hc<;>first | exact absurd rfl hc | (exfalso;first | exact absurd rfl hc | omega) | skip) | skip)) | (refine And.intro zj ?_) | (apply And.intro) | (intro s hs;skip) | (refine Exists.intro _ (And.intro ⟨rfl,rfl,rfl⟩ ?_)))
   conv=>whnf
   have hAl : (qO sd (ZP c now draw) i).held.length = sd.held.length + 1:=qf hle1;refine ZC (s:=qO sd (ZP c now draw) i) (d:=44) hR2 ha rfl (λp h j=>(ZJ h).trans (zc h)) rfl rfl (by rw [hAl];rfl) rfl rfl hAl.symm rfl λq hq j hj=>?_;rw [hAl] at hq;show Zu _ _ (zo zm (Zn i (ZP c now draw) sd.held) q j);refine YD (r:=zo zm sd.held) hle1 ?_ hq (λh=>?_) (λh=>?_) (λh=>?_)
   . show min (sd.held.length + 1 - i) (sd.held.length + 1 - (i + 1)) = _;omega
   . rw [show zo zm (Zn i (ZP c now draw) sd.held) q j = zo zm sd.held q j from congrArg (λz=>zm.cell z j) (Yb hle1 h)];exact (zm.sh _ j hj).le
   . subst h;rw [show zo zm (Zn q (ZP c now draw) sd.held) q j = zm.cell (ZP c now draw) j from congrArg (λz=>zm.cell z j) (QD hle1)];have e0 : ZP c now draw = ⟨c.num,c.data,tr.1,if 1099511627776 < now + 20 then 1099511627776 else now + 20⟩:=by unfold ZP;rw [hT]
     rw [e0];iterate 11 (rcases j with _ | j;· first | exact zC rfl | exact zW rfl | exact ZQ rfl rfl rfl (by first | rfl | exact Nat.zero_add _) (by first | exact Nat.le_refl _ | (simp;done)) λq hq j hj=>YH (E:=eB) (congrArg (λz=>c.data.getD z default) (Nat.zero_add q)))
     exact absurd hj (by omega)
   . rw [show zo zm (Zn i (ZP c now draw) sd.held) q j = zo zm sd.held (q - 1) j from congrArg (λz=>zm.cell z j) (Yc hle1 h)];exact (zm.sh _ j hj).le
theorem acc3_3 (g0 : Nat) (L : List Sed) (a : Nat) (sd : Sed) (now : Int) (c : Cas) (deaf : Bool) (draw : Int) (hI : AcJ L a sd now c draw) (R : List Sed × Bool × Int) (hR : R = (L.set a (if deaf = true then ze sd (c.num + 1) else qO sd (ZP c now draw) (ZM c.num sd.held 0).1),!deaf,0)) (a3 : a = 3) :
 Sem Try.prog Try.f11.ntmps 0 (Zc 11 (Try.f11.body.getD Code.ret)) (SB L a sd now c deaf draw ()).fr (SB L a sd now c deaf draw ()).H (SB L a sd now c deaf draw ()).nx (qQ T Try.f11.results.toList λx H _=>FinN (some R.1.length) (Zz R) (Zj ZB 78 R.1) x H):=by
 obtain ⟨ha,hn,hk,hh,hnum,hd,hnow,hdr⟩:=hI;unfold SB;subst a3;have w1 : IntKind.i64.wrap (c.num + 1) = c.num + 1:=IntWalk.i64_in _ (by omega);have w2 : IntKind.i64.wrap (now + 20) = now + 20:=IntWalk.i64_in _ (by omega);cases deaf with
 | true=>
   refine zK (wd:=1024) (Q:=qH (qY g0)) (by decide) zN (zb (zY g0)) zP ?_;repeat' (first | (simp only [w1]) | (apply And.intro<;>intro hc<;>(first | exact Bool.noConfusion hc | (exfalso;first | exact absurd rfl hc | omega) | (simp only [zl] at hc<;>first | exact absurd rfl hc | (exfalso;first | exact absurd rfl hc | omega) | skip) | skip)) | (refine And.intro zj ?_) | (apply And.intro) | (intro s hs;skip) | (refine Exists.intro _ (And.intro ⟨rfl,rfl,rfl⟩ ?_)))
   . exact rfl
   . conv=>whnf
     refine ZC (s:=sd) (d:=2) (hR.trans ?_) ha rfl (λp h j=>zc h) rfl rfl rfl rfl rfl rfl rfl λq hq j hj=>(zm.sh _ j hj).le;rw [if_pos rfl,show ze sd (c.num + 1) = sd from if_pos hc];rfl
   . exact ⟨rfl,ZG _⟩
   . exact Eq.mpr (congrArg KpI (zT zd _)) hk
   . conv=>whnf
     have q : sd.held.filter (qU (some (c.num + 1))) = s:=(hs.trans (by rw [zT zd])).symm;clear hs;refine ZC (s:=⟨sd.id,c.num + 1,s⟩) (d:=5141) (hR.trans ?_) ha rfl (λp h j=>(ZJ h).trans ((ZJ h).trans (zc h))) rfl rfl rfl rfl rfl rfl rfl λq hq j hj=>(zm.sh _ j hj).le;rw [if_pos rfl,show ze sd (c.num + 1) = ⟨sd.id,c.num + 1,s⟩ from (if_neg hc).trans (by rw [q])];rfl
 | false=>
   obtain ⟨⟨i,b⟩,hP⟩ : ∃ P,ZM c.num sd.held 0 = P:=⟨_,rfl⟩;have hle:=QC (id:=c.num) (L:=sd.held) (k:=0);rw [hP,Nat.zero_add] at hle;dsimp only at hle;obtain ⟨hle1,_,_⟩:=hle;have hR2 : R = (L.set 3 (qO sd (ZP c now draw) i),true,0):=by rw [hR,hP];rfl
   clear hR;have w3 : IntKind.i64.wrap ((i : Int) + 1) = ((i + 1 : Nat) : Int):=(IntWalk.i64_in _ (by omega)).trans (by omega);obtain ⟨tr,hT⟩ : ∃ r,zAA 2 3 2 now draw = r:=⟨_,rfl⟩;refine zK (wd:=1) (Q:=qH (qY g0)) (by decide) zN (zb (zY g0)) zP ?_;repeat' (first | (simp only [w2]) | (apply And.intro<;>intro hc<;>(first | exact Bool.noConfusion hc | (exfalso;first | exact absurd rfl hc | omega) | (simp only [zl] at hc<;>first | exact absurd rfl hc | (exfalso;first | exact absurd rfl hc | omega) | skip) | skip)) | (refine And.intro zj ?_) | (apply And.intro) | (intro s hs;skip) | (refine Exists.intro _ (And.intro ⟨rfl,rfl,rfl⟩ ?_)))
   refine zK (wd:=1) (Q:=qH (qY g0)) (by decide) zN (zb (zY g0)) zP ?_;repeat' (first | (simp only [w2]) | (apply And.intro<;>intro hc<;>(first | exact Bool.noConfusion hc | (exfalso;first | exact absurd rfl hc | omega) | (simp only [zl] at hc<;>first | exact absurd rfl hc | (exfalso;first | exact absurd rfl hc | omega) | skip) | skip)) | (refine And.intro zj ?_) | (apply And.intro) | (intro s hs;(have q : tr = s:=hT.symm.trans hs.symm;clear hs;subst q)) | (refine Exists.intro _ (And.intro ⟨rfl,rfl,rfl⟩ ?_)))
   refine zK (wd:=1) (Q:=qH (qY g0)) (by decide) zN (zb (zY g0)) zP ?_;repeat' (first | (simp only [w2]) | (apply And.intro<;>intro hc<;>(first | exact Bool.noConfusion hc | (exfalso;first | exact absurd rfl hc | omega) | (simp only [zl] at hc<;>first | exact absurd rfl hc | (exfalso;first | exact absurd rfl hc | omega) | skip) | skip)) | (refine And.intro zj ?_) | (apply And.intro) | (intro s hs;skip) | (refine Exists.intro _ (And.intro ⟨rfl,rfl,rfl⟩ ?_)))
   refine zK (wd:=1) (Q:=qH (qY g0)) (by decide) zN (zb (zY g0)) zP ?_;repeat' (first | (simp only [w2,w3]) | (apply And.intro<;>intro hc<;>(first | exact Bool.noConfusion hc | (exfalso;first | exact absurd rfl hc | omega) | (simp only [zl] at hc<;>first | exact absurd rfl hc | (exfalso;first | exact absurd rfl hc | omega) | skip) | skip)) | (refine And.intro zj ?_) | (apply And.intro) | (intro s hs;(have q:=qj hs (zT zd _) hP;clear hs;subst q)) | (refine Exists.intro _ (And.intro ⟨rfl,rfl,rfl⟩ ?_)))
   . exact λ_ _=>⟨rfl,ZG _⟩
   . exact Eq.mpr (congrArg (λz : List Hel=>z.length <= 9223372036854775807) (zT zd _)) (by omega)
   refine zK (wd:=1) (Q:=qH (qY g0)) (by decide) zN (zb (zY g0)) zP ?_;repeat' (first | (simp only [w2,w3]) | (apply And.intro<;>intro hc<;>(first | exact Bool.noConfusion hc | (exfalso;first | exact absurd rfl hc | omega) | (simp only [zl] at hc<;>first | exact absurd rfl hc | (exfalso;first | exact absurd rfl hc | omega) | skip) | skip)) | (refine And.intro zj ?_) | (apply And.intro) | (intro s hs;skip) | (refine Exists.intro _ (And.intro ⟨rfl,rfl,rfl⟩ ?_)))
   refine zK (wd:=1) (Q:=qH (qY g0)) (by decide) zN (zb (zY g0)) zP ?_;repeat' (first | (simp only [w2,w3]) | (apply And.intro<;>intro hc<;>(first | exact Bool.noConfusion hc | (exfalso;first | exact absurd rfl hc | omega) | (simp only [zl] at hc<;>first | exact absurd rfl hc | (exfalso;first | exact absurd rfl hc | omega) | skip) | skip)) | (refine And.intro zj ?_) | (apply And.intro) | (intro s hs;skip) | (refine Exists.intro _ (And.intro ⟨rfl,rfl,rfl⟩ ?_)))
   refine QB (wd:=1) (Q:=qH (qY g0)) (by decide) zN (zb (zY g0)) zP ?_;repeat' (first | (simp only [w2,w3]) | (apply And.intro<;>intro hc<;>(first | exact Bool.noConfusion hc | (exfalso;first | exact absurd rfl hc | omega) | (simp only [zl] at hc<;>first | exact absurd rfl hc | (exfalso;first | exact absurd rfl hc | omega) | skip) | skip)) | (refine And.intro zj ?_) | (apply And.intro) | (intro s hs;skip) | (refine Exists.intro _ (And.intro ⟨rfl,rfl,rfl⟩ ?_)))
   conv=>whnf
   have hAl : (qO sd (ZP c now draw) i).held.length = sd.held.length + 1:=qf hle1;refine ZC (s:=qO sd (ZP c now draw) i) (d:=44) hR2 ha rfl (λp h j=>(ZJ h).trans (zc h)) rfl rfl (by rw [hAl];rfl) rfl rfl hAl.symm rfl λq hq j hj=>?_;rw [hAl] at hq;show Zu _ _ (zo zm (Zn i (ZP c now draw) sd.held) q j);refine YD (r:=zo zm sd.held) hle1 ?_ hq (λh=>?_) (λh=>?_) (λh=>?_)
   . show min (sd.held.length + 1 - i) (sd.held.length + 1 - (i + 1)) = _;omega
   . rw [show zo zm (Zn i (ZP c now draw) sd.held) q j = zo zm sd.held q j from congrArg (λz=>zm.cell z j) (Yb hle1 h)];exact (zm.sh _ j hj).le
   . subst h;rw [show zo zm (Zn q (ZP c now draw) sd.held) q j = zm.cell (ZP c now draw) j from congrArg (λz=>zm.cell z j) (QD hle1)];have e0 : ZP c now draw = ⟨c.num,c.data,tr.1,if 1099511627776 < now + 20 then 1099511627776 else now + 20⟩:=by unfold ZP;rw [hT]
     rw [e0];iterate 11 (rcases j with _ | j;· first | exact zC rfl | exact zW rfl | exact ZQ rfl rfl rfl (by first | rfl | exact Nat.zero_add _) (by first | exact Nat.le_refl _ | (simp;done)) λq hq j hj=>YH (E:=eB) (congrArg (λz=>c.data.getD z default) (Nat.zero_add q)))
     exact absurd hj (by omega)
   . rw [show zo zm (Zn i (ZP c now draw) sd.held) q j = zo zm sd.held (q - 1) j from congrArg (λz=>zm.cell z j) (Yc hle1 h)];exact (zm.sh _ j hj).le
theorem acc3_4 (g0 : Nat) (L : List Sed) (a : Nat) (sd : Sed) (now : Int) (c : Cas) (deaf : Bool) (draw : Int) (hI : AcJ L a sd now c draw) (R : List Sed × Bool × Int) (hR : R = (L.set a (if deaf = true then ze sd (c.num + 1) else qO sd (ZP c now draw) (ZM c.num sd.held 0).1),!deaf,0)) (a3 : a = 4) :
 Sem Try.prog Try.f11.ntmps 0 (Zc 11 (Try.f11.body.getD Code.ret)) (SB L a sd now c deaf draw ()).fr (SB L a sd now c deaf draw ()).H (SB L a sd now c deaf draw ()).nx (qQ T Try.f11.results.toList λx H _=>FinN (some R.1.length) (Zz R) (Zj ZB 78 R.1) x H):=by
 obtain ⟨ha,hn,hk,hh,hnum,hd,hnow,hdr⟩:=hI;unfold SB;subst a3;have w1 : IntKind.i64.wrap (c.num + 1) = c.num + 1:=IntWalk.i64_in _ (by omega);have w2 : IntKind.i64.wrap (now + 20) = now + 20:=IntWalk.i64_in _ (by omega);cases deaf with
 | true=>
   refine zK (wd:=1024) (Q:=qH (qY g0)) (by decide) zN (zb (zY g0)) zP ?_;repeat' (first | (simp only [w1]) | (apply And.intro<;>intro hc<;>(first | exact Bool.noConfusion hc | (exfalso;first | exact absurd rfl hc | omega) | (simp only [zl] at hc<;>first | exact absurd rfl hc | (exfalso;first | exact absurd rfl hc | omega) | skip) | skip)) | (refine And.intro zj ?_) | (apply And.intro) | (intro s hs;skip) | (refine Exists.intro _ (And.intro ⟨rfl,rfl,rfl⟩ ?_)))
   . exact rfl
   . conv=>whnf
     refine ZC (s:=sd) (d:=2) (hR.trans ?_) ha rfl (λp h j=>zc h) rfl rfl rfl rfl rfl rfl rfl λq hq j hj=>(zm.sh _ j hj).le;rw [if_pos rfl,show ze sd (c.num + 1) = sd from if_pos hc];rfl
   . exact ⟨rfl,ZG _⟩
   . exact Eq.mpr (congrArg KpI (zT zd _)) hk
   . conv=>whnf
     have q : sd.held.filter (qU (some (c.num + 1))) = s:=(hs.trans (by rw [zT zd])).symm;clear hs;refine ZC (s:=⟨sd.id,c.num + 1,s⟩) (d:=5141) (hR.trans ?_) ha rfl (λp h j=>(ZJ h).trans ((ZJ h).trans (zc h))) rfl rfl rfl rfl rfl rfl rfl λq hq j hj=>(zm.sh _ j hj).le;rw [if_pos rfl,show ze sd (c.num + 1) = ⟨sd.id,c.num + 1,s⟩ from (if_neg hc).trans (by rw [q])];rfl
 | false=>
   obtain ⟨⟨i,b⟩,hP⟩ : ∃ P,ZM c.num sd.held 0 = P:=⟨_,rfl⟩;have hle:=QC (id:=c.num) (L:=sd.held) (k:=0);rw [hP,Nat.zero_add] at hle;dsimp only at hle;obtain ⟨hle1,_,_⟩:=hle;have hR2 : R = (L.set 4 (qO sd (ZP c now draw) i),true,0):=by rw [hR,hP];rfl
   clear hR;have w3 : IntKind.i64.wrap ((i : Int) + 1) = ((i + 1 : Nat) : Int):=(IntWalk.i64_in _ (by omega)).trans (by omega);obtain ⟨tr,hT⟩ : ∃ r,zAA 2 3 2 now draw = r:=⟨_,rfl⟩;refine zK (wd:=1) (Q:=qH (qY g0)) (by decide) zN (zb (zY g0)) zP ?_;repeat' (first | (simp only [w2]) | (apply And.intro<;>intro hc<;>(first | exact Bool.noConfusion hc | (exfalso;first | exact absurd rfl hc | omega) | (simp only [zl] at hc<;>first | exact absurd rfl hc | (exfalso;first | exact absurd rfl hc | omega) | skip) | skip)) | (refine And.intro zj ?_) | (apply And.intro) | (intro s hs;skip) | (refine Exists.intro _ (And.intro ⟨rfl,rfl,rfl⟩ ?_)))
   refine zK (wd:=1) (Q:=qH (qY g0)) (by decide) zN (zb (zY g0)) zP ?_;repeat' (first | (simp only [w2]) | (apply And.intro<;>intro hc<;>(first | exact Bool.noConfusion hc | (exfalso;first | exact absurd rfl hc | omega) | (simp only [zl] at hc<;>first | exact absurd rfl hc | (exfalso;first | exact absurd rfl hc | omega) | skip) | skip)) | (refine And.intro zj ?_) | (apply And.intro) | (intro s hs;(have q : tr = s:=hT.symm.trans hs.symm;clear hs;subst q)) | (refine Exists.intro _ (And.intro ⟨rfl,rfl,rfl⟩ ?_)))
   refine zK (wd:=1) (Q:=qH (qY g0)) (by decide) zN (zb (zY g0)) zP ?_;repeat' (first | (simp only [w2]) | (apply And.intro<;>intro hc<;>(first | exact Bool.noConfusion hc | (exfalso;first | exact absurd rfl hc | omega) | (simp only [zl] at hc<;>first | exact absurd rfl hc | (exfalso;first | exact absurd rfl hc | omega) | skip) | skip)) | (refine And.intro zj ?_) | (apply And.intro) | (intro s hs;skip) | (refine Exists.intro _ (And.intro ⟨rfl,rfl,rfl⟩ ?_)))
   refine zK (wd:=1) (Q:=qH (qY g0)) (by decide) zN (zb (zY g0)) zP ?_;repeat' (first | (simp only [w2,w3]) | (apply And.intro<;>intro hc<;>(first | exact Bool.noConfusion hc | (exfalso;first | exact absurd rfl hc | omega) | (simp only [zl] at hc<;>first | exact absurd rfl hc | (exfalso;first | exact absurd rfl hc | omega) | skip) | skip)) | (refine And.intro zj ?_) | (apply And.intro) | (intro s hs;(have q:=qj hs (zT zd _) hP;clear hs;subst q)) | (refine Exists.intro _ (And.intro ⟨rfl,rfl,rfl⟩ ?_)))
   . exact λ_ _=>⟨rfl,ZG _⟩
   . exact Eq.mpr (congrArg (λz : List Hel=>z.length <= 9223372036854775807) (zT zd _)) (by omega)
   refine zK (wd:=1) (Q:=qH (qY g0)) (by decide) zN (zb (zY g0)) zP ?_;repeat' (first | (simp only [w2,w3]) | (apply And.intro<;>intro hc<;>(first | exact Bool.noConfusion hc | (exfalso;first | exact absurd rfl hc | omega) | (simp only [zl] at hc<;>first | exact absurd rfl hc | (exfalso;first | exact absurd rfl hc | omega) | skip) | skip)) | (refine And.intro zj ?_) | (apply And.intro) | (intro s hs;skip) | (refine Exists.intro _ (And.intro ⟨rfl,rfl,rfl⟩ ?_)))
   refine zK (wd:=1) (Q:=qH (qY g0)) (by decide) zN (zb (zY g0)) zP ?_;repeat' (first | (simp only [w2,w3]) | (apply And.intro<;>intro hc<;>(first | exact Bool.noConfusion hc | (exfalso;first | exact absurd rfl hc | omega) | (simp only [zl] at hc<;>first | exact absurd rfl hc | (exfalso;first | exact absurd rfl hc | omega) | skip) | skip)) | (refine And.intro zj ?_) | (apply And.intro) | (intro s hs;skip) | (refine Exists.intro _ (And.intro ⟨rfl,rfl,rfl⟩ ?_)))
   refine QB (wd:=1) (Q:=qH (qY g0)) (by decide) zN (zb (zY g0)) zP ?_;repeat' (first | (simp only [w2,w3]) | (apply And.intro<;>intro hc<;>(first | exact Bool.noConfusion hc | (exfalso;first | exact absurd rfl hc | omega) | (simp only [zl] at hc<;>first | exact absurd rfl hc | (exfalso;first | exact absurd rfl hc | omega) | skip) | skip)) | (refine And.intro zj ?_) | (apply And.intro) | (intro s hs;skip) | (refine Exists.intro _ (And.intro ⟨rfl,rfl,rfl⟩ ?_)))
   conv=>whnf
   have hAl : (qO sd (ZP c now draw) i).held.length = sd.held.length + 1:=qf hle1;refine ZC (s:=qO sd (ZP c now draw) i) (d:=44) hR2 ha rfl (λp h j=>(ZJ h).trans (zc h)) rfl rfl (by rw [hAl];rfl) rfl rfl hAl.symm rfl λq hq j hj=>?_;rw [hAl] at hq;show Zu _ _ (zo zm (Zn i (ZP c now draw) sd.held) q j);refine YD (r:=zo zm sd.held) hle1 ?_ hq (λh=>?_) (λh=>?_) (λh=>?_)
   . show min (sd.held.length + 1 - i) (sd.held.length + 1 - (i + 1)) = _;omega
   . rw [show zo zm (Zn i (ZP c now draw) sd.held) q j = zo zm sd.held q j from congrArg (λz=>zm.cell z j) (Yb hle1 h)];exact (zm.sh _ j hj).le
   . subst h;rw [show zo zm (Zn q (ZP c now draw) sd.held) q j = zm.cell (ZP c now draw) j from congrArg (λz=>zm.cell z j) (QD hle1)];have e0 : ZP c now draw = ⟨c.num,c.data,tr.1,if 1099511627776 < now + 20 then 1099511627776 else now + 20⟩:=by unfold ZP;rw [hT]
     rw [e0];iterate 11 (rcases j with _ | j;· first | exact zC rfl | exact zW rfl | exact ZQ rfl rfl rfl (by first | rfl | exact Nat.zero_add _) (by first | exact Nat.le_refl _ | (simp;done)) λq hq j hj=>YH (E:=eB) (congrArg (λz=>c.data.getD z default) (Nat.zero_add q)))
     exact absurd hj (by omega)
   . rw [show zo zm (Zn i (ZP c now draw) sd.held) q j = zo zm sd.held (q - 1) j from congrArg (λz=>zm.cell z j) (Yc hle1 h)];exact (zm.sh _ j hj).le
theorem acc3_5 (g0 : Nat) (L : List Sed) (a : Nat) (sd : Sed) (now : Int) (c : Cas) (deaf : Bool) (draw : Int) (hI : AcJ L a sd now c draw) (R : List Sed × Bool × Int) (hR : R = (L.set a (if deaf = true then ze sd (c.num + 1) else qO sd (ZP c now draw) (ZM c.num sd.held 0).1),!deaf,0)) (a3 : a = 5) :
 Sem Try.prog Try.f11.ntmps 0 (Zc 11 (Try.f11.body.getD Code.ret)) (SB L a sd now c deaf draw ()).fr (SB L a sd now c deaf draw ()).H (SB L a sd now c deaf draw ()).nx (qQ T Try.f11.results.toList λx H _=>FinN (some R.1.length) (Zz R) (Zj ZB 78 R.1) x H):=by
 obtain ⟨ha,hn,hk,hh,hnum,hd,hnow,hdr⟩:=hI;unfold SB;subst a3;have w1 : IntKind.i64.wrap (c.num + 1) = c.num + 1:=IntWalk.i64_in _ (by omega);have w2 : IntKind.i64.wrap (now + 20) = now + 20:=IntWalk.i64_in _ (by omega);cases deaf with
 | true=>
   refine zK (wd:=1024) (Q:=qH (qY g0)) (by decide) zN (zb (zY g0)) zP ?_;repeat' (first | (simp only [w1]) | (apply And.intro<;>intro hc<;>(first | exact Bool.noConfusion hc | (exfalso;first | exact absurd rfl hc | omega) | (simp only [zl] at hc<;>first | exact absurd rfl hc | (exfalso;first | exact absurd rfl hc | omega) | skip) | skip)) | (refine And.intro zj ?_) | (apply And.intro) | (intro s hs;skip) | (refine Exists.intro _ (And.intro ⟨rfl,rfl,rfl⟩ ?_)))
   . exact rfl
   . conv=>whnf
     refine ZC (s:=sd) (d:=2) (hR.trans ?_) ha rfl (λp h j=>zc h) rfl rfl rfl rfl rfl rfl rfl λq hq j hj=>(zm.sh _ j hj).le;rw [if_pos rfl,show ze sd (c.num + 1) = sd from if_pos hc];rfl
   . exact ⟨rfl,ZG _⟩
   . exact Eq.mpr (congrArg KpI (zT zd _)) hk
   . conv=>whnf
     have q : sd.held.filter (qU (some (c.num + 1))) = s:=(hs.trans (by rw [zT zd])).symm;clear hs;refine ZC (s:=⟨sd.id,c.num + 1,s⟩) (d:=5141) (hR.trans ?_) ha rfl (λp h j=>(ZJ h).trans ((ZJ h).trans (zc h))) rfl rfl rfl rfl rfl rfl rfl λq hq j hj=>(zm.sh _ j hj).le;rw [if_pos rfl,show ze sd (c.num + 1) = ⟨sd.id,c.num + 1,s⟩ from (if_neg hc).trans (by rw [q])];rfl
 | false=>
   obtain ⟨⟨i,b⟩,hP⟩ : ∃ P,ZM c.num sd.held 0 = P:=⟨_,rfl⟩;have hle:=QC (id:=c.num) (L:=sd.held) (k:=0);rw [hP,Nat.zero_add] at hle;dsimp only at hle;obtain ⟨hle1,_,_⟩:=hle;have hR2 : R = (L.set 5 (qO sd (ZP c now draw) i),true,0):=by rw [hR,hP];rfl
   clear hR;have w3 : IntKind.i64.wrap ((i : Int) + 1) = ((i + 1 : Nat) : Int):=(IntWalk.i64_in _ (by omega)).trans (by omega);obtain ⟨tr,hT⟩ : ∃ r,zAA 2 3 2 now draw = r:=⟨_,rfl⟩;refine zK (wd:=1) (Q:=qH (qY g0)) (by decide) zN (zb (zY g0)) zP ?_;repeat' (first | (simp only [w2]) | (apply And.intro<;>intro hc<;>(first | exact Bool.noConfusion hc | (exfalso;first | exact absurd rfl hc | omega) | (simp only [zl] at hc<;>first | exact absurd rfl hc | (exfalso;first | exact absurd rfl hc | omega) | skip) | skip)) | (refine And.intro zj ?_) | (apply And.intro) | (intro s hs;skip) | (refine Exists.intro _ (And.intro ⟨rfl,rfl,rfl⟩ ?_)))
   refine zK (wd:=1) (Q:=qH (qY g0)) (by decide) zN (zb (zY g0)) zP ?_;repeat' (first | (simp only [w2]) | (apply And.intro<;>intro hc<;>(first | exact Bool.noConfusion hc | (exfalso;first | exact absurd rfl hc | omega) | (simp only [zl] at hc<;>first | exact absurd rfl hc | (exfalso;first | exact absurd rfl hc | omega) | skip) | skip)) | (refine And.intro zj ?_) | (apply And.intro) | (intro s hs;(have q : tr = s:=hT.symm.trans hs.symm;clear hs;subst q)) | (refine Exists.intro _ (And.intro ⟨rfl,rfl,rfl⟩ ?_)))
   refine zK (wd:=1) (Q:=qH (qY g0)) (by decide) zN (zb (zY g0)) zP ?_;repeat' (first | (simp only [w2]) | (apply And.intro<;>intro hc<;>(first | exact Bool.noConfusion hc | (exfalso;first | exact absurd rfl hc | omega) | (simp only [zl] at hc<;>first | exact absurd rfl hc | (exfalso;first | exact absurd rfl hc | omega) | skip) | skip)) | (refine And.intro zj ?_) | (apply And.intro) | (intro s hs;skip) | (refine Exists.intro _ (And.intro ⟨rfl,rfl,rfl⟩ ?_)))
   refine zK (wd:=1) (Q:=qH (qY g0)) (by decide) zN (zb (zY g0)) zP ?_;repeat' (first | (simp only [w2,w3]) | (apply And.intro<;>intro hc<;>(first | exact Bool.noConfusion hc | (exfalso;first | exact absurd rfl hc | omega) | (simp only [zl] at hc<;>first | exact absurd rfl hc | (exfalso;first | exact absurd rfl hc | omega) | skip) | skip)) | (refine And.intro zj ?_) | (apply And.intro) | (intro s hs;(have q:=qj hs (zT zd _) hP;clear hs;subst q)) | (refine Exists.intro _ (And.intro ⟨rfl,rfl,rfl⟩ ?_)))
   . exact λ_ _=>⟨rfl,ZG _⟩
   . exact Eq.mpr (congrArg (λz : List Hel=>z.length <= 9223372036854775807) (zT zd _)) (by omega)
   refine zK (wd:=1) (Q:=qH (qY g0)) (by decide) zN (zb (zY g0)) zP ?_;repeat' (first | (simp only [w2,w3]) | (apply And.intro<;>intro hc<;>(first | exact Bool.noConfusion hc | (exfalso;first | exact absurd rfl hc | omega) | (simp only [zl] at hc<;>first | exact absurd rfl hc | (exfalso;first | exact absurd rfl hc | omega) | skip) | skip)) | (refine And.intro zj ?_) | (apply And.intro) | (intro s hs;skip) | (refine Exists.intro _ (And.intro ⟨rfl,rfl,rfl⟩ ?_)))
   refine zK (wd:=1) (Q:=qH (qY g0)) (by decide) zN (zb (zY g0)) zP ?_;repeat' (first | (simp only [w2,w3]) | (apply And.intro<;>intro hc<;>(first | exact Bool.noConfusion hc | (exfalso;first | exact absurd rfl hc | omega) | (simp only [zl] at hc<;>first | exact absurd rfl hc | (exfalso;first | exact absurd rfl hc | omega) | skip) | skip)) | (refine And.intro zj ?_) | (apply And.intro) | (intro s hs;skip) | (refine Exists.intro _ (And.intro ⟨rfl,rfl,rfl⟩ ?_)))
   refine QB (wd:=1) (Q:=qH (qY g0)) (by decide) zN (zb (zY g0)) zP ?_;repeat' (first | (simp only [w2,w3]) | (apply And.intro<;>intro hc<;>(first | exact Bool.noConfusion hc | (exfalso;first | exact absurd rfl hc | omega) | (simp only [zl] at hc<;>first | exact absurd rfl hc | (exfalso;first | exact absurd rfl hc | omega) | skip) | skip)) | (refine And.intro zj ?_) | (apply And.intro) | (intro s hs;skip) | (refine Exists.intro _ (And.intro ⟨rfl,rfl,rfl⟩ ?_)))
   conv=>whnf
   have hAl : (qO sd (ZP c now draw) i).held.length = sd.held.length + 1:=qf hle1;refine ZC (s:=qO sd (ZP c now draw) i) (d:=44) hR2 ha rfl (λp h j=>(ZJ h).trans (zc h)) rfl rfl (by rw [hAl];rfl) rfl rfl hAl.symm rfl λq hq j hj=>?_;rw [hAl] at hq;show Zu _ _ (zo zm (Zn i (ZP c now draw) sd.held) q j);refine YD (r:=zo zm sd.held) hle1 ?_ hq (λh=>?_) (λh=>?_) (λh=>?_)
   . show min (sd.held.length + 1 - i) (sd.held.length + 1 - (i + 1)) = _;omega
   . rw [show zo zm (Zn i (ZP c now draw) sd.held) q j = zo zm sd.held q j from congrArg (λz=>zm.cell z j) (Yb hle1 h)];exact (zm.sh _ j hj).le
   . subst h;rw [show zo zm (Zn q (ZP c now draw) sd.held) q j = zm.cell (ZP c now draw) j from congrArg (λz=>zm.cell z j) (QD hle1)];have e0 : ZP c now draw = ⟨c.num,c.data,tr.1,if 1099511627776 < now + 20 then 1099511627776 else now + 20⟩:=by unfold ZP;rw [hT]
     rw [e0];iterate 11 (rcases j with _ | j;· first | exact zC rfl | exact zW rfl | exact ZQ rfl rfl rfl (by first | rfl | exact Nat.zero_add _) (by first | exact Nat.le_refl _ | (simp;done)) λq hq j hj=>YH (E:=eB) (congrArg (λz=>c.data.getD z default) (Nat.zero_add q)))
     exact absurd hj (by omega)
   . rw [show zo zm (Zn i (ZP c now draw) sd.held) q j = zo zm sd.held (q - 1) j from congrArg (λz=>zm.cell z j) (Yc hle1 h)];exact (zm.sh _ j hj).le
theorem acc3_6 (g0 : Nat) (L : List Sed) (a : Nat) (sd : Sed) (now : Int) (c : Cas) (deaf : Bool) (draw : Int) (hI : AcJ L a sd now c draw) (R : List Sed × Bool × Int) (hR : R = (L.set a (if deaf = true then ze sd (c.num + 1) else qO sd (ZP c now draw) (ZM c.num sd.held 0).1),!deaf,0)) (a3 : a = 6) :
 Sem Try.prog Try.f11.ntmps 0 (Zc 11 (Try.f11.body.getD Code.ret)) (SB L a sd now c deaf draw ()).fr (SB L a sd now c deaf draw ()).H (SB L a sd now c deaf draw ()).nx (qQ T Try.f11.results.toList λx H _=>FinN (some R.1.length) (Zz R) (Zj ZB 78 R.1) x H):=by
 obtain ⟨ha,hn,hk,hh,hnum,hd,hnow,hdr⟩:=hI;unfold SB;subst a3;have w1 : IntKind.i64.wrap (c.num + 1) = c.num + 1:=IntWalk.i64_in _ (by omega);have w2 : IntKind.i64.wrap (now + 20) = now + 20:=IntWalk.i64_in _ (by omega);cases deaf with
 | true=>
   refine zK (wd:=1024) (Q:=qH (qY g0)) (by decide) zN (zb (zY g0)) zP ?_;repeat' (first | (simp only [w1]) | (apply And.intro<;>intro hc<;>(first | exact Bool.noConfusion hc | (exfalso;first | exact absurd rfl hc | omega) | (simp only [zl] at hc<;>first | exact absurd rfl hc | (exfalso;first | exact absurd rfl hc | omega) | skip) | skip)) | (refine And.intro zj ?_) | (apply And.intro) | (intro s hs;skip) | (refine Exists.intro _ (And.intro ⟨rfl,rfl,rfl⟩ ?_)))
   . exact rfl
   . conv=>whnf
     refine ZC (s:=sd) (d:=2) (hR.trans ?_) ha rfl (λp h j=>zc h) rfl rfl rfl rfl rfl rfl rfl λq hq j hj=>(zm.sh _ j hj).le;rw [if_pos rfl,show ze sd (c.num + 1) = sd from if_pos hc];rfl
   . exact ⟨rfl,ZG _⟩
   . exact Eq.mpr (congrArg KpI (zT zd _)) hk
   . conv=>whnf
     have q : sd.held.filter (qU (some (c.num + 1))) = s:=(hs.trans (by rw [zT zd])).symm;clear hs;refine ZC (s:=⟨sd.id,c.num + 1,s⟩) (d:=5141) (hR.trans ?_) ha rfl (λp h j=>(ZJ h).trans ((ZJ h).trans (zc h))) rfl rfl rfl rfl rfl rfl rfl λq hq j hj=>(zm.sh _ j hj).le;rw [if_pos rfl,show ze sd (c.num + 1) = ⟨sd.id,c.num + 1,s⟩ from (if_neg hc).trans (by rw [q])];rfl
 | false=>
   obtain ⟨⟨i,b⟩,hP⟩ : ∃ P,ZM c.num sd.held 0 = P:=⟨_,rfl⟩;have hle:=QC (id:=c.num) (L:=sd.held) (k:=0);rw [hP,Nat.zero_add] at hle;dsimp only at hle;obtain ⟨hle1,_,_⟩:=hle;have hR2 : R = (L.set 6 (qO sd (ZP c now draw) i),true,0):=by rw [hR,hP];rfl
   clear hR;have w3 : IntKind.i64.wrap ((i : Int) + 1) = ((i + 1 : Nat) : Int):=(IntWalk.i64_in _ (by omega)).trans (by omega);obtain ⟨tr,hT⟩ : ∃ r,zAA 2 3 2 now draw = r:=⟨_,rfl⟩;refine zK (wd:=1) (Q:=qH (qY g0)) (by decide) zN (zb (zY g0)) zP ?_;repeat' (first | (simp only [w2]) | (apply And.intro<;>intro hc<;>(first | exact Bool.noConfusion hc | (exfalso;first | exact absurd rfl hc | omega) | (simp only [zl] at hc<;>first | exact absurd rfl hc | (exfalso;first | exact absurd rfl hc | omega) | skip) | skip)) | (refine And.intro zj ?_) | (apply And.intro) | (intro s hs;skip) | (refine Exists.intro _ (And.intro ⟨rfl,rfl,rfl⟩ ?_)))
   refine zK (wd:=1) (Q:=qH (qY g0)) (by decide) zN (zb (zY g0)) zP ?_;repeat' (first | (simp only [w2]) | (apply And.intro<;>intro hc<;>(first | exact Bool.noConfusion hc | (exfalso;first | exact absurd rfl hc | omega) | (simp only [zl] at hc<;>first | exact absurd rfl hc | (exfalso;first | exact absurd rfl hc | omega) | skip) | skip)) | (refine And.intro zj ?_) | (apply And.intro) | (intro s hs;(have q : tr = s:=hT.symm.trans hs.symm;clear hs;subst q)) | (refine Exists.intro _ (And.intro ⟨rfl,rfl,rfl⟩ ?_)))
   refine zK (wd:=1) (Q:=qH (qY g0)) (by decide) zN (zb (zY g0)) zP ?_;repeat' (first | (simp only [w2]) | (apply And.intro<;>intro hc<;>(first | exact Bool.noConfusion hc | (exfalso;first | exact absurd rfl hc | omega) | (simp only [zl] at hc<;>first | exact absurd rfl hc | (exfalso;first | exact absurd rfl hc | omega) | skip) | skip)) | (refine And.intro zj ?_) | (apply And.intro) | (intro s hs;skip) | (refine Exists.intro _ (And.intro ⟨rfl,rfl,rfl⟩ ?_)))
   refine zK (wd:=1) (Q:=qH (qY g0)) (by decide) zN (zb (zY g0)) zP ?_;repeat' (first | (simp only [w2,w3]) | (apply And.intro<;>intro hc<;>(first | exact Bool.noConfusion hc | (exfalso;first | exact absurd rfl hc | omega) | (simp only [zl] at hc<;>first | exact absurd rfl hc | (exfalso;first | exact absurd rfl hc | omega) | skip) | skip)) | (refine And.intro zj ?_) | (apply And.intro) | (intro s hs;(have q:=qj hs (zT zd _) hP;clear hs;subst q)) | (refine Exists.intro _ (And.intro ⟨rfl,rfl,rfl⟩ ?_)))
   . exact λ_ _=>⟨rfl,ZG _⟩
   . exact Eq.mpr (congrArg (λz : List Hel=>z.length <= 9223372036854775807) (zT zd _)) (by omega)
   refine zK (wd:=1) (Q:=qH (qY g0)) (by decide) zN (zb (zY g0)) zP ?_;repeat' (first | (simp only [w2,w3]) | (apply And.intro<;>intro hc<;>(first | exact Bool.noConfusion hc | (exfalso;first | exact absurd rfl hc | omega) | (simp only [zl] at hc<;>first | exact absurd rfl hc | (exfalso;first | exact absurd rfl hc | omega) | skip) | skip)) | (refine And.intro zj ?_) | (apply And.intro) | (intro s hs;skip) | (refine Exists.intro _ (And.intro ⟨rfl,rfl,rfl⟩ ?_)))
   refine zK (wd:=1) (Q:=qH (qY g0)) (by decide) zN (zb (zY g0)) zP ?_;repeat' (first | (simp only [w2,w3]) | (apply And.intro<;>intro hc<;>(first | exact Bool.noConfusion hc | (exfalso;first | exact absurd rfl hc | omega) | (simp only [zl] at hc<;>first | exact absurd rfl hc | (exfalso;first | exact absurd rfl hc | omega) | skip) | skip)) | (refine And.intro zj ?_) | (apply And.intro) | (intro s hs;skip) | (refine Exists.intro _ (And.intro ⟨rfl,rfl,rfl⟩ ?_)))
   refine QB (wd:=1) (Q:=qH (qY g0)) (by decide) zN (zb (zY g0)) zP ?_;repeat' (first | (simp only [w2,w3]) | (apply And.intro<;>intro hc<;>(first | exact Bool.noConfusion hc | (exfalso;first | exact absurd rfl hc | omega) | (simp only [zl] at hc<;>first | exact absurd rfl hc | (exfalso;first | exact absurd rfl hc | omega) | skip) | skip)) | (refine And.intro zj ?_) | (apply And.intro) | (intro s hs;skip) | (refine Exists.intro _ (And.intro ⟨rfl,rfl,rfl⟩ ?_)))
   conv=>whnf
   have hAl : (qO sd (ZP c now draw) i).held.length = sd.held.length + 1:=qf hle1;refine ZC (s:=qO sd (ZP c now draw) i) (d:=44) hR2 ha rfl (λp h j=>(ZJ h).trans (zc h)) rfl rfl (by rw [hAl];rfl) rfl rfl hAl.symm rfl λq hq j hj=>?_;rw [hAl] at hq;show Zu _ _ (zo zm (Zn i (ZP c now draw) sd.held) q j);refine YD (r:=zo zm sd.held) hle1 ?_ hq (λh=>?_) (λh=>?_) (λh=>?_)
   . show min (sd.held.length + 1 - i) (sd.held.length + 1 - (i + 1)) = _;omega
   . rw [show zo zm (Zn i (ZP c now draw) sd.held) q j = zo zm sd.held q j from congrArg (λz=>zm.cell z j) (Yb hle1 h)];exact (zm.sh _ j hj).le
   . subst h;rw [show zo zm (Zn q (ZP c now draw) sd.held) q j = zm.cell (ZP c now draw) j from congrArg (λz=>zm.cell z j) (QD hle1)];have e0 : ZP c now draw = ⟨c.num,c.data,tr.1,if 1099511627776 < now + 20 then 1099511627776 else now + 20⟩:=by unfold ZP;rw [hT]
     rw [e0];iterate 11 (rcases j with _ | j;· first | exact zC rfl | exact zW rfl | exact ZQ rfl rfl rfl (by first | rfl | exact Nat.zero_add _) (by first | exact Nat.le_refl _ | (simp;done)) λq hq j hj=>YH (E:=eB) (congrArg (λz=>c.data.getD z default) (Nat.zero_add q)))
     exact absurd hj (by omega)
   . rw [show zo zm (Zn i (ZP c now draw) sd.held) q j = zo zm sd.held (q - 1) j from congrArg (λz=>zm.cell z j) (Yc hle1 h)];exact (zm.sh _ j hj).le
theorem acc3_7 (g0 : Nat) (L : List Sed) (a : Nat) (sd : Sed) (now : Int) (c : Cas) (deaf : Bool) (draw : Int) (hI : AcJ L a sd now c draw) (R : List Sed × Bool × Int) (hR : R = (L.set a (if deaf = true then ze sd (c.num + 1) else qO sd (ZP c now draw) (ZM c.num sd.held 0).1),!deaf,0)) (a3 : a = 7) :
 Sem Try.prog Try.f11.ntmps 0 (Zc 11 (Try.f11.body.getD Code.ret)) (SB L a sd now c deaf draw ()).fr (SB L a sd now c deaf draw ()).H (SB L a sd now c deaf draw ()).nx (qQ T Try.f11.results.toList λx H _=>FinN (some R.1.length) (Zz R) (Zj ZB 78 R.1) x H):=by
 obtain ⟨ha,hn,hk,hh,hnum,hd,hnow,hdr⟩:=hI;unfold SB;subst a3;have w1 : IntKind.i64.wrap (c.num + 1) = c.num + 1:=IntWalk.i64_in _ (by omega);have w2 : IntKind.i64.wrap (now + 20) = now + 20:=IntWalk.i64_in _ (by omega);cases deaf with
 | true=>
   refine zK (wd:=1024) (Q:=qH (qY g0)) (by decide) zN (zb (zY g0)) zP ?_;repeat' (first | (simp only [w1]) | (apply And.intro<;>intro hc<;>(first | exact Bool.noConfusion hc | (exfalso;first | exact absurd rfl hc | omega) | (simp only [zl] at hc<;>first | exact absurd rfl hc | (exfalso;first | exact absurd rfl hc | omega) | skip) | skip)) | (refine And.intro zj ?_) | (apply And.intro) | (intro s hs;skip) | (refine Exists.intro _ (And.intro ⟨rfl,rfl,rfl⟩ ?_)))
   . exact rfl
   . conv=>whnf
     refine ZC (s:=sd) (d:=2) (hR.trans ?_) ha rfl (λp h j=>zc h) rfl rfl rfl rfl rfl rfl rfl λq hq j hj=>(zm.sh _ j hj).le;rw [if_pos rfl,show ze sd (c.num + 1) = sd from if_pos hc];rfl
   . exact ⟨rfl,ZG _⟩
   . exact Eq.mpr (congrArg KpI (zT zd _)) hk
   . conv=>whnf
     have q : sd.held.filter (qU (some (c.num + 1))) = s:=(hs.trans (by rw [zT zd])).symm;clear hs;refine ZC (s:=⟨sd.id,c.num + 1,s⟩) (d:=5141) (hR.trans ?_) ha rfl (λp h j=>(ZJ h).trans ((ZJ h).trans (zc h))) rfl rfl rfl rfl rfl rfl rfl λq hq j hj=>(zm.sh _ j hj).le;rw [if_pos rfl,show ze sd (c.num + 1) = ⟨sd.id,c.num + 1,s⟩ from (if_neg hc).trans (by rw [q])];rfl
 | false=>
   obtain ⟨⟨i,b⟩,hP⟩ : ∃ P,ZM c.num sd.held 0 = P:=⟨_,rfl⟩;have hle:=QC (id:=c.num) (L:=sd.held) (k:=0);rw [hP,Nat.zero_add] at hle;dsimp only at hle;obtain ⟨hle1,_,_⟩:=hle;have hR2 : R = (L.set 7 (qO sd (ZP c now draw) i),true,0):=by rw [hR,hP];rfl
   clear hR;have w3 : IntKind.i64.wrap ((i : Int) + 1) = ((i + 1 : Nat) : Int):=(IntWalk.i64_in _ (by omega)).trans (by omega);obtain ⟨tr,hT⟩ : ∃ r,zAA 2 3 2 now draw = r:=⟨_,rfl⟩;refine zK (wd:=1) (Q:=qH (qY g0)) (by decide) zN (zb (zY g0)) zP ?_;repeat' (first | (simp only [w2]) | (apply And.intro<;>intro hc<;>(first | exact Bool.noConfusion hc | (exfalso;first | exact absurd rfl hc | omega) | (simp only [zl] at hc<;>first | exact absurd rfl hc | (exfalso;first | exact absurd rfl hc | omega) | skip) | skip)) | (refine And.intro zj ?_) | (apply And.intro) | (intro s hs;skip) | (refine Exists.intro _ (And.intro ⟨rfl,rfl,rfl⟩ ?_)))
   refine zK (wd:=1) (Q:=qH (qY g0)) (by decide) zN (zb (zY g0)) zP ?_;repeat' (first | (simp only [w2]) | (apply And.intro<;>intro hc<;>(first | exact Bool.noConfusion hc | (exfalso;first | exact absurd rfl hc | omega) | (simp only [zl] at hc<;>first | exact absurd rfl hc | (exfalso;first | exact absurd rfl hc | omega) | skip) | skip)) | (refine And.intro zj ?_) | (apply And.intro) | (intro s hs;(have q : tr = s:=hT.symm.trans hs.symm;clear hs;subst q)) | (refine Exists.intro _ (And.intro ⟨rfl,rfl,rfl⟩ ?_)))
   refine zK (wd:=1) (Q:=qH (qY g0)) (by decide) zN (zb (zY g0)) zP ?_;repeat' (first | (simp only [w2]) | (apply And.intro<;>intro hc<;>(first | exact Bool.noConfusion hc | (exfalso;first | exact absurd rfl hc | omega) | (simp only [zl] at hc<;>first | exact absurd rfl hc | (exfalso;first | exact absurd rfl hc | omega) | skip) | skip)) | (refine And.intro zj ?_) | (apply And.intro) | (intro s hs;skip) | (refine Exists.intro _ (And.intro ⟨rfl,rfl,rfl⟩ ?_)))
   refine zK (wd:=1) (Q:=qH (qY g0)) (by decide) zN (zb (zY g0)) zP ?_;repeat' (first | (simp only [w2,w3]) | (apply And.intro<;>intro hc<;>(first | exact Bool.noConfusion hc | (exfalso;first | exact absurd rfl hc | omega) | (simp only [zl] at hc<;>first | exact absurd rfl hc | (exfalso;first | exact absurd rfl hc | omega) | skip) | skip)) | (refine And.intro zj ?_) | (apply And.intro) | (intro s hs;(have q:=qj hs (zT zd _) hP;clear hs;subst q)) | (refine Exists.intro _ (And.intro ⟨rfl,rfl,rfl⟩ ?_)))
   . exact λ_ _=>⟨rfl,ZG _⟩
   . exact Eq.mpr (congrArg (λz : List Hel=>z.length <= 9223372036854775807) (zT zd _)) (by omega)
   refine zK (wd:=1) (Q:=qH (qY g0)) (by decide) zN (zb (zY g0)) zP ?_;repeat' (first | (simp only [w2,w3]) | (apply And.intro<;>intro hc<;>(first | exact Bool.noConfusion hc | (exfalso;first | exact absurd rfl hc | omega) | (simp only [zl] at hc<;>first | exact absurd rfl hc | (exfalso;first | exact absurd rfl hc | omega) | skip) | skip)) | (refine And.intro zj ?_) | (apply And.intro) | (intro s hs;skip) | (refine Exists.intro _ (And.intro ⟨rfl,rfl,rfl⟩ ?_)))
   refine zK (wd:=1) (Q:=qH (qY g0)) (by decide) zN (zb (zY g0)) zP ?_;repeat' (first | (simp only [w2,w3]) | (apply And.intro<;>intro hc<;>(first | exact Bool.noConfusion hc | (exfalso;first | exact absurd rfl hc | omega) | (simp only [zl] at hc<;>first | exact absurd rfl hc | (exfalso;first | exact absurd rfl hc | omega) | skip) | skip)) | (refine And.intro zj ?_) | (apply And.intro) | (intro s hs;skip) | (refine Exists.intro _ (And.intro ⟨rfl,rfl,rfl⟩ ?_)))
   refine QB (wd:=1) (Q:=qH (qY g0)) (by decide) zN (zb (zY g0)) zP ?_;repeat' (first | (simp only [w2,w3]) | (apply And.intro<;>intro hc<;>(first | exact Bool.noConfusion hc | (exfalso;first | exact absurd rfl hc | omega) | (simp only [zl] at hc<;>first | exact absurd rfl hc | (exfalso;first | exact absurd rfl hc | omega) | skip) | skip)) | (refine And.intro zj ?_) | (apply And.intro) | (intro s hs;skip) | (refine Exists.intro _ (And.intro ⟨rfl,rfl,rfl⟩ ?_)))
   conv=>whnf
   have hAl : (qO sd (ZP c now draw) i).held.length = sd.held.length + 1:=qf hle1;refine ZC (s:=qO sd (ZP c now draw) i) (d:=44) hR2 ha rfl (λp h j=>(ZJ h).trans (zc h)) rfl rfl (by rw [hAl];rfl) rfl rfl hAl.symm rfl λq hq j hj=>?_;rw [hAl] at hq;show Zu _ _ (zo zm (Zn i (ZP c now draw) sd.held) q j);refine YD (r:=zo zm sd.held) hle1 ?_ hq (λh=>?_) (λh=>?_) (λh=>?_)
   . show min (sd.held.length + 1 - i) (sd.held.length + 1 - (i + 1)) = _;omega
   . rw [show zo zm (Zn i (ZP c now draw) sd.held) q j = zo zm sd.held q j from congrArg (λz=>zm.cell z j) (Yb hle1 h)];exact (zm.sh _ j hj).le
   . subst h;rw [show zo zm (Zn q (ZP c now draw) sd.held) q j = zm.cell (ZP c now draw) j from congrArg (λz=>zm.cell z j) (QD hle1)];have e0 : ZP c now draw = ⟨c.num,c.data,tr.1,if 1099511627776 < now + 20 then 1099511627776 else now + 20⟩:=by unfold ZP;rw [hT]
     rw [e0];iterate 11 (rcases j with _ | j;· first | exact zC rfl | exact zW rfl | exact ZQ rfl rfl rfl (by first | rfl | exact Nat.zero_add _) (by first | exact Nat.le_refl _ | (simp;done)) λq hq j hj=>YH (E:=eB) (congrArg (λz=>c.data.getD z default) (Nat.zero_add q)))
     exact absurd hj (by omega)
   . rw [show zo zm (Zn i (ZP c now draw) sd.held) q j = zo zm sd.held (q - 1) j from congrArg (λz=>zm.cell z j) (Yc hle1 h)];exact (zm.sh _ j hj).le
theorem acc3_8 (g0 : Nat) (L : List Sed) (a : Nat) (sd : Sed) (now : Int) (c : Cas) (deaf : Bool) (draw : Int) (hI : AcJ L a sd now c draw) (R : List Sed × Bool × Int) (hR : R = (L.set a (if deaf = true then ze sd (c.num + 1) else qO sd (ZP c now draw) (ZM c.num sd.held 0).1),!deaf,0)) (a3 : a = 8) :
 Sem Try.prog Try.f11.ntmps 0 (Zc 11 (Try.f11.body.getD Code.ret)) (SB L a sd now c deaf draw ()).fr (SB L a sd now c deaf draw ()).H (SB L a sd now c deaf draw ()).nx (qQ T Try.f11.results.toList λx H _=>FinN (some R.1.length) (Zz R) (Zj ZB 78 R.1) x H):=by
 obtain ⟨ha,hn,hk,hh,hnum,hd,hnow,hdr⟩:=hI;unfold SB;subst a3;have w1 : IntKind.i64.wrap (c.num + 1) = c.num + 1:=IntWalk.i64_in _ (by omega);have w2 : IntKind.i64.wrap (now + 20) = now + 20:=IntWalk.i64_in _ (by omega);cases deaf with
 | true=>
   refine zK (wd:=1024) (Q:=qH (qY g0)) (by decide) zN (zb (zY g0)) zP ?_;repeat' (first | (simp only [w1]) | (apply And.intro<;>intro hc<;>(first | exact Bool.noConfusion hc | (exfalso;first | exact absurd rfl hc | omega) | (simp only [zl] at hc<;>first | exact absurd rfl hc | (exfalso;first | exact absurd rfl hc | omega) | skip) | skip)) | (refine And.intro zj ?_) | (apply And.intro) | (intro s hs;skip) | (refine Exists.intro _ (And.intro ⟨rfl,rfl,rfl⟩ ?_)))
   . exact rfl
   . conv=>whnf
     refine ZC (s:=sd) (d:=2) (hR.trans ?_) ha rfl (λp h j=>zc h) rfl rfl rfl rfl rfl rfl rfl λq hq j hj=>(zm.sh _ j hj).le;rw [if_pos rfl,show ze sd (c.num + 1) = sd from if_pos hc];rfl
   . exact ⟨rfl,ZG _⟩
   . exact Eq.mpr (congrArg KpI (zT zd _)) hk
   . conv=>whnf
     have q : sd.held.filter (qU (some (c.num + 1))) = s:=(hs.trans (by rw [zT zd])).symm;clear hs;refine ZC (s:=⟨sd.id,c.num + 1,s⟩) (d:=5141) (hR.trans ?_) ha rfl (λp h j=>(ZJ h).trans ((ZJ h).trans (zc h))) rfl rfl rfl rfl rfl rfl rfl λq hq j hj=>(zm.sh _ j hj).le;rw [if_pos rfl,show ze sd (c.num + 1) = ⟨sd.id,c.num + 1,s⟩ from (if_neg hc).trans (by rw [q])];rfl
 | false=>
   obtain ⟨⟨i,b⟩,hP⟩ : ∃ P,ZM c.num sd.held 0 = P:=⟨_,rfl⟩;have hle:=QC (id:=c.num) (L:=sd.held) (k:=0);rw [hP,Nat.zero_add] at hle;dsimp only at hle;obtain ⟨hle1,_,_⟩:=hle;have hR2 : R = (L.set 8 (qO sd (ZP c now draw) i),true,0):=by rw [hR,hP];rfl
   clear hR;have w3 : IntKind.i64.wrap ((i : Int) + 1) = ((i + 1 : Nat) : Int):=(IntWalk.i64_in _ (by omega)).trans (by omega);obtain ⟨tr,hT⟩ : ∃ r,zAA 2 3 2 now draw = r:=⟨_,rfl⟩;refine zK (wd:=1) (Q:=qH (qY g0)) (by decide) zN (zb (zY g0)) zP ?_;repeat' (first | (simp only [w2]) | (apply And.intro<;>intro hc<;>(first | exact Bool.noConfusion hc | (exfalso;first | exact absurd rfl hc | omega) | (simp only [zl] at hc<;>first | exact absurd rfl hc | (exfalso;first | exact absurd rfl hc | omega) | skip) | skip)) | (refine And.intro zj ?_) | (apply And.intro) | (intro s hs;skip) | (refine Exists.intro _ (And.intro ⟨rfl,rfl,rfl⟩ ?_)))
   refine zK (wd:=1) (Q:=qH (qY g0)) (by decide) zN (zb (zY g0)) zP ?_;repeat' (first | (simp only [w2]) | (apply And.intro<;>intro hc<;>(first | exact Bool.noConfusion hc | (exfalso;first | exact absurd rfl hc | omega) | (simp only [zl] at hc<;>first | exact absurd rfl hc | (exfalso;first | exact absurd rfl hc | omega) | skip) | skip)) | (refine And.intro zj ?_) | (apply And.intro) | (intro s hs;(have q : tr = s:=hT.symm.trans hs.symm;clear hs;subst q)) | (refine Exists.intro _ (And.intro ⟨rfl,rfl,rfl⟩ ?_)))
   refine zK (wd:=1) (Q:=qH (qY g0)) (by decide) zN (zb (zY g0)) zP ?_;repeat' (first | (simp only [w2]) | (apply And.intro<;>intro hc<;>(first | exact Bool.noConfusion hc | (exfalso;first | exact absurd rfl hc | omega) | (simp only [zl] at hc<;>first | exact absurd rfl hc | (exfalso;first | exact absurd rfl hc | omega) | skip) | skip)) | (refine And.intro zj ?_) | (apply And.intro) | (intro s hs;skip) | (refine Exists.intro _ (And.intro ⟨rfl,rfl,rfl⟩ ?_)))
   refine zK (wd:=1) (Q:=qH (qY g0)) (by decide) zN (zb (zY g0)) zP ?_;repeat' (first | (simp only [w2,w3]) | (apply And.intro<;>intro hc<;>(first | exact Bool.noConfusion hc | (exfalso;first | exact absurd rfl hc | omega) | (simp only [zl] at hc<;>first | exact absurd rfl hc | (exfalso;first | exact absurd rfl hc | omega) | skip) | skip)) | (refine And.intro zj ?_) | (apply And.intro) | (intro s hs;(have q:=qj hs (zT zd _) hP;clear hs;subst q)) | (refine Exists.intro _ (And.intro ⟨rfl,rfl,rfl⟩ ?_)))
   . exact λ_ _=>⟨rfl,ZG _⟩
   . exact Eq.mpr (congrArg (λz : List Hel=>z.length <= 9223372036854775807) (zT zd _)) (by omega)
   refine zK (wd:=1) (Q:=qH (qY g0)) (by decide) zN (zb (zY g0)) zP ?_;repeat' (first | (simp only [w2,w3]) | (apply And.intro<;>intro hc<;>(first | exact Bool.noConfusion hc | (exfalso;first | exact absurd rfl hc | omega) | (simp only [zl] at hc<;>first | exact absurd rfl hc | (exfalso;first | exact absurd rfl hc | omega) | skip) | skip)) | (refine And.intro zj ?_) | (apply And.intro) | (intro s hs;skip) | (refine Exists.intro _ (And.intro ⟨rfl,rfl,rfl⟩ ?_)))
   refine zK (wd:=1) (Q:=qH (qY g0)) (by decide) zN (zb (zY g0)) zP ?_;repeat' (first | (simp only [w2,w3]) | (apply And.intro<;>intro hc<;>(first | exact Bool.noConfusion hc | (exfalso;first | exact absurd rfl hc | omega) | (simp only [zl] at hc<;>first | exact absurd rfl hc | (exfalso;first | exact absurd rfl hc | omega) | skip) | skip)) | (refine And.intro zj ?_) | (apply And.intro) | (intro s hs;skip) | (refine Exists.intro _ (And.intro ⟨rfl,rfl,rfl⟩ ?_)))
   refine QB (wd:=1) (Q:=qH (qY g0)) (by decide) zN (zb (zY g0)) zP ?_;repeat' (first | (simp only [w2,w3]) | (apply And.intro<;>intro hc<;>(first | exact Bool.noConfusion hc | (exfalso;first | exact absurd rfl hc | omega) | (simp only [zl] at hc<;>first | exact absurd rfl hc | (exfalso;first | exact absurd rfl hc | omega) | skip) | skip)) | (refine And.intro zj ?_) | (apply And.intro) | (intro s hs;skip) | (refine Exists.intro _ (And.intro ⟨rfl,rfl,rfl⟩ ?_)))
   conv=>whnf
   have hAl : (qO sd (ZP c now draw) i).held.length = sd.held.length + 1:=qf hle1;refine ZC (s:=qO sd (ZP c now draw) i) (d:=44) hR2 ha rfl (λp h j=>(ZJ h).trans (zc h)) rfl rfl (by rw [hAl];rfl) rfl rfl hAl.symm rfl λq hq j hj=>?_;rw [hAl] at hq;show Zu _ _ (zo zm (Zn i (ZP c now draw) sd.held) q j);refine YD (r:=zo zm sd.held) hle1 ?_ hq (λh=>?_) (λh=>?_) (λh=>?_)
   . show min (sd.held.length + 1 - i) (sd.held.length + 1 - (i + 1)) = _;omega
   . rw [show zo zm (Zn i (ZP c now draw) sd.held) q j = zo zm sd.held q j from congrArg (λz=>zm.cell z j) (Yb hle1 h)];exact (zm.sh _ j hj).le
   . subst h;rw [show zo zm (Zn q (ZP c now draw) sd.held) q j = zm.cell (ZP c now draw) j from congrArg (λz=>zm.cell z j) (QD hle1)];have e0 : ZP c now draw = ⟨c.num,c.data,tr.1,if 1099511627776 < now + 20 then 1099511627776 else now + 20⟩:=by unfold ZP;rw [hT]
     rw [e0];iterate 11 (rcases j with _ | j;· first | exact zC rfl | exact zW rfl | exact ZQ rfl rfl rfl (by first | rfl | exact Nat.zero_add _) (by first | exact Nat.le_refl _ | (simp;done)) λq hq j hj=>YH (E:=eB) (congrArg (λz=>c.data.getD z default) (Nat.zero_add q)))
     exact absurd hj (by omega)
   . rw [show zo zm (Zn i (ZP c now draw) sd.held) q j = zo zm sd.held (q - 1) j from congrArg (λz=>zm.cell z j) (Yc hle1 h)];exact (zm.sh _ j hj).le
theorem acc3 (g0 : Nat) (L : List Sed) (a : Nat) (sd : Sed) (now : Int) (c : Cas) (deaf : Bool) (draw : Int) (hI : AcJ L a sd now c draw) (R : List Sed × Bool × Int) (hR : R = (L.set a (if deaf = true then ze sd (c.num + 1) else qO sd (ZP c now draw) (ZM c.num sd.held 0).1),!deaf,0)) :
 Sem Try.prog Try.f11.ntmps 0 (Zc 11 (Try.f11.body.getD Code.ret)) (SB L a sd now c deaf draw ()).fr (SB L a sd now c deaf draw ()).H (SB L a sd now c deaf draw ()).nx (qQ T Try.f11.results.toList λx H _=>FinN (some R.1.length) (Zz R) (Zj ZB 78 R.1) x H):=by
 have h : a = 0 \/ a = 1 \/ a = 2 \/ a = 3 \/ a = 4 \/ a = 5 \/ a = 6 \/ a = 7 \/ a = 8:=by have:=hI.lt;have:=hI.n;omega
 rcases h with h | h | h | h | h | h | h | h | h
 . exact acc3_0 g0 L a sd now c deaf draw hI R hR h
 . exact acc3_1 g0 L a sd now c deaf draw hI R hR h
 . exact acc3_2 g0 L a sd now c deaf draw hI R hR h
 . exact acc3_3 g0 L a sd now c deaf draw hI R hR h
 . exact acc3_4 g0 L a sd now c deaf draw hI R hR h
 . exact acc3_5 g0 L a sd now c deaf draw hI R hR h
 . exact acc3_6 g0 L a sd now c deaf draw hI R hR h
 . exact acc3_7 g0 L a sd now c deaf draw hI R hR h
 . exact acc3_8 g0 L a sd now c deaf draw hI R hR h
end Go.Proofs.Ytfaibcgakcmhcaa.AX
