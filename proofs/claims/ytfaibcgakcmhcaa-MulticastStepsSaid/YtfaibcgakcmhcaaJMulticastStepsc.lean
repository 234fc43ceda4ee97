/- Texts of one's own in one file: TkR, Wd, TkF, Bg, Plain, PkL, Oc, Mc, Mc2, Mk, BJ, BNw, Ml, BNs, BIn, Ma, Mp, Mdf, Ms, Mon, Ma2, Mq, Mqp, Ma3, Ma4. -/
import Derived.Test.YtfaibcgakcmhcaaJMulticastStepsb
import Derived.Laws.BitsAllLaws
import Derived.IntWalk
set_option linter.unusedVariables false
set_option linter.unusedSimpArgs false
set_option maxHeartbeats 16000000
set_option maxRecDepth 20000
namespace Go.Proofs.Ytfaibcgakcmhcaa.AX.TkR
open Go.Proofs.Ytfaibcgakcmhcaa.AX
open Go.RowKit
theorem tkTime_ok (c : Int) : Zc Try.prog 63 [(cI .i64).enc c] (cB.enc (zx c)):=by
 refine zr (wd:=1) (by decide) zM (zb qD) zN Try.func63 rfl _ (by show 1 <= _;decide) _ ?_;repeat' (first | (apply And.intro<;>intro hc<;>(first | exact Bool.noConfusion hc | (simp only [zb0] at hc) | skip)) | (refine And.intro zp0 ?_) | (apply And.intro) | (intro s hs))
 all_goals (refine Done.mk (zG ?_);simp_all [zx];try omega)
theorem numbers_ok (m d r : Int) : Zc Try.prog 78 [(cI .i64).enc m,(cI .i64).enc d,(cI .i64).enc r] (cB.enc (qb m d r)):=by
 refine zr (wd:=1) (by decide) zM (zb qD) zN Try.func78 rfl _ (by show 3 <= _;decide) _ ?_;repeat' (first | (apply And.intro<;>intro hc<;>(first | exact Bool.noConfusion hc | (simp only [zb0] at hc) | skip)) | (refine And.intro zp0 ?_) | (apply And.intro) | (intro s hs))
 all_goals (refine Done.mk (zG ?_);simp_all [qb];try omega)
theorem begin_ok (t : Trk) (l now draw : Int) (hl : 2 <= l /\ l <= 268435456) (hn : 0 <= now /\ now <= 1099511627776) (hd : ZM draw) :
 Zc Try.prog 79 [(cE eTk).enc t,(cI .i64).enc l,(cI .i64).enc now,(cI .u32).enc draw] ((cE eTk).enc (QN t l now draw)):=by
 unfold ZM at hd;have hm : 0 <= draw % (l - l / 2) /\ draw % (l - l / 2) < l - l / 2:=⟨Int.emod_nonneg _ (by omega),Int.emod_lt_of_pos _ (by omega)⟩;refine zr (wd:=1) (by decide) zM (zb qD) zN Try.func79 rfl _ (by show 4 <= _;decide) _ ?_;repeat' (first | (apply And.intro<;>intro hc<;>(first | exact Bool.noConfusion hc | (simp only [zb0] at hc) | skip)) | (refine And.intro zp0 ?_) | (apply And.intro) | (intro s hs))
 . simp (disch:=omega) only [IntWalk.i64_in,IntWalk.u8_in,IntWalk.u16_in,IntWalk.u32_in,IntWalk.u64_in,Int.tdiv_eq_ediv_of_nonneg,Int.tmod_eq_emod_of_nonneg];omega
 . refine zA8 ?_;repeat' (first | exact trivial | exact rfl | refine zA ?_ | refine zG ?_ | exact zH rfl | refine QL (Zk ?_) | refine ZW ?_ | refine zC ?_ | refine zS ?_ | exact zW | exact zE zW | apply And.intro)
   case right.left.left.right=>
    simp (disch:=omega) only [IntWalk.i64_in,IntWalk.u8_in,IntWalk.u16_in,IntWalk.u32_in,IntWalk.u64_in,Int.tdiv_eq_ediv_of_nonneg,Int.tmod_eq_emod_of_nonneg];rfl
   all_goals rfl
def R1 : CsL:=(63,some zC3) :: (78,some numE) :: (79,some beginE) :: []
theorem R1_ok : qU Try.prog R1:=⟨zu ⟨_,Try.func63,rfl,by kernel_rfl⟩ λa _=>tkTime_ok a.1,zu ⟨_,Try.func78,rfl,by kernel_rfl⟩ λa _=>numbers_ok a.1 a.2.1 a.2.2.1,zu ⟨_,Try.func79,rfl,by kernel_rfl⟩ λa h=>begin_ok a.1 a.2.1 a.2.2.1 a.2.2.2.1 h.1 h.2.1 h.2.2,trivial⟩
theorem valid_ok (t : Trk) : Zc Try.prog 69 [(cE eTk).enc t] (cB.enc (ZQ t)):=by
 have hv : ZQ t = (qb t.min t.dbl t.red && zx t.start && decide (0 <= t.heard /\ t.heard <= 1048576) && Qh t.min t.len (t.dbl.toNat + 1) && decide (t.start + t.len / 2 <= t.fire /\ t.fire <= t.start + t.len - 1)):=rfl;refine zr (wd:=1) (by decide) zM (zb R1_ok) zN Try.func69 rfl _ (by show 1 <= _;decide) _ ?_;repeat' (first | (apply And.intro<;>intro hc<;>(first | exact Bool.noConfusion hc | (simp only [zg] at hc<;>first | exact absurd rfl hc | skip) | skip)) | (refine And.intro ze ?_) | (apply And.intro) | (intro s hs;(first | (have hs' : s = qb t.min t.dbl t.red:=hs) | (have hs' : s = zx t.start:=hs));clear hs;subst hs'))
 all_goals first
  | (refine Done.mk (zG ?_);rw [hv];simp [*];done)
  | (refine Done.mk (zG ?_);rw [hv];simp [*];omega)
  | skip
 rename_i h1 h2 h3;have h4:=hc;clear hc;obtain ⟨n1,n2,n3,n4,n5,n6⟩:=Qt.1 h1;obtain ⟨t1,t2⟩:=Zl.1 h2;have e1 : IntKind.i64.wrap (t.dbl + 1) = t.dbl + 1:=IntWalk.i64_in _ (by omega);clear e1;refine zQ (zT R1_ok) (λk : { k : Nat // k <= t.dbl.toNat + 1 }=>(⟨[(1,zO (.ptr 0 0 0 false)),(3,.e (.c (.bool (Qh t.min t.len k.1)))),(4,.e (.c (.int .i64 k.1)))],[(0,some ⟨82,1,8,true,λ_=>eTk.cell t⟩)],1⟩ : Hd)) (λk=>t.dbl.toNat + 1 - k.1) (λ_=>rfl) ?_ ⟨0,by omega⟩ [] ?_
 . rintro ⟨k,hk⟩;have hp : k <= 16 -> t.min <= t.min * 2 ^ k /\ t.min * 2 ^ k <= 268435456:=λh=>zDs ⟨n1,n2⟩ h;have hsh : k <= 16 -> Yk .i64 t.min (IntKind.u64.wrap k) = t.min * 2 ^ k:=λh=>by
    have:=hp h;rw [IntWalk.u64_in _ (by omega)];unfold Yk;rw [show min ((k : Int).toNat) (IntKind.bits .i64) = k by simp [IntKind.bits];omega];exact IntWalk.i64_in _ (by omega)
   have hk0 : k <= 16 -> 0 <= IntKind.u64.wrap (k : Int):=λh=>by rw [IntWalk.u64_in _ (by omega)];omega
   dsimp only;repeat' (first | (apply And.intro<;>intro hc<;>(first | exact Bool.noConfusion hc | (simp only [zb0] at hc) | skip)) | (refine And.intro zp0 ?_) | (apply And.intro) | (intro s hs))
   all_goals first
    | exact hk0 (by omega)
    | (refine ⟨⟨k + 1,by omega⟩,[],by dsimp only;omega,rfl,?_,?_⟩
       . repeat' (first | exact zw0 | refine zA ?_ | refine zG ?_ | exact zw1 | apply And.intro)
         . first
            | (simp [Qh, *];done)
            | (rw [hsh (by omega)];simp [Qh, *])
         . exact zaw
       . repeat' (first | exact zw0 | refine zA ?_ | refine zG ?_ | exact zw1 | apply And.intro))
    | skip
   all_goals refine Done.mk (zG ?_)
   all_goals
    have hke : k = t.dbl.toNat + 1:=by omega
    subst hke;clear hsh hp hk0
   . have q2 : Qh t.min t.len (t.dbl.toNat + 1) = true:=by assumption
     have hl:=zBk ⟨n1,n2⟩ ⟨n3,n4⟩ q2;simp (disch:=omega) only [IntWalk.i64_in,Int.tdiv_eq_ediv_of_nonneg] at *;rw [hv,h1,h2,q2,decide_eq_true (show 0 <= t.heard /\ t.heard <= 1048576 by omega)];simp;omega
   . have q2 : Qh t.min t.len (t.dbl.toNat + 1) = true:=by assumption
     have hl:=zBk ⟨n1,n2⟩ ⟨n3,n4⟩ q2;simp (disch:=omega) only [IntWalk.i64_in,Int.tdiv_eq_ediv_of_nonneg] at *;rw [hv,decide_eq_false (p:=t.start + t.len / 2 <= t.fire /\ t.fire <= t.start + t.len - 1) (by omega)];simp
   . rw [hv];simp [*]
 . refine ⟨rfl,?_,?_⟩
   . exact zwf
   . exact zwf
def R2 : CsL:=(69,some zCo) :: R1
theorem zDp : qU Try.prog R2:=⟨zu ⟨_,Try.func69,rfl,by kernel_rfl⟩ λa _=>valid_ok a.1,R1_ok⟩
theorem newT_ok (m d r now draw : Int) (hd : ZM draw) :
 Zc Try.prog 67 [(cI .i64).enc m,(cI .i64).enc d,(cI .i64).enc r,(cI .i64).enc now,(cI .u32).enc draw] (enc2 (zAB m d r now draw)):=by
 have hb : qb m d r = true -> 2 <= m /\ m <= 4096:=λh=>by have:=Qt.1 h;omega
 have ht : zx now = true -> 0 <= now /\ now <= 1099511627776:=Zl.1;refine zr (wd:=1) (by decide) zM (zb zDp) zN Try.func67 rfl _ (by show 5 <= _;decide) _ ?_;repeat' (first | (apply And.intro<;>intro hc<;>(first | exact Bool.noConfusion hc | (simp only [zg] at hc<;>first | exact absurd rfl hc | skip) | skip)) | (refine And.intro ze ?_) | (apply And.intro) | (intro s hs;(first | (have hs' : s = qb m d r:=hs) | (have hs' : s = zx now:=hs) | (have hs' : s = QN ⟨m,d,r,0,0,0,0,false⟩ m now draw:=hs));clear hs;subst hs'))
 all_goals first
  | exact (hb ‹_›).1
  | exact (ht ‹_›).1
  | exact (ht ‹_›).2
  | exact hd.1
  | exact hd.2
  | (have:=hb ‹_›;dsimp only;omega)
  | (have e : zAB m d r now draw = (YJ,2):=by simp [zAB, *]
     rw [e];refine Qx ?_ rfl;repeat' (first | exact trivial | exact rfl | refine zA ?_ | refine zG ?_ | exact zH rfl | refine QL (Zk ?_) | refine ZW ?_ | refine zC ?_ | refine zS ?_ | exact zW | exact zE zW | apply And.intro))
  | (have e : zAB m d r now draw = (QN ⟨m,d,r,0,0,0,0,false⟩ m now draw,0):=by simp [zAB, *]
     rw [e];refine Qx ?_ rfl;repeat' (first | exact trivial | exact rfl | refine zA ?_ | refine zG ?_ | exact zH rfl | refine QL (Zk ?_) | refine ZW ?_ | refine zC ?_ | refine zS ?_ | exact zW | exact zE zW | apply And.intro))
theorem hear_ok (t : Trk) : Zc Try.prog 65 [(cE eTk).enc t] ((cE eTk).enc (Qo t)):=by
 refine zr (wd:=1) (by decide) zM (zb zDp) zN Try.func65 rfl _ (by show 1 <= _;decide) _ ?_;repeat' (first | (apply And.intro<;>intro hc<;>(first | exact Bool.noConfusion hc | (simp only [zg] at hc<;>first | exact absurd rfl hc | skip) | skip)) | (refine And.intro ze ?_) | (apply And.intro) | (intro s hs;(have hs' : s = ZQ t:=hs);clear hs;subst hs'))
 . have e : Qo t = YJ:=by simp [Qo, *]
   rw [e];refine zA8 ?_;repeat' (first | exact trivial | exact rfl | refine zA ?_ | refine zG ?_ | exact zH rfl | refine QL (Zk ?_) | refine ZW ?_ | refine zC ?_ | refine zS ?_ | exact zW | exact zE zW | apply And.intro)
 . have hv : ZQ t = true:=by assumption
   have hn:=QA hv;have w1 : IntKind.i64.wrap (t.heard + 1) = t.heard + 1:=IntWalk.i64_in _ (by omega);have e : Qo t = { t with heard:=if (1048576 : Int) < t.heard + 1 then 1048576 else t.heard + 1 }:=by
    unfold Qo;rw [if_pos hv];by_cases hc' : t.heard < 1048576
    . rw [if_pos hc',if_neg (by omega)]
    . rw [if_neg hc',if_pos (by omega)];obtain ⟨a1,a2,a3,a4,a5,a6,a7,a8⟩:=t;dsimp only at hc' hn ⊢;rw [show a7 = 1048576 by omega]
   rw [e];refine zA8 ?_;repeat' (first | exact trivial | exact rfl | refine zA ?_ | refine zG ?_ | exact zH rfl | refine QL (Zk ?_) | refine ZW ?_ | refine zC ?_ | refine zS ?_ | exact zW | exact zE zW | apply And.intro)
   all_goals first | rfl | rw [w1]
theorem reset_ok (t : Trk) (now draw : Int) (hd : ZM draw) :
 Zc Try.prog 76 [(cE eTk).enc t,(cI .i64).enc now,(cI .u32).enc draw] (enc2 (Qr t now draw)):=by
 have hn:=@QA t;have ht : zx now = true -> 0 <= now /\ now <= 1099511627776:=Zl.1;refine zr (wd:=1) (by decide) zM (zb zDp) zN Try.func76 rfl _ (by show 3 <= _;decide) _ ?_;repeat' (first | (apply And.intro<;>intro hc<;>(first | exact Bool.noConfusion hc | (simp only [zg] at hc<;>first | exact absurd rfl hc | skip) | skip)) | (refine And.intro ze ?_) | (apply And.intro) | (intro s hs;(first | (have hs' : s = ZQ t:=hs) | (have hs' : s = zx now:=hs) | (have hs' : s = QN t t.min now draw:=hs));clear hs;subst hs'))
 all_goals first
  | exact (hn ‹_›).1.1
  | exact (ht ‹_›).1
  | exact (ht ‹_›).2
  | exact hd.1
  | exact hd.2
  | (have:=hn ‹_›;dsimp only;omega)
  | (have e : Qr t now draw = (YJ,1):=by simp [Qr, *]
     rw [e];refine Qx ?_ rfl;repeat' (first | exact trivial | exact rfl | refine zA ?_ | refine zG ?_ | exact zH rfl | refine QL (Zk ?_) | refine ZW ?_ | refine zC ?_ | refine zS ?_ | exact zW | exact zE zW | apply And.intro))
  | (have e : Qr t now draw = (YJ,2):=by simp [Qr, *]
     rw [e];refine Qx ?_ rfl;repeat' (first | exact trivial | exact rfl | refine zA ?_ | refine zG ?_ | exact zH rfl | refine QL (Zk ?_) | refine ZW ?_ | refine zC ?_ | refine zS ?_ | exact zW | exact zE zW | apply And.intro))
  | (have e : Qr t now draw = (t,0):=by simp [Qr, *]
     rw [e];refine Qx ?_ rfl;repeat' (first | exact trivial | exact rfl | refine zA ?_ | refine zG ?_ | exact zH rfl | refine QL (Zk ?_) | refine ZW ?_ | refine zC ?_ | refine zS ?_ | exact zW | exact zE zW | apply And.intro))
  | (have e : Qr t now draw = (QN t t.min now draw,0):=by simp [Qr, *]
     rw [e];refine Qx ?_ rfl;repeat' (first | exact trivial | exact rfl | refine zA ?_ | refine zG ?_ | exact zH rfl | refine QL (Zk ?_) | refine ZW ?_ | refine zC ?_ | refine zS ?_ | exact zW | exact zE zW | apply And.intro))
theorem stepT_ok (t : Trk) (now draw : Int) (hd : ZM draw) :
 Zc Try.prog 72 [(cE eTk).enc t,(cI .i64).enc now,(cI .u32).enc draw] (enc3 (qK t now draw)):=by
 have hvn:=@QA t;have ht : zx now = true -> 0 <= now /\ now <= 1099511627776:=Zl.1;have hF1 : t.fired = false -> t.fire <= now -> QO t now = ({ t with fired:=true },decide (t.red = 0 \/ t.heard < t.red)):=λa b=>by unfold QO;rw [if_pos ⟨a,b⟩]
 have hF2 : t.fired = true -> QO t now = (t,false):=λa=>by unfold QO;rw [if_neg (by rw [a];simp)]
 have hF3 : ¬ t.fire <= now -> QO t now = (t,false):=λa=>by unfold QO;rw [if_neg (λh=>a h.2)]
 by_cases hv : ZQ t = true
 case neg=>
  have hv' : ZQ t = false:=by simpa using hv
  have e : qK t now draw = (YJ,false,1):=by unfold qK;rw [if_neg hv]
  rw [e];clear hF1 hF2 hF3;refine zr (wd:=1) (by decide) zM (zb zDp) zN Try.func72 rfl _ (by show 3 <= _;decide) _ ?_;repeat' (first | (apply And.intro<;>intro hc<;>(first | exact Bool.noConfusion hc | (simp only [zg] at hc<;>first | exact absurd rfl hc | skip) | skip)) | (refine And.intro ze ?_) | (apply And.intro) | (intro s hs;(first | (have hs' : s = false:=hs.trans hv') | (have hs' : s = zx now:=hs));clear hs;subst hs'))
  refine zAA ?_ rfl rfl;repeat' (first | exact trivial | exact rfl | refine zA ?_ | refine zG ?_ | exact zH rfl | refine QL (Zk ?_) | refine ZW ?_ | refine zC ?_ | refine zS ?_ | exact zW | exact zE zW | apply And.intro)
 by_cases htm : zx now = true
 case neg=>
  have htm' : zx now = false:=by simpa using htm
  have e : qK t now draw = (YJ,false,2):=by unfold qK;rw [if_pos hv,if_neg (λh=>htm h.1)]
  rw [e];clear hF1 hF2 hF3;refine zr (wd:=1) (by decide) zM (zb zDp) zN Try.func72 rfl _ (by show 3 <= _;decide) _ ?_;repeat' (first | (apply And.intro<;>intro hc<;>(first | exact Bool.noConfusion hc | (simp only [zg] at hc<;>first | exact absurd rfl hc | skip) | skip)) | (refine And.intro ze ?_) | (apply And.intro) | (intro s hs;(first | (have hs' : s = true:=hs.trans hv) | (have hs' : s = false:=hs.trans htm'));clear hs;subst hs'))
  all_goals (refine zAA ?_ rfl rfl;repeat' (first | exact trivial | exact rfl | refine zA ?_ | refine zG ?_ | exact zH rfl | refine QL (Zk ?_) | refine ZW ?_ | refine zC ?_ | refine zS ?_ | exact zW | exact zE zW | apply And.intro))
 by_cases hst : t.start <= now
 case neg=>
  have e : qK t now draw = (YJ,false,2):=by unfold qK;rw [if_pos hv,if_neg (λh=>hst h.2)]
  rw [e];clear hF1 hF2 hF3;refine zr (wd:=1) (by decide) zM (zb zDp) zN Try.func72 rfl _ (by show 3 <= _;decide) _ ?_;repeat' (first | (apply And.intro<;>intro hc<;>(first | exact Bool.noConfusion hc | (simp only [zg] at hc<;>first | exact absurd rfl hc | skip) | skip)) | (refine And.intro ze ?_) | (apply And.intro) | (intro s hs;(first | (have hs' : s = true:=hs.trans hv) | (have hs' : s = true:=hs.trans htm));clear hs;subst hs'))
  all_goals first
   | (exfalso;omega)
   | (refine zAA ?_ rfl rfl;repeat' (first | exact trivial | exact rfl | refine zA ?_ | refine zG ?_ | exact zH rfl | refine QL (Zk ?_) | refine ZW ?_ | refine zC ?_ | refine zS ?_ | exact zW | exact zE zW | apply And.intro))
 have hn:=hvn hv;obtain ⟨j,hj,hlen⟩:=Yr.1 hn.2.2.2.2.1;have hp:=zDs (j:=t.dbl.toNat) ⟨hn.1.1,hn.1.2.1⟩ (by omega);have hu : IntKind.u64.wrap t.dbl = t.dbl:=IntWalk.u64_in _ (by omega);have hu0 : 0 <= IntKind.u64.wrap t.dbl:=by omega
 have hsh : Yk .i64 t.min (IntKind.u64.wrap t.dbl) = t.min * 2 ^ t.dbl.toNat:=by
  rw [hu];unfold Yk;rw [show min t.dbl.toNat (IntKind.bits .i64) = t.dbl.toNat by simp [IntKind.bits];omega];exact IntWalk.i64_in _ (by omega)
 have ht':=ht htm;have hw1 : IntKind.i64.wrap (t.start + t.len) = t.start + t.len:=IntWalk.i64_in _ (by omega);have hw2 : IntKind.i64.wrap (2 * t.len) = 2 * t.len:=IntWalk.i64_in _ (by omega);have hs : qK t now draw = (if t.start + t.len <= now then QN (QO t now).1 (Min.min (2 * t.len) (t.min * 2 ^ t.dbl.toNat)) now draw else (QO t now).1,(QO t now).2,0):=by
  unfold qK;rw [if_pos hv,if_pos ⟨htm,hst⟩]
 have hmn : (if Yk .i64 t.min (IntKind.u64.wrap t.dbl) < IntKind.i64.wrap (2 * t.len) then Yk .i64 t.min (IntKind.u64.wrap t.dbl) else IntKind.i64.wrap (2 * t.len)) = Min.min (2 * t.len) (t.min * 2 ^ t.dbl.toNat):=by
  rw [hsh,hw2];omega
 have hb1 : ∀ x : Trk,QN x (if Yk .i64 t.min (IntKind.u64.wrap t.dbl) < IntKind.i64.wrap (2 * t.len) then Yk .i64 t.min (IntKind.u64.wrap t.dbl) else IntKind.i64.wrap (2 * t.len)) now draw = QN x (Min.min (2 * t.len) (t.min * 2 ^ t.dbl.toNat)) now draw:=λx=>by rw [hmn]
 have hst0 : ¬ now < t.start:=by omega
 have hle : 2 <= (if Yk .i64 t.min (IntKind.u64.wrap t.dbl) < IntKind.i64.wrap (2 * t.len) then Yk .i64 t.min (IntKind.u64.wrap t.dbl) else IntKind.i64.wrap (2 * t.len)) /\ (if Yk .i64 t.min (IntKind.u64.wrap t.dbl) < IntKind.i64.wrap (2 * t.len) then Yk .i64 t.min (IntKind.u64.wrap t.dbl) else IntKind.i64.wrap (2 * t.len)) <= 268435456:=by rw [hmn];omega
 have g1 : IntKind.i64.wrap (t.start + t.len) <= now -> t.start + t.len <= now:=by rw [hw1];exact id
 have g2 : ¬ IntKind.i64.wrap (t.start + t.len) <= now -> ¬ t.start + t.len <= now:=by rw [hw1];exact id
 have t3 : ∀ x : Trk × Bool,t.red = 0 -> x = ({ t with fired:=true },true) -> x = ({ t with fired:=true },decide (t.red = 0 \/ t.heard < t.red)):=λx h h'=>by rw [h',decide_eq_true (.inl h)]
 rw [hs];clear hs ht hvn;refine zr (wd:=1) (by decide) zM (zb zDp) zN Try.func72 rfl _ (by show 3 <= _;decide) _ ?_;repeat' (first | (apply And.intro<;>intro hc<;>(first | exact Bool.noConfusion hc | (simp only [zg] at hc<;>first | exact absurd rfl hc | skip) | skip)) | (refine And.intro ze ?_) | (apply And.intro) | (intro s hs;(first | (have hs' : s = true:=hs.trans hv;clear hs;subst hs') | (have hs' : s = true:=hs.trans htm;clear hs;subst hs') | (have hs':=hs.trans (hb1 _);clear hs;rename_i s0;try dsimp only at hs'))))
 all_goals first
  | exact absurd ‹_› hst0
  | exact hle.1
  | exact hle.2
  | exact ht'.1
  | exact ht'.2
  | exact hd.1
  | exact hd.2
  | exact hu0
  | skip
 all_goals
  first | rw [hF1 ‹_› ‹_›] | rw [hF2 ‹_›] | rw [hF3 ‹_›]
  first | rw [if_pos (g1 ‹_›)] | rw [if_neg (g2 ‹_›)]
  try subst hs'
  refine zAA ?_ ?_ rfl
  . repeat' (first | exact trivial | exact rfl | refine zA ?_ | refine zG ?_ | exact zH rfl | refine QL (Zk ?_) | refine ZW ?_ | refine zC ?_ | refine zS ?_ | exact zW | exact zE zW | apply And.intro)
  . simp [*]
end Go.Proofs.Ytfaibcgakcmhcaa.AX.TkR
namespace Go.Proofs.Ytfaibcgakcmhcaa.AX
open Go.RowKit
theorem base_ok (n : Nat) (l : List Int) (q : Int) (ht : TapeOk n (rI l) q) :
 ∃ (r q' : Int),(0 <= r /\ r <= 1099511627776) /\ TapeOk n (rI l) q' /\ YN Try.prog 14 [] (qa n (rI l) q) ((cI .i64).enc r) (qa n (rI l) q'):=by
 refine Qg (wd:=1) (by decide) zM (zb zB1) zN Try.func14 rfl _ (by show 0 + 1 <= _;decide) (λ_=>zDM) ?_;repeat' (first | (apply And.intro<;>intro hc<;>(first | exact Bool.noConfusion hc | (simp only [zb0] at hc) | skip)) | (refine And.intro ze ?_) | (apply And.intro) | (intro s hs))
 . rename_i r hr;have hr' : 0 <= r /\ r < 5:=hr;exact ⟨(r,_),⟨⟨by omega,by omega⟩,by assumption⟩,⟨zA rfl,Zv⟩⟩
 . rename_i r hr;have hr' : 0 <= r /\ r < 40:=hr;exact ⟨(1099511627776 - r,_),⟨⟨by omega,by omega⟩,by assumption⟩,⟨zA (IntWalk.i64_in _ (by omega)),Zv⟩⟩
 . rename_i r hr;have hr' : 0 <= r /\ r < 1000:=hr;exact ⟨(r,_),⟨⟨by omega,by omega⟩,by assumption⟩,⟨zA rfl,Zv⟩⟩
theorem time_ok (n : Nat) (l : List Int) (q b : Int) (ht : TapeOk n (rI l) q) (hb : 0 <= b /\ b <= 1099511627776) :
 ∃ (r q' : Int),(0 <= r /\ r <= 1099511627776) /\ TapeOk n (rI l) q' /\ YN Try.prog 17 [(cI .i64).enc b] (qa n (rI l) q) ((cI .i64).enc r) (qa n (rI l) q'):=by
 refine Qg (wd:=1) (by decide) zM (zb zB1) zN Try.func17 rfl _ (by show 1 + 1 <= _;decide) (λ_=>zDM) ?_;repeat' (first | (apply And.intro<;>intro hc<;>(first | exact Bool.noConfusion hc | (simp only [zb0] at hc) | skip)) | (refine And.intro ze ?_) | (apply And.intro) | (intro s hs))
 rename_i r hr;have hr' : 0 <= r /\ r < 60:=hr;refine ⟨(max 0 (min 1099511627776 (b + r - 30)),_),⟨⟨by omega,by omega⟩,by assumption⟩,⟨zA ?_,Zv⟩⟩;rw [IntWalk.i64_in (b + r) (by omega),IntWalk.i64_in (b + r - 30) (by omega)];split<;>split<;>omega
abbrev baseE : Zm:=zAv AC.nil (λ_=>True) (λa (r : Int)=>0 <= r /\ r <= 1099511627776) (cI .i64).enc
abbrev wtimeE : Zm:=zAv (AC.cons (cI .i64) AC.nil) (λa=>0 <= a.1 /\ a.1 <= 1099511627776) (λa (r : Int)=>0 <= r /\ r <= 1099511627776) (cI .i64).enc
def LWd : CsL:=(14,some baseE) :: (17,some wtimeE) :: LTb
theorem LWd_ok : qU Try.prog LWd:=⟨YI ⟨_,Try.func14,rfl,by kernel_rfl⟩ λn l q a ht hp=>base_ok n l q ht,YI ⟨_,Try.func17,rfl,by kernel_rfl⟩ λn l q a ht hp=>time_ok n l q a.1 ht hp,zB1⟩
theorem zDo {x : Trk} {now draw : Int} (h : ZQ x = true) (hn : 0 <= now /\ now <= 1099511627776) (hs : x.start <= now) : ZQ (qK x now draw).1 = true:=by
 have hv:=QA h;obtain ⟨f1,f2,f3,f4,f5,f6⟩:=zF7 (now:=now) h;have e : qK x now draw = (if x.start + x.len <= now then QN (QO x now).1 (min (2 * x.len) (x.min * 2 ^ x.dbl.toNat)) now draw else (QO x now).1,(QO x now).2,0):=by
  unfold qK;rw [if_pos h,if_pos ⟨Zl.2 (by omega),hs⟩]
 rw [e];show ZQ (if x.start + x.len <= now then _ else _) = true;split
 . refine (zFX f1 ?_ hn).1;rw [f5,f6];exact zFW (by omega) (by omega) hv.2.2.2.2.1
 . exact f1
theorem zEP {m d r now draw : Int} (h : qb m d r = true) (hn : 0 <= now /\ now <= 1099511627776) : ZQ (zAB m d r now draw).1 = true:=by
 obtain ⟨h1,h2,h3,h4,h5,h6⟩:=Qt.1 h;have e : zAB m d r now draw = (QN ⟨m,d,r,0,0,0,0,false⟩ m now draw,0):=by unfold zAB;rw [if_pos ⟨Zl.2 hn,h⟩]
 rw [e];have hm : 0 <= draw % (m - m / 2) /\ draw % (m - m / 2) < m - m / 2:=⟨Int.emod_nonneg _ (by omega),Int.emod_lt_of_pos _ (by omega)⟩;refine zAw h (Zl.2 hn) (by show 0 <= (0 : Int) /\ (0 : Int) <= _;omega) (Yr.2 ⟨0,by omega,by show m = m * 2 ^ 0;simp⟩) ?_;show now + m / 2 <= now + m / 2 + draw % (m - m / 2) /\ now + m / 2 + draw % (m - m / 2) <= now + m - 1;omega
theorem zFT {x : Trk} {v : Int} (h : ZQ x = true) (hv : 0 <= v /\ v < 4) : ZQ { x with heard:=v } = true:=by
 have hn:=QA h;obtain ⟨p1,p2⟩:=zAK h;exact zAw p1 p2 (by show 0 <= v /\ v <= _;omega) hn.2.2.2.2.1 hn.2.2.2.2.2
abbrev newTE : Zm:=qy (AC.cons (cI .i64) (AC.cons (cI .i64) (AC.cons (cI .i64) (AC.cons (cI .i64) (AC.cons (cI .u32) AC.nil))))) (λa=>ZM a.2.2.2.2.1) (λa=>zAB a.1 a.2.1 a.2.2.1 a.2.2.2.1 a.2.2.2.2.1) enc2
abbrev hearE : Zm:=qy TAC (λ_=>True) (λa=>Qo a.1) (cE eTk).enc
abbrev resetE : Zm:=qy T3 (λa=>ZM a.2.2.1) (λa=>Qr a.1 a.2.1 a.2.2.1) enc2
abbrev stepE : Zm:=qy T3 (λa=>ZM a.2.2.1) (λa=>qK a.1 a.2.1 a.2.2.1) enc3
def LTk : CsL:=(38,some newTE) :: (36,some hearE) :: (53,some resetE) :: (45,some stepE) ::
 (67,some newTE) :: (65,some hearE) :: (76,some resetE) :: (72,some stepE) :: (69,some zCo) :: (58,some zCo) :: LWd
theorem zCn : qU Try.prog LTk:=⟨zu ⟨_,Try.func38,rfl,by kernel_rfl⟩ λa h=>newT_ok _ _ _ _ _ h,zu ⟨_,Try.func36,rfl,by kernel_rfl⟩ λa h=>hear_ok _,zu ⟨_,Try.func53,rfl,by kernel_rfl⟩ λa h=>reset_ok _ _ _ h,zu ⟨_,Try.func45,rfl,by kernel_rfl⟩ λa h=>stepT_ok _ _ _ h,
 zu ⟨_,Try.func67,rfl,by kernel_rfl⟩ λa h=>TkR.newT_ok _ _ _ _ _ h,zu ⟨_,Try.func65,rfl,by kernel_rfl⟩ λa h=>TkR.hear_ok _,zu ⟨_,Try.func76,rfl,by kernel_rfl⟩ λa h=>TkR.reset_ok _ _ _ h,zu ⟨_,Try.func72,rfl,by kernel_rfl⟩ λa h=>TkR.stepT_ok _ _ _ h,
 zu ⟨_,Try.func69,rfl,by kernel_rfl⟩ λa h=>TkR.valid_ok _,zu ⟨_,Try.func58,rfl,by kernel_rfl⟩ λa h=>valid_ok _,LWd_ok⟩
theorem zCO (x : Int) : ZM (IntKind.u32.wrap x):=by unfold ZM;rw [IntKind.wrap_u32'];omega
def rowFF {β : Type} [Inhabited β] (F : Elem β) (L : List (List β)) (i _j : Nat) : CV:=.sl false (L.getD i []).length F.sz (qC F (L.getD i []))
theorem cl_ll {β : Type} [Inhabited β] (F : Elem β) (L : List (List β)) : Cl (.sl false L.length 1 (rowFF F L)):=cl_sl λi _ j _=>cl_sl λi' _ j' _=>(F.flat _ _).cl
end Go.Proofs.Ytfaibcgakcmhcaa.AX
namespace Go.Proofs.Ytfaibcgakcmhcaa
def side (hi : Bool) (l : List UInt8) : Bool:=hi ^^ decide (l.length % 2 = 1)
structure BL (l : List Int) : Prop where
 m : ∀ x ∈ l,0 <= x /\ x < 256
theorem BL.nil : BL []:=⟨λx h=>by cases h⟩
theorem BL.cons {x : Int} {l : List Int} (hx : 0 <= x /\ x < 256) (h : BL l) : BL (x :: l):=⟨λy hy=>by
 rcases List.mem_cons.1 hy with rfl | hy
 . exact hx
 . exact h.m y hy⟩
theorem BL.append {l m : List Int} (h : BL l) (k : BL m) : BL (l ++ m):=⟨λy hy=>by
 rcases List.mem_append.1 hy with hy | hy
 . exact h.m y hy
 . exact k.m y hy⟩
theorem BL.take {l : List Int} (h : BL l) (n : Nat) : BL (l.take n):=⟨λy hy=>h.m y (List.mem_of_mem_take hy)⟩
theorem BL.drop {l : List Int} (h : BL l) (n : Nat) : BL (l.drop n):=⟨λy hy=>h.m y (List.mem_of_mem_drop hy)⟩
end Go.Proofs.Ytfaibcgakcmhcaa
namespace Go.Proofs.Ytfaibcgakcmhcaa.AX
open Go.RowKit
abbrev eB : Elem Int:=eI .u8
theorem eI_rd (k : IntKind) (a : Int) : (eI k).rd ((eI k).cell a) = a:=rfl
theorem toL_b (l : List Int) : toL eB l.length (qC eB l) = l:=toL_row (eI_rd .u8) l
theorem leN_set {c : Wc} {t : TypeId} {α : Type} [Inhabited α] {E : Elem α} {L : List α} {idx n : Nat} {x : α} {f : Nat -> Nat -> CV} {g : Nat -> CV} (hn : n = L.length) (hi : idx < L.length)
 (hf : ∀ i,i < L.length -> ∀ j,j < E.sz -> ZX c (f i j) (qC E L i j)) (hg : ∀ j,j < E.sz -> ZX c (g j) (E.cell x j)) : LeN c ⟨t,n,E.sz,false,zBr false f idx g⟩ (zBD E t (L.set idx x)):=by
 refine leN_row (by rw [hn];simp) λi hi' j hj=>?_;subst hn;by_cases h : i = idx
 . subst h;refine ZU (beq_of rfl) ?_;refine leC_eq (hg j hj) ?_;unfold qC;rw [List.getD_eq_getElem?_getD,List.getElem?_set_self hi];rfl
 . refine Zd (zA2 h) ?_;refine leC_eq (hf i hi' j hj) ?_;unfold qC;rw [List.getD_eq_getElem?_getD,List.getD_eq_getElem?_getD,List.getElem?_set_ne (Ne.symm h)]
structure SmS (a b : List Int) where
 i : Nat
 hi : i <= a.length
 h : a.take i = b.take i
structure Hel where
 num : Int
 data : List Int
 tm : Trk
 til : Int
structure Sed where
 id : Int
 mn : Int
 held : List Hel
structure Cas where
 id : Int
 num : Int
 data : List Int
structure Smy where
 id : Int
 mn : Int
 bits : Int
instance : Inhabited Hel:=⟨⟨0,[],YJ,0⟩⟩
instance : Inhabited Sed:=⟨⟨0,0,[]⟩⟩
instance : Inhabited Cas:=⟨⟨0,0,[]⟩⟩
instance : Inhabited Smy:=⟨⟨0,0,0⟩⟩
def eSmC (x : Smy) (j : Nat) : CV:=bif Nat.beq j 0 then .int .u64 x.id else bif Nat.beq j 1 then .int .i64 x.mn else (.int .u32 x.bits)
def eSm : Elem Smy where
 sz:=3
 cell:=eSmC
 rd g:=⟨YY (g 0),YY (g 1),YY (g 2)⟩
 ok g:=isK .u64 (g 0) && isK .i64 (g 1) && isK .u32 (g 2)
 ok_eq g h j hj:=by
  simp only [Bool.and_eq_true] at h;unfold eSmC;by_cases c0 : j < 1
  . have e : j = 0:=by omega
    subst e;exact Qd h.1.1
  by_cases c1 : j < 2
  . have e : j = 1:=by omega
    subst e;exact Qd h.1.2
  by_cases c2 : j < 3
  . have e : j = 2:=by omega
    subst e;exact Qd h.2
  omega
 flat a j:=by
  unfold eSmC;cases Nat.beq j 0 with
  | true=>exact Qv
  | false=>
  cases Nat.beq j 1 with
  | true=>exact Qv
  | false=>
  exact Qv
theorem zEa : 0 < eSm.sz:=by decide
theorem sh_tk (t : Trk) : ∀ j,j < 8 -> ShC (eTk.cell t j):=λj hj=>by
 iterate 8 (rcases j with _ | j;· first | exact .int _ _ | exact .bool _)
 exact absurd hj (by omega)
theorem sh_b (l : List Int) : ShC (slR eB l):=shC_flat (λ_ _ _=>.int _ _) l
def zBx : CV -> List Int
 | .sl _ n _ f=>toL eB n f
 | _=>[]
def okD : CV -> Prop
 | .sl true n s f=>s = 1 /\ ∀ i,i < n -> eB.ok (f i) = true
 | .nils=>True
 | _=>False
theorem okD_rel {x : CV} (h : okD x) {r : QM} {X W : Nat -> Prop} {w : World} {v : Value} (hx : x.rel r X W w v) : (slR eB (zBx x)).rel r X W w v:=by
 unfold okD at h;split at h
 . rename_i n s f;obtain ⟨rfl,hk⟩:=h;show (CV.sl true (toL eB n f).length 1 (qC eB (toL eB n f))).rel r X W w v;rw [zEd];obtain ⟨a,cap,rfl,h1,h2⟩:=hx;refine ⟨a,cap,rfl,h1,λh0=>?_⟩;obtain ⟨ad,rfl,hs,ho,hX,hlt,hc⟩:=h2 h0;refine ⟨ad,rfl,hs,ho,hX,hlt,λi hi j hj=>?_⟩;obtain ⟨u,hu,hr⟩:=hc i hi j hj;refine ⟨u,hu,?_⟩;have key : qC eB (toL eB n f) i j = f i j:=by
    unfold qC;rw [toL_get hi];exact (eB.ok_eq _ (hk i hi) j hj).symm
   rw [key];exact hr
 . have : v = .slice none 0 0:=hx;subst this;exact ⟨none,0,rfl,Nat.le_refl _,λh=>absurd h (Nat.lt_irrefl _)⟩
 . exact h.elim
theorem zD3 (l : List Int) : zBx (slR eB l) = l:=toL_b l
theorem zl (l : List Int) : okD (slR eB l):=⟨rfl,λ_ _=>rfl⟩
def helC (h : Hel) (j : Nat) : CV:=bif Nat.beq j 0 then .int .i64 h.num else bif Nat.beq j 1 then slR eB h.data else bif Nat.blt j 10 then eTk.cell h.tm (j - 2) else .int .i64 h.til
structure OkH (g : Nat -> CV) : Prop where
 a : (isK .i64 (g 0) && eTk.ok (λq=>g (2 + q)) && isK .i64 (g 10)) = true
 b : okD (g 1)
def zn : NElem Hel where
 sz:=11
 cell:=helC
 rd g:=⟨YY (g 0),zBx (g 1),eTk.rd λq=>g (2 + q),YY (g 10)⟩
 ok:=OkH
 ok_rel g h j hj r X W w v hv:=by
  obtain ⟨h1,h2⟩:=h;simp only [Bool.and_eq_true] at h1;rcases j with _ | _ | j
  . rw [Qd h1.1.1] at hv;exact hv
  . exact okD_rel h2 hv
  . by_cases h8 : j < 8
    . have e:=eTk.ok_eq _ h1.1.2 j h8;have e2 : helC ⟨YY (g 0),zBx (g 1),eTk.rd λq=>g (2 + q),YY (g 10)⟩ (j + 1 + 1) = eTk.cell (eTk.rd λq=>g (2 + q)) j:=by
       unfold helC;rw [show Nat.beq (j + 1 + 1) 0 = false from rfl,show Nat.beq (j + 1 + 1) 1 = false from rfl,blt_lt (by omega : j + 1 + 1 < 10)];rfl
      show (helC _ (j + 1 + 1)).rel r X W w v;rw [e2];rw [show j + 1 + 1 = 2 + j by omega] at hv;have e3 : g (2 + j) = eTk.cell (eTk.rd λq=>g (2 + q)) j:=e;rw [e3] at hv;exact eTk.flat _ _ _ _ _ _ _ _ _ _ _ hv
    . have : j = 8:=by omega
      subst this;rw [show (8 + 1 + 1) = 10 from rfl,Qd h1.2] at hv;exact hv
 sh h j hj:=by
  rcases j with _ | _ | j
  . exact .int _ _
  . exact sh_b _
  . by_cases h8 : j < 8
    . unfold helC;rw [show Nat.beq (j + 1 + 1) 0 = false from rfl,show Nat.beq (j + 1 + 1) 1 = false from rfl,blt_lt (by omega : j + 1 + 1 < 10)];exact sh_tk h.tm j h8
    . have : j = 8:=by omega
      subst this;exact .int _ _
theorem zA1 : 0 < zn.sz:=by decide
theorem zR (h : Hel) : zn.rd (zn.cell h) = h:=by
 show (⟨h.num,zBx (slR eB h.data),h.tm,h.til⟩ : Hel) = h;rw [zD3]
theorem neH_ok (h : Hel) : zn.ok (zn.cell h):=⟨rfl,zl _⟩
def zDP : CV -> List Hel
 | .sl _ n _ f=>Yt zn n f
 | _=>[]
def okHs : CV -> Prop
 | .sl true n s f=>s = 11 /\ ∀ i,i < n -> zn.ok (f i)
 | .nils=>True
 | _=>False
theorem zD4 (l : List Hel) : zDP (slN zn l) = l:=ZE zR l
theorem qG (l : List Hel) : okHs (slN zn l):=⟨rfl,λ_ _=>neH_ok _⟩
theorem okHs_rel {x : CV} (h : okHs x) {r : QM} {X W : Nat -> Prop} {w : World} {v : Value} (hx : x.rel r X W w v) : (slN zn (zDP x)).rel r X W w v:=by
 unfold okHs at h;split at h
 . obtain ⟨rfl,hk⟩:=h;exact sl_toN (E:=zn) hk hx
 . have : v = .slice none 0 0:=hx;subst this;exact ⟨none,0,rfl,Nat.le_refl _,λh=>absurd h (Nat.lt_irrefl _)⟩
 . exact h.elim
def sedC (s : Sed) (j : Nat) : CV:=bif Nat.beq j 0 then .int .u64 s.id else bif Nat.beq j 1 then .int .i64 s.mn else slN zn s.held
structure OkS (g : Nat -> CV) : Prop where
 a : (isK .u64 (g 0) && isK .i64 (g 1)) = true
 b : okHs (g 2)
def ZF : NElem Sed where
 sz:=3
 cell:=sedC
 rd g:=⟨YY (g 0),YY (g 1),zDP (g 2)⟩
 ok:=OkS
 ok_rel g h j hj r X W w v hv:=by
  obtain ⟨h1,h2⟩:=h;simp only [Bool.and_eq_true] at h1;rcases j with _ | _ | _ | j
  . rw [Qd h1.1] at hv;exact hv
  . rw [show (0 + 1) = 1 from rfl,Qd h1.2] at hv;exact hv
  . exact okHs_rel h2 hv
  . exact absurd hj (by omega)
 sh s j hj:=by
  rcases j with _ | _ | _ | j
  . exact .int _ _
  . exact .int _ _
  . exact qO _
  . exact absurd hj (by omega)
theorem qA : 0 < ZF.sz:=by decide
theorem ZS (s : Sed) : ZF.rd (ZF.cell s) = s:=by
 show (⟨s.id,s.mn,zDP (slN zn s.held)⟩ : Sed) = s;rw [zD4]
def casC (s : Cas) (j : Nat) : CV:=bif Nat.beq j 0 then .int .u64 s.id else bif Nat.beq j 1 then .int .i64 s.num else slR eB s.data
structure OkC (g : Nat -> CV) : Prop where
 a : (isK .u64 (g 0) && isK .i64 (g 1)) = true
 b : okD (g 2)
def Zr : NElem Cas where
 sz:=3
 cell:=casC
 rd g:=⟨YY (g 0),YY (g 1),zBx (g 2)⟩
 ok:=OkC
 ok_rel g h j hj r X W w v hv:=by
  obtain ⟨h1,h2⟩:=h;simp only [Bool.and_eq_true] at h1;rcases j with _ | _ | _ | j
  . rw [Qd h1.1] at hv;exact hv
  . rw [show (0 + 1) = 1 from rfl,Qd h1.2] at hv;exact hv
  . exact okD_rel h2 hv
  . exact absurd hj (by omega)
 sh s j hj:=by
  rcases j with _ | _ | _ | j
  . exact .int _ _
  . exact .int _ _
  . exact sh_b _
  . exact absurd hj (by omega)
theorem zBG : 0 < Zr.sz:=by decide
theorem zEb (s : Cas) : Zr.rd (Zr.cell s) = s:=by
 show (⟨s.id,s.num,zBx (slR eB s.data)⟩ : Cas) = s;rw [zD3]
def Zb (mn : Int) : Int -> List Hel -> Bool
 | _,[]=>true
 | last,h :: t=>decide (last < h.num) && decide (h.num < mn + 32) && decide (h.num < 1073741824) && decide (h.data.length <= 64) && ZQ h.tm && zx h.til && Zb mn h.num t
def qc (s : Sed) : Bool:=decide (0 <= s.mn) && decide (s.mn <= 1073741824) && decide (s.held.length <= 32) && Zb s.mn (s.mn - 1) s.held
def Zx : Int -> List Sed -> Bool
 | _,[]=>true
 | last,s :: t=>decide (last < s.id) && qc s && Zx s.id t
def ZC (l : List Sed) : Bool:=decide (l.length <= 8) && Zx 0 l
structure HelR (h : Hel) : Prop where
 b : BL h.data
 n : h.data.length <= 9223372036854775807
structure SedR (s : Sed) : Prop where
 id : 0 <= s.id /\ s.id < 18446744073709551616
 h : ∀ x ∈ s.held,HelR x
 n : s.held.length <= 9223372036854775807
theorem zCW (c : Int) : Zc Try.prog 32 [(cI .i64).enc c] (cB.enc (zx c)):=by
 refine zr (wd:=1) (by decide) zM (zb qD) zN Try.func32 rfl _ (by show 1 <= _;decide) _ ?_;repeat' (first | (apply And.intro<;>intro hc<;>(first | exact Bool.noConfusion hc | (simp only [zb0] at hc) | skip)) | (refine And.intro zp0 ?_) | (apply And.intro) | (intro s hs))
 all_goals (refine Done.mk (zG ?_);simp_all [zx];try omega)
def LMc0 : CsL:=(32,some zC3) :: (58,some zCo) :: []
theorem zEc : qU Try.prog LMc0:=⟨zu ⟨_,Try.func32,rfl,by kernel_rfl⟩ λa _=>zCW a.1,zu ⟨_,Try.func58,rfl,by kernel_rfl⟩ λa _=>valid_ok a.1,trivial⟩
theorem vh_step {mn last : Int} {L : List Hel} {i : Nat} {V : Bool} (hi : i < L.length) (hV : Zb mn last (L.drop i) = V) : V = (decide (last < (L.getD i default).num) && decide ((L.getD i default).num < mn + 32) && decide ((L.getD i default).num < 1073741824) && decide ((L.getD i default).data.length <= 64) && ZQ (L.getD i default).tm && zx (L.getD i default).til && Zb mn (L.getD i default).num (L.drop (i + 1))):=by
 rw [<- hV,qL hi];rfl
theorem vseed_ok (s : Sed) (hn : s.held.length <= 9223372036854775807) : Zc Try.prog 55 [(cN ZF).enc s] (cB.enc (qc s)):=by
 obtain ⟨id,mn,L⟩:=s;dsimp only at hn;unfold qc;dsimp only;obtain ⟨V,hV⟩ : ∃ V,Zb mn (mn - 1) L = V:=⟨_,rfl⟩;rw [hV];refine zr (wd:=1) (by decide) zM (zb zEc) zN Try.func55 rfl _ (by show 1 <= _;decide) _ ?_;have f1 : mn < 0 -> (decide (0 <= mn) && decide (mn <= 1073741824) && decide (L.length <= 32) && V) = false:=λh=>by rw [decide_eq_false (p:=0 <= mn) (by omega)];rfl
 have f2 : 1073741824 < mn -> (decide (0 <= mn) && decide (mn <= 1073741824) && decide (L.length <= 32) && V) = false:=λh=>by rw [decide_eq_false (p:=mn <= 1073741824) (by omega),Bool.and_false];rfl
 have f3 : 32 < L.length -> (decide (0 <= mn) && decide (mn <= 1073741824) && decide (L.length <= 32) && V) = false:=λh=>by rw [decide_eq_false (p:=L.length <= 32) (by omega),Bool.and_false];rfl
 have f4 : 0 <= mn -> mn <= 1073741824 -> L.length <= 32 -> (decide (0 <= mn) && decide (mn <= 1073741824) && decide (L.length <= 32) && V) = V:=λh1 h2 h3=>by rw [decide_eq_true (p:=0 <= mn) h1,decide_eq_true (p:=mn <= 1073741824) h2,decide_eq_true (p:=L.length <= 32) h3];rfl
 obtain ⟨R,hR⟩ : ∃ R,(decide (0 <= mn) && decide (mn <= 1073741824) && decide (L.length <= 32) && V) = R:=⟨_,rfl⟩;rw [hR] at f1 f2 f3 f4 ⊢;clear hR;repeat' (first | (apply And.intro<;>intro hc<;>(first | exact Bool.noConfusion hc | (exfalso;first | exact absurd rfl hc | omega) | (simp only [zg] at hc<;>first | exact absurd rfl hc | (exfalso;first | exact absurd rfl hc | omega) | skip) | skip)) | (refine And.intro ze ?_) | (apply And.intro) | (intro s hs;skip))
 . exact Done.mk (zG (f1 ‹_›).symm)
 . exact Done.mk (zG (f2 ‹_›).symm)
 . exact Done.mk (zG (f3 (by omega)).symm)
 have hm0 : 0 <= mn:=by omega
 have hm1 : mn <= 1073741824:=by omega
 have hl32 : L.length <= 32:=by omega
 rw [f4 hm0 hm1 hl32];clear f1 f2 f3 f4;have w1 : IntKind.i64.wrap (mn - 1) = mn - 1:=IntWalk.i64_in _ (by omega);have w2 : IntKind.i64.wrap (mn + 32) = mn + 32:=IntWalk.i64_in _ (by omega);conv=>whnf
 refine zQ (zT zEc) (λs : {p : Nat × Int // p.1 <= L.length /\ Zb mn p.2 (L.drop p.1) = V}=>(⟨[(1,zO (.ptr 0 0 0 false)),(3,zO (.int .i64 s.1.2)),(24,zO (slN zn L)),(25,zO (.int .i64 (L.length : Int))),(26,zO (.int .i64 (s.1.1 : Int)))],[(0,some ⟨78,1,3,true,λ_=>sedC ⟨id,mn,L⟩⟩)],1⟩ : Hd)) (λs=>L.length - s.1.1) (λ_=>rfl) ?_ ⟨(0,mn - 1),Nat.zero_le _,hV⟩ [] ⟨rfl,⟨zH rfl,zA w1,zE (qO L).le,zA rfl,zA rfl,trivial⟩,⟨rfl,zI λj hj=>(ZF.sh _ j hj).le⟩,trivial⟩;rintro ⟨⟨i,last⟩,hi,hVi⟩;dsimp only at hi hVi ⊢;by_cases hil : i < L.length
 . have hst:=vh_step hil hVi;have w3 : IntKind.i64.wrap ((i : Int) + 1) = ((i + 1 : Nat) : Int):=(IntWalk.i64_in _ (by omega)).trans (by omega);have n1 : ¬ last < (L.getD ((i : Int).toNat) default).num -> false = V:=λg=>by rw [hst,decide_eq_false (p:=last < (L.getD i default).num) g];simp
   have n2 : ¬ (L.getD ((i : Int).toNat) default).num < mn + 32 -> false = V:=λg=>by rw [hst,decide_eq_false (p:=(L.getD i default).num < mn + 32) g];simp
   have n3 : ¬ (L.getD ((i : Int).toNat) default).num < 1073741824 -> false = V:=λg=>by rw [hst,decide_eq_false (p:=(L.getD i default).num < 1073741824) g];simp
   have n4 : ¬ (L.getD ((i : Int).toNat) default).data.length <= 64 -> false = V:=λg=>by rw [hst,decide_eq_false (p:=(L.getD i default).data.length <= 64) g];simp
   have n5 : ZQ (L.getD ((i : Int).toNat) default).tm = false -> false = V:=λg=>by rw [hst,show ZQ (L.getD i default).tm = false from g];simp
   have n6 : zx (L.getD ((i : Int).toNat) default).til = false -> false = V:=λg=>by rw [hst,show zx (L.getD i default).til = false from g];simp
   have ny : last < (L.getD ((i : Int).toNat) default).num -> (L.getD ((i : Int).toNat) default).num < mn + 32 -> (L.getD ((i : Int).toNat) default).num < 1073741824 -> (L.getD ((i : Int).toNat) default).data.length <= 64 -> ZQ (L.getD ((i : Int).toNat) default).tm = true -> zx (L.getD ((i : Int).toNat) default).til = true -> Zb mn (L.getD ((i : Int).toNat) default).num (L.drop (i + 1)) = V:=λg1 g2 g3 g4 g5 g6=>by
    rw [hst,decide_eq_true (p:=last < (L.getD i default).num) g1,decide_eq_true (p:=(L.getD i default).num < mn + 32) g2,decide_eq_true (p:=(L.getD i default).num < 1073741824) g3,decide_eq_true (p:=(L.getD i default).data.length <= 64) g4,show ZQ (L.getD i default).tm = true from g5,show zx (L.getD i default).til = true from g6];simp
   clear hst;repeat' (first | (simp only [w2]) | (apply And.intro<;>intro hc<;>(first | exact Bool.noConfusion hc | (exfalso;first | exact absurd rfl hc | omega) | (simp only [zg] at hc<;>first | exact absurd rfl hc | (exfalso;first | exact absurd rfl hc | omega) | skip) | skip)) | (refine And.intro ze ?_) | (apply And.intro) | (intro s hs;skip))
   . exact Done.mk (zG (n1 (by omega)))
   . exact Done.mk (zG (n2 (by omega)))
   . exact Done.mk (zG (n3 (by omega)))
   . exact Done.mk (zG (n4 (by omega)))
   . exact Done.mk (zG (n5 (by rename_i hs _ _;exact hs.symm.trans ‹_›)))
   . exact Done.mk (zG (n6 (hs.symm.trans hc)))
   . rename_i s1 hs1 hc1;refine ⟨⟨(i + 1,(L.getD ((i : Int).toNat) default).num),by dsimp only;omega,ny (by omega) (by omega) (by omega) (by omega) (hs1.symm.trans hc1) (hs.symm.trans hc)⟩,[],by dsimp only;omega,rfl,⟨zH rfl,zA rfl,zE (qO L).le,zA rfl,zA w3,trivial⟩,⟨rfl,zI λj hj=>(ZF.sh _ j hj).le⟩,trivial⟩
 . have hVt : V = true:=by rw [<- hVi,List.drop_of_length_le (by omega)];rfl
   rw [hVt];repeat' (first | (apply And.intro<;>intro hc<;>(first | exact Bool.noConfusion hc | (exfalso;first | exact absurd rfl hc | omega) | (simp only [zg] at hc<;>first | exact absurd rfl hc | (exfalso;first | exact absurd rfl hc | omega) | skip) | skip)) | (refine And.intro ze ?_) | (apply And.intro) | (intro s hs;skip))
   exact Done.mk (zG rfl)
abbrev vseedE : Zm:=qy (AC.cons (cN ZF) AC.nil) (λa=>a.1.held.length <= 9223372036854775807) (λa=>qc a.1) cB.enc
def qY {α : Type} [Inhabited α] (E : NElem α) (l : List α) : CV:=.sl false l.length E.sz (zo E l)
theorem zc {α : Type} [Inhabited α] {E : NElem α} (l : List α) : Cl (qY E l):=cl_sl λi _ j hj=>λc _=>(E.sh _ j hj).le
theorem vs_step {last : Int} {L : List Sed} {i : Nat} {V : Bool} (hi : i < L.length) (hV : Zx last (L.drop i) = V) : V = (decide (last < (L.getD i default).id) && qc (L.getD i default) && Zx (L.getD i default).id (L.drop (i + 1))):=by
 rw [<- hV,qL hi];rfl
theorem QX {α : Type} [Inhabited α] {L : List α} {i : Nat} (h : i < L.length) : L.getD i default ∈ L:=by
 rw [List.getD_eq_getElem?_getD,List.getElem?_eq_getElem h];exact List.getElem_mem h
def LMc1 : CsL:=(55,some vseedE) :: LMc0
theorem LMc1_ok : qU Try.prog LMc1:=⟨zu ⟨_,Try.func55,rfl,by kernel_rfl⟩ λa h=>vseed_ok a.1 h,zEc⟩
structure LHn (L : List Sed) : Prop where
 h : ∀ x ∈ L,x.held.length <= 9223372036854775807
 n : L.length <= 9223372036854775807
theorem rd_eqS {s : Bool} {M m : Sed} (hs : s = qc M) (h : M = m) : s = qc m:=by rw [hs,h]
theorem zBa (L : List Sed) (hL : LHn L) : Zc Try.prog 31 [(Yl ZF qA).enc L] (cB.enc (ZC L)):=by
 have hn:=hL.n;unfold ZC;obtain ⟨V,hV⟩ : ∃ V,Zx 0 L = V:=⟨_,rfl⟩;rw [hV];refine zr (wd:=1) (by decide) zM (zb LMc1_ok) zN Try.func31 rfl _ (by show 1 <= _;decide) _ ?_;repeat' (first | (apply And.intro<;>intro hc<;>(first | exact Bool.noConfusion hc | (exfalso;first | exact absurd rfl hc | omega) | (simp only [zg] at hc<;>first | exact absurd rfl hc | (exfalso;first | exact absurd rfl hc | omega) | skip) | skip)) | (refine And.intro ze ?_) | (apply And.intro) | (intro s hs;skip))
 . refine Done.mk (zG ?_);rw [decide_eq_false (p:=L.length <= 8) (by omega)];rfl
 have hl8 : L.length <= 8:=by omega
 rw [decide_eq_true (p:=L.length <= 8) hl8,Bool.true_and];conv=>whnf
 refine zQ (zT LMc1_ok) (λs : {p : Nat × Int // p.1 <= L.length /\ Zx p.2 (L.drop p.1) = V}=>(⟨[(3,zO (.int .u64 s.1.2)),(9,zO (qY ZF L)),(10,zO (.int .i64 (L.length : Int))),(11,zO (.int .i64 (s.1.1 : Int)))],[],1⟩ : Hd)) (λs=>L.length - s.1.1) (λ_=>rfl) ?_ ⟨(0,0),Nat.zero_le _,hV⟩ [] ⟨rfl,⟨zA rfl,zE (zm (zc L)),zA rfl,zA rfl,trivial⟩,trivial⟩;rintro ⟨⟨i,last⟩,hi,hVi⟩;dsimp only at hi hVi ⊢;unfold qY;by_cases hil : i < L.length
 . have hst:=vs_step hil hVi;have w3 : IntKind.i64.wrap ((i : Int) + 1) = ((i + 1 : Nat) : Int):=(IntWalk.i64_in _ (by omega)).trans (by omega);have hh:=hL.h _ (QX hil);have n1 : ¬ last < (L.getD ((i : Int).toNat) default).id -> false = V:=λg=>by rw [hst,decide_eq_false (p:=last < (L.getD i default).id) g];simp
   have n2 : qc (L.getD ((i : Int).toNat) default) = false -> false = V:=λg=>by rw [hst,show qc (L.getD i default) = false from g];simp
   have ny : last < (L.getD ((i : Int).toNat) default).id -> qc (L.getD ((i : Int).toNat) default) = true -> Zx (L.getD ((i : Int).toNat) default).id (L.drop (i + 1)) = V:=λg1 g2=>by
    rw [hst,decide_eq_true (p:=last < (L.getD i default).id) g1,show qc (L.getD i default) = true from g2];simp
   clear hst;repeat' (first | (apply And.intro<;>intro hc<;>(first | exact Bool.noConfusion hc | (exfalso;first | exact absurd rfl hc | omega) | (simp only [zg] at hc<;>first | exact absurd rfl hc | (exfalso;first | exact absurd rfl hc | omega) | skip) | skip)) | (refine And.intro ze ?_) | (apply And.intro) | (intro s hs;(have q:=rd_eqS (m:=L.getD ((i : Int).toNat) default) hs (ZS _);clear hs)))
   . exact Done.mk (zG (n1 (by omega)))
   . exact ⟨rfl,qG _⟩
   . exact Eq.mpr (congrArg (λz : Sed=>z.held.length <= 9223372036854775807) (ZS _)) hh
   . exact Done.mk (zG (n2 (q.symm.trans ‹_›)))
   . refine ⟨⟨(i + 1,(L.getD ((i : Int).toNat) default).id),by dsimp only;omega,ny (by omega) (q.symm.trans ‹_›)⟩,[],by dsimp only;omega,rfl,⟨zA rfl,zE (zm (zc L)),zA rfl,zA w3,trivial⟩,trivial⟩
 . have hVt : V = true:=by rw [<- hVi,List.drop_of_length_le (by omega)];rfl
   rw [hVt];repeat' (first | (apply And.intro<;>intro hc<;>(first | exact Bool.noConfusion hc | (exfalso;first | exact absurd rfl hc | omega) | (simp only [zg] at hc<;>first | exact absurd rfl hc | (exfalso;first | exact absurd rfl hc | omega) | skip) | skip)) | (refine And.intro ze ?_) | (apply And.intro) | (intro s hs;skip))
   exact Done.mk (zG rfl)
abbrev zDF : Zm:=qy (AC.cons (Yl ZF qA) AC.nil) (λa=>LHn a.1) (λa=>ZC a.1) cB.enc
def Zq (id : Int) : List Sed -> Nat -> Nat × Bool
 | [],k=>(k,false)
 | s :: t,k=>if id <= s.id then (k,decide (s.id = id)) else Zq id t (k + 1)
def ZN (num : Int) : List Hel -> Nat -> Nat × Bool
 | [],k=>(k,false)
 | h :: t,k=>if num <= h.num then (k,decide (h.num = num)) else ZN num t (k + 1)
def encNB (r : Nat × Bool) : FV:=.tup [.c (.int .i64 (r.1 : Int)),.c (.bool r.2)]
theorem zDG {H : Hp} {a : Int} {b : Bool} {R : Nat × Bool} (h1 : a = (R.1 : Int)) (h2 : b = R.2) : Done H (.tup [.c (.int .i64 a),.c (.bool b)]) (encNB R):=Done.mk (ZW ⟨zC h1,zS h2,trivial⟩)
theorem mfind_ok (L : List Sed) (id : Int) (hn : L.length <= 9223372036854775807) : Zc Try.prog 33 [(Yl ZF qA).enc L,(cI .u64).enc id] (encNB (Zq id L 0)):=by
 obtain ⟨R,hR⟩ : ∃ R,Zq id L 0 = R:=⟨_,rfl⟩;rw [hR];refine zr (wd:=1) (by decide) zM (zb qD) zN Try.func33 rfl _ (by show 2 <= _;decide) _ ?_;repeat' (first | (apply And.intro<;>intro hc<;>(first | exact Bool.noConfusion hc | (exfalso;first | exact absurd rfl hc | omega) | (simp only [zg] at hc<;>first | exact absurd rfl hc | (exfalso;first | exact absurd rfl hc | omega) | skip) | skip)) | (refine And.intro ze ?_) | (apply And.intro) | (intro s hs;skip))
 conv=>whnf
 refine zQ (zT qD) (λs : {i : Nat // i <= L.length /\ Zq id (L.drop i) i = R}=>(⟨[(0,zO (qY ZF L)),(1,zO (.int .u64 id)),(8,zO (qY ZF L)),(9,zO (.int .i64 (L.length : Int))),(10,zO (.int .i64 (s.1 : Int)))],[],1⟩ : Hd)) (λs=>L.length - s.1) (λ_=>rfl) ?_ ⟨0,Nat.zero_le _,hR⟩ [] ⟨rfl,⟨zE (zm (zc L)),zA rfl,zE (zm (zc L)),zA rfl,zA rfl,trivial⟩,trivial⟩;rintro ⟨i,hi,hV⟩;dsimp only at hi hV ⊢;unfold qY;by_cases hil : i < L.length
 . have w3 : IntKind.i64.wrap ((i : Int) + 1) = ((i + 1 : Nat) : Int):=(IntWalk.i64_in _ (by omega)).trans (by omega);rw [qL hil] at hV;have ny : id <= (L.getD ((i : Int).toNat) default).id -> R = (i,decide ((L.getD ((i : Int).toNat) default).id = id)):=λg=>by rw [<- hV];exact if_pos g
   have nn : ¬ id <= (L.getD ((i : Int).toNat) default).id -> Zq id (L.drop (i + 1)) (i + 1) = R:=λg=>by rw [<- hV];exact (if_neg g).symm
   clear hV;repeat' (first | (apply And.intro<;>intro hc<;>(first | exact Bool.noConfusion hc | (exfalso;first | exact absurd rfl hc | omega) | (simp only [zg] at hc<;>first | exact absurd rfl hc | (exfalso;first | exact absurd rfl hc | omega) | skip) | skip)) | (refine And.intro ze ?_) | (apply And.intro) | (intro s hs;skip))
   . rw [ny (by omega)];exact zDG rfl rfl
   . refine ⟨⟨i + 1,by omega,nn (by omega)⟩,[],by dsimp only;omega,rfl,⟨zE (zm (zc L)),zA rfl,zE (zm (zc L)),zA rfl,zA w3,trivial⟩,trivial⟩
 . have hi2 : i = L.length:=by omega
   rw [List.drop_of_length_le (by omega)] at hV;have hV : (i,false) = R:=hV;rw [<- hV];repeat' (first | (apply And.intro<;>intro hc<;>(first | exact Bool.noConfusion hc | (exfalso;first | exact absurd rfl hc | omega) | (simp only [zg] at hc<;>first | exact absurd rfl hc | (exfalso;first | exact absurd rfl hc | omega) | skip) | skip)) | (refine And.intro ze ?_) | (apply And.intro) | (intro s hs;skip))
   exact zDG (by rw [hi2]) rfl
abbrev mfindE : Zm:=qy (AC.cons (Yl ZF qA) (AC.cons (cI .u64) AC.nil)) (λa=>a.1.length <= 9223372036854775807) (λa=>Zq a.2.1 a.1 0) encNB
theorem mplace_ok (L : List Hel) (id : Int) (hn : L.length <= 9223372036854775807) : Zc Try.prog 35 [(Yl zn zA1).enc L,(cI .i64).enc id] (encNB (ZN id L 0)):=by
 obtain ⟨R,hR⟩ : ∃ R,ZN id L 0 = R:=⟨_,rfl⟩;rw [hR];refine zr (wd:=1) (by decide) zM (zb qD) zN Try.func35 rfl _ (by show 2 <= _;decide) _ ?_;repeat' (first | (apply And.intro<;>intro hc<;>(first | exact Bool.noConfusion hc | (exfalso;first | exact absurd rfl hc | omega) | (simp only [zg] at hc<;>first | exact absurd rfl hc | (exfalso;first | exact absurd rfl hc | omega) | skip) | skip)) | (refine And.intro ze ?_) | (apply And.intro) | (intro s hs;skip))
 conv=>whnf
 refine zQ (zT qD) (λs : {i : Nat // i <= L.length /\ ZN id (L.drop i) i = R}=>(⟨[(0,zO (qY zn L)),(1,zO (.int .i64 id)),(8,zO (qY zn L)),(9,zO (.int .i64 (L.length : Int))),(10,zO (.int .i64 (s.1 : Int)))],[],1⟩ : Hd)) (λs=>L.length - s.1) (λ_=>rfl) ?_ ⟨0,Nat.zero_le _,hR⟩ [] ⟨rfl,⟨zE (zm (zc L)),zA rfl,zE (zm (zc L)),zA rfl,zA rfl,trivial⟩,trivial⟩;rintro ⟨i,hi,hV⟩;dsimp only at hi hV ⊢;unfold qY;by_cases hil : i < L.length
 . have w3 : IntKind.i64.wrap ((i : Int) + 1) = ((i + 1 : Nat) : Int):=(IntWalk.i64_in _ (by omega)).trans (by omega);rw [qL hil] at hV;have ny : id <= (L.getD ((i : Int).toNat) default).num -> R = (i,decide ((L.getD ((i : Int).toNat) default).num = id)):=λg=>by rw [<- hV];exact if_pos g
   have nn : ¬ id <= (L.getD ((i : Int).toNat) default).num -> ZN id (L.drop (i + 1)) (i + 1) = R:=λg=>by rw [<- hV];exact (if_neg g).symm
   clear hV;repeat' (first | (apply And.intro<;>intro hc<;>(first | exact Bool.noConfusion hc | (exfalso;first | exact absurd rfl hc | omega) | (simp only [zg] at hc<;>first | exact absurd rfl hc | (exfalso;first | exact absurd rfl hc | omega) | skip) | skip)) | (refine And.intro ze ?_) | (apply And.intro) | (intro s hs;skip))
   . rw [ny (by omega)];exact zDG rfl rfl
   . refine ⟨⟨i + 1,by omega,nn (by omega)⟩,[],by dsimp only;omega,rfl,⟨zE (zm (zc L)),zA rfl,zE (zm (zc L)),zA rfl,zA w3,trivial⟩,trivial⟩
 . have hi2 : i = L.length:=by omega
   rw [List.drop_of_length_le (by omega)] at hV;have hV : (i,false) = R:=hV;rw [<- hV];repeat' (first | (apply And.intro<;>intro hc<;>(first | exact Bool.noConfusion hc | (exfalso;first | exact absurd rfl hc | omega) | (simp only [zg] at hc<;>first | exact absurd rfl hc | (exfalso;first | exact absurd rfl hc | omega) | skip) | skip)) | (refine And.intro ze ?_) | (apply And.intro) | (intro s hs;skip))
   exact zDG (by rw [hi2]) rfl
abbrev mplaceE : Zm:=qy (AC.cons (Yl zn zA1) (AC.cons (cI .i64) AC.nil)) (λa=>a.1.length <= 9223372036854775807) (λa=>ZN a.2.1 a.1 0) encNB
theorem zD2 {c : Wc} {t : TypeId} {α : Type} [Inhabited α] {E : NElem α} {L : List α} {x : α} {n : Nat} {f : Nat -> Nat -> CV} (hn : n = L.length + 1) (h1 : ∀ i,i < L.length -> ∀ j,j < E.sz -> ZX c (f i j) (zo E L i j)) (h2 : ∀ j,j < E.sz -> ZX c (f L.length j) (E.cell x j)) :
 LeN c ⟨t,n,E.sz,false,f⟩ (ZL E t (L ++ [x])):=by
 refine ⟨rfl,by simp [ZL,hn],rfl,rfl,λi hi j hj=>?_⟩;have hi' : i < n:=hi;show ZX c (f i j) (E.cell ((L ++ [x]).getD i default) j);by_cases h : i < L.length
 . have : (L ++ [x]).getD i default = L.getD i default:=by
    simp [List.getD_eq_getElem?_getD,List.getElem?_append_left h]
   rw [this];exact h1 i h j hj
 . have hi2 : i = L.length:=by omega
   subst hi2;have : (L ++ [x]).getD L.length default = x:=by simp [List.getD_eq_getElem?_getD]
   rw [this];exact h2 j hj
theorem zB {c : Wc} {t : TypeId} {α : Type} [Inhabited α] {E : NElem α} {L : List α} : LeN c (ZL E t L) (ZL E t L):=⟨rfl,rfl,rfl,rfl,λ_ _ j hj=>(E.sh _ j hj).le⟩
theorem zEZ {α : Type} [Inhabited α] {E : NElem α} (L : List α) {i j : Nat} (hj : j < E.sz) : NF (zo E L i j):=(E.sh _ j hj).nf
def cRp1 : Codec Int where
 enc a:=.e (.c (.rp false 1 λ_=>.int .i64 a))
 dec H x:=match x with
  | .e (.c (.rp _ m g))=>match g 0 with
    | .int .i64 v=>bif Nat.beq m 1 then some (v,none,[]) else none
    | _=>none
  | _=>none
 sound H H' x a p rd h hp hh:=by
  split at h
  . rename_i sh m g;split at h
    . rename_i v hg;obtain ⟨hb,h5⟩:=qZ h;have hb:=Nat.eq_of_beq_eq_true hb;subst hb;injection h5 with h6 h7;injection h7 with h7 h8;subst h6 h7 h8;rintro cx r w u st ⟨ad,rfl,hs,ho,hx,hlt,hq⟩;refine ⟨ad,rfl,hs,λh=>ho (zB3 h),(λh=>by cases h),hlt,λj hj=>?_⟩;obtain ⟨u,hu,hr⟩:=hq j hj;obtain rfl : j = 0:=by omega
      rw [hg] at hr;exact ⟨u,hu,hr⟩
    . cases h
  . cases h
theorem zAb {c : Wc} {f : FuncId} {n m : Nat} {a b : Nat -> CV} (h : ∀ k,k < n + m -> ZX c (a k) (b k)) : ZX c (.fn f n m a) (.fn f n m b):=by
 rintro hl cx r w v st ⟨fs,cs,rfl,h1,h2,h3,h4⟩;refine ⟨fs,cs,rfl,h1,h2,λk u hu=>?_,λk u hu=>?_⟩
 . have:=(Array.getElem?_eq_some_iff.1 hu).1;exact h k (by omega) hl cx r w u st (h3 k u hu)
 . have:=(Array.getElem?_eq_some_iff.1 hu).1;exact h (n + k) (by omega) hl cx r w u st (h4 k u hu)
theorem leC_rp1 {c : Wc} {k : IntKind} {a : Int} (hf : c.fin = false) : ZX c (.rp false 1 λ_=>.int k a) (.rp false 1 λ_=>.int k a):=by
 rintro hl cx r w v st ⟨ad,rfl,hs,ho,hx,hlt,hq⟩;refine ⟨ad,rfl,hs,?_,(λh=>by cases h),hlt,hq⟩;rintro (h | ⟨h,_⟩)
 . exact ho (wr_sub (cx:=cx) hl h)
 . rw [hf] at h;cases h
def cWant : Codec (Option Int) where
 enc a:=match a with
  | none=>.e (.c (.fn 57 0 0 λ_=>.top))
  | some l=>.e (.c (.fn 59 0 1 λ_=>.rp false 1 λ_=>.int .i64 l))
 dec H x:=match x with
  | .e (.c (.fn f n m a))=>
    bif Nat.beq f 57 && Nat.beq n 0 && Nat.beq m 0 then some (none,none,[]) else
    bif Nat.beq f 59 && Nat.beq n 0 && Nat.beq m 1 then
     match a 0 with
     | .ptr k 0 0 _=>match zU H k with
       | some ⟨_,n0,z0,_,f0⟩=>match f0 0 0 with
         | .int .i64 v=>bif Nat.blt 0 n0 && Nat.blt 0 z0 then some (some v,none,[k]) else none
         | _=>none
       | none=>none
     | _=>none
    else none
  | _=>none
 sound H H' x a p rd h hp hh:=by
  split at h
  . rename_i f n m a0;cases hb : (Nat.beq f 57 && Nat.beq n 0 && Nat.beq m 0) with
    | true=>
      rw [hb,cond_true] at h;injection h with h;injection h with h h';injection h' with h' h'';subst h h' h'';simp only [Bool.and_eq_true] at hb;have b1:=Nat.eq_of_beq_eq_true hb.1.1;have b2:=Nat.eq_of_beq_eq_true hb.1.2;have b3:=Nat.eq_of_beq_eq_true hb.2;subst b1 b2 b3;rintro cx r w v st ⟨fs,cs,rfl,h1,h2,h3,h4⟩;refine ⟨fs,cs,rfl,h1,h2,λk u hu=>?_,λk u hu=>?_⟩
      . have:=(Array.getElem?_eq_some_iff.1 hu).1;omega
      . have:=(Array.getElem?_eq_some_iff.1 hu).1;omega
    | false=>
      rw [hb,cond_false] at h;cases hb2 : (Nat.beq f 59 && Nat.beq n 0 && Nat.beq m 1) with
      | false=>rw [hb2] at h;cases h
      | true=>
        rw [hb2,cond_true] at h;simp only [Bool.and_eq_true] at hb2;have b1:=Nat.eq_of_beq_eq_true hb2.1.1;have b2:=Nat.eq_of_beq_eq_true hb2.1.2;have b3:=Nat.eq_of_beq_eq_true hb2.2;subst b1 b2 b3;split at h
        . rename_i k fl ha0;split at h
          . rename_i t0 n0 z0 v0 f0 he0;split at h
            . rename_i l hc0;cases hb3 : (Nat.blt 0 n0 && Nat.blt 0 z0) with
              | false=>rw [hb3] at h;cases h
              | true=>
                rw [hb3,cond_true] at h;injection h with h;injection h with h h';injection h' with h' h'';subst h h' h'';simp only [Bool.and_eq_true] at hb3;have g0 : zU H' k = some ⟨t0,n0,z0,v0,f0⟩:=by rw [<- hh k (by simp)];exact he0
                rintro cx r w v st ⟨fs,cs,rfl,h1,h2,h3,h4⟩;refine ⟨fs,cs,rfl,h1,h2,λq u hu=>?_,λq u hu=>?_⟩
                . have:=(Array.getElem?_eq_some_iff.1 hu).1;omega
                . have hq:=(Array.getElem?_eq_some_iff.1 hu).1;have hr:=h4 q u hu;rw [Nat.zero_add] at hr;obtain rfl : q = 0:=by omega
                  rw [ha0] at hr;obtain ⟨y,hy,rfl⟩:=hr;refine ⟨⟨y.b,0 * y.sz + 0,none⟩,rfl,rfl,?_,(λh=>by cases h),(st.dom k y hy.1).1,λj hj=>?_⟩
                  . rintro ⟨k2,e2,z,q1,q2,q3,q4⟩;have:=st.inj k2 k e2 _ z y q1 g0 q2 hy.1 q3;exact q4 (by rw [this];exact List.mem_singleton.2 rfl)
                  . obtain rfl : j = 0:=by omega
                    obtain ⟨u,hu,hr⟩:=YH st g0 hy (i:=0) (j:=0) (Nat.le_of_ble_eq_true hb3.1) (Nat.le_of_ble_eq_true hb3.2);refine ⟨u,hu,?_⟩;have hr : (f0 0 0).rel r cx.X (wr r H') w u:=hr;rw [hc0] at hr;exact hr
            . cases h
          . cases h
        . cases h
  . cases h
theorem all_ok (h : Hel) : Zc Try.prog 57 [(cN zn).enc h] (cB.enc true):=by
 refine zr (wd:=1) (by decide) zM (zb qD) zN Try.func57 rfl _ (by show 1 <= _;decide) _ ?_;repeat' (first | (apply And.intro<;>intro hc<;>(first | exact Bool.noConfusion hc | (simp only [zb0] at hc) | skip)) | (refine And.intro zp0 ?_) | (apply And.intro) | (intro s hs))
 exact Done.mk (zG rfl)
theorem from_ok (h : Hel) (l : Int) : Zc Try.prog 59 [(cN zn).enc h,cRp1.enc l] (cB.enc (decide (l <= h.num))):=by
 refine zr (wd:=1) (by decide) zM (zb qD) zN Try.func59 rfl _ (by show 2 <= _;decide) _ ?_;repeat' (first | (apply And.intro<;>intro hc<;>(first | exact Bool.noConfusion hc | (exfalso;first | exact absurd rfl hc | omega) | (simp only [zg] at hc<;>first | exact absurd rfl hc | (exfalso;first | exact absurd rfl hc | omega) | skip) | skip)) | (refine And.intro ze ?_) | (apply And.intro) | (intro s hs;skip))
 all_goals first | exact Done.mk (zG rfl) | skip
theorem take_snoc {α : Type} [Inhabited α] {L : List α} {i : Nat} (h : i < L.length) : L.take (i + 1) = L.take i ++ [L.getD i default]:=by
 rw [List.take_add_one,List.getElem?_eq_getElem h,List.getD_eq_getElem?_getD,List.getElem?_eq_getElem h];rfl
def LMk : CsL:=(57,some (qy (AC.cons (cN zn) AC.nil) (λ_=>True) (λ_=>true) cB.enc)) :: (59,some (qy (AC.cons (cN zn) (AC.cons cRp1 AC.nil)) (λ_=>True) (λa=>decide (a.2.1 <= a.1.num)) cB.enc)) :: []
theorem LMk_ok : qU Try.prog LMk:=⟨zu ⟨_,Try.func57,rfl,by kernel_rfl⟩ λa _=>all_ok a.1,zu ⟨_,Try.func59,rfl,by kernel_rfl⟩ λa _=>from_ok a.1 a.2.1,trivial⟩
def Zj (W : Option Int) (h : Hel) : Bool:=match W with
 | none=>true
 | some l=>decide (l <= h.num)
structure KpI (L : List Hel) : Prop where
 n : L.length <= 1000
 d : ∀ x ∈ L,x.data.length <= 1000
theorem keep_ok (L : List Hel) (W : Option Int) (hL : KpI L) : zBu Try.prog 56 [(Yl zn zA1).enc L,cWant.enc W] (some (L.filter (Zj W)).length) none (ZL zn 85 (L.filter (Zj W))):=by
 have hn:=hL.n;refine zBb (wd:=1) (by decide) zM (zb LMk_ok) zN Try.func56 rfl _ (by show 2 <= _;decide) (λi _ j hj=>zEZ _ hj) ?_;repeat' (first | (apply And.intro<;>intro hc<;>(first | exact Bool.noConfusion hc | (exfalso;first | exact absurd rfl hc | omega) | (simp only [zg] at hc<;>first | exact absurd rfl hc | (exfalso;first | exact absurd rfl hc | omega) | skip) | skip)) | (refine And.intro ze ?_) | (apply And.intro) | (intro s hs;skip) | (refine Exists.intro _ (And.intro ⟨rfl,rfl,rfl⟩ ?_)))
 conv=>whnf
 have hfn : ∀ c : Wc,c.fin = false -> LeF c (cWant.enc W) (cWant.enc W):=λc hc=>by
  cases W with
  | none=>exact zE (zAb λk hk=>absurd hk (Nat.not_lt_zero k))
  | some l=>exact zE (zAb λk hk=>leC_rp1 hc)
 refine zQ (zT LMk_ok) (λs : {i : Nat // i <= L.length}=>(⟨[(1,cWant.enc W),(5,zO (.os 50 0 ((L.take s.1).filter (Zj W)).length)),(8,zO (qY zn L)),(9,zO (.int .i64 (L.length : Int))),(10,zO (.int .i64 (s.1 : Int)))],[(50,some (ZL zn 85 ((L.take s.1).filter (Zj W))))],51⟩ : Hd)) (λs=>L.length - s.1) (λ_=>rfl) ?_ ⟨0,Nat.zero_le _⟩ [(50,none)] ⟨rfl,⟨hfn _ rfl,zE (ZP rfl),zE (zm (zc L)),zA rfl,zA rfl,trivial⟩,⟨rfl,rfl,rfl,Nat.le_of_ble_eq_true rfl⟩,trivial⟩;rintro ⟨i,hi⟩;dsimp only at hi ⊢;obtain ⟨A,eA'⟩ : ∃ A,(L.take i).filter (Zj W) = A:=⟨_,rfl⟩;have hAl : A.length <= i:=by rw [<- eA'];exact Nat.le_trans (List.length_filter_le _ _) (by rw [List.length_take];omega)
 unfold qY;by_cases hil : i < L.length
 . have w3 : IntKind.i64.wrap ((i : Int) + 1) = ((i + 1 : Nat) : Int):=(IntWalk.i64_in _ (by omega)).trans (by omega);have hd:=hL.d _ (QX hil);have hd2 : (L.getD ((i : Int).toNat) default).data.length <= 1000:=hd;have hst : (L.take (i + 1)).filter (Zj W) = if Zj W (L.getD i default) = true then A ++ [L.getD i default] else A:=by
    rw [take_snoc hil,List.filter_append,eA'];simp only [List.filter_cons,List.filter_nil];split<;>simp
   rw [eA'];clear eA';rcases W with _ | l
   . have hst' : (L.take (i + 1)).filter (Zj none) = A ++ [L.getD i default]:=by rw [hst];exact if_pos rfl
     clear hst;repeat' (first | (apply And.intro<;>intro hc<;>(first | exact Bool.noConfusion hc | (exfalso;first | exact absurd rfl hc | omega) | (simp only [zg] at hc<;>first | exact absurd rfl hc | (exfalso;first | exact absurd rfl hc | omega) | skip) | skip)) | (refine And.intro ze ?_) | (apply And.intro) | (intro s hs;(have q : s = true:=hs;clear hs;subst q)) | (refine Exists.intro _ (And.intro ⟨rfl,rfl,rfl⟩ ?_)))
     . exact ⟨rfl,zl _⟩
     . refine ⟨⟨i + 1,by omega⟩,[(50,some 67)],by dsimp only;omega,rfl,⟨hfn _ rfl,zE (zD rfl (by rw [hst',List.length_append];rfl)),zE (zm (zc L)),zA rfl,zA w3,trivial⟩,⟨rfl,?_⟩,trivial⟩;rw [hst'];refine zD2 (x:=L.getD i default) rfl (λi hi j hj=>ZU (Nat.ble_eq_true_of_le hi) (zn.sh _ j hj).le) λj hj=>Zd (Zn _) ?_;rw [Nat.sub_self];have hj : j < 11:=hj;iterate 11 (rcases j with _ | j;· first | exact zC rfl | exact zS rfl | exact zy rfl rfl rfl (by first | rfl | exact Nat.zero_add _) (by first | exact Nat.le_refl _ | (simp;done)) λq hq j hj=>YE (E:=eB) (congrArg (λz=>(L.getD i default).data.getD z default) (Nat.zero_add q)))
       exact absurd hj (by omega)
   . repeat' (first | (apply And.intro<;>intro hc<;>(first | exact Bool.noConfusion hc | (exfalso;first | exact absurd rfl hc | omega) | (simp only [zg] at hc<;>first | exact absurd rfl hc | (exfalso;first | exact absurd rfl hc | omega) | skip) | skip)) | (refine And.intro ze ?_) | (apply And.intro) | (intro s hs;(have q : s = decide (l <= (L.getD ((i : Int).toNat) default).num):=hs;clear hs)) | (refine Exists.intro _ (And.intro ⟨rfl,rfl,rfl⟩ ?_)))
     . exact ⟨rfl,zl _⟩
     . have hst' : (L.take (i + 1)).filter (Zj (some l)) = A ++ [L.getD i default]:=by rw [hst];exact if_pos (q.symm.trans ‹_›)
       clear hst;refine ⟨⟨i + 1,by omega⟩,[(50,some 67)],by dsimp only;omega,rfl,⟨hfn _ rfl,zE (zD rfl (by rw [hst',List.length_append];rfl)),zE (zm (zc L)),zA rfl,zA w3,trivial⟩,⟨rfl,?_⟩,trivial⟩;rw [hst'];refine zD2 (x:=L.getD i default) rfl (λi hi j hj=>ZU (Nat.ble_eq_true_of_le hi) (zn.sh _ j hj).le) λj hj=>Zd (Zn _) ?_;rw [Nat.sub_self];have hj : j < 11:=hj;iterate 11 (rcases j with _ | j;· first | exact zC rfl | exact zS rfl | exact zy rfl rfl rfl (by first | rfl | exact Nat.zero_add _) (by first | exact Nat.le_refl _ | (simp;done)) λq hq j hj=>YE (E:=eB) (congrArg (λz=>(L.getD i default).data.getD z default) (Nat.zero_add q)))
       exact absurd hj (by omega)
     . have hst' : (L.take (i + 1)).filter (Zj (some l)) = A:=by rw [hst];exact if_neg (λh=>Bool.noConfusion (h.symm.trans (q.symm.trans ‹_›)))
       refine ⟨⟨i + 1,by omega⟩,[],by dsimp only;omega,rfl,⟨hfn _ rfl,zE (zD rfl (by rw [hst'])),zE (zm (zc L)),zA rfl,zA w3,trivial⟩,⟨rfl,?_⟩,trivial⟩;rw [hst'];exact zB
 . have hi2 : i = L.length:=by omega
   subst hi2;rw [List.take_length] at eA';rw [List.take_length,eA'];repeat' (first | (apply And.intro<;>intro hc<;>(first | exact Bool.noConfusion hc | (exfalso;first | exact absurd rfl hc | omega) | (simp only [zg] at hc<;>first | exact absurd rfl hc | (exfalso;first | exact absurd rfl hc | omega) | skip) | skip)) | (refine And.intro ze ?_) | (apply And.intro) | (intro s hs;skip) | (refine Exists.intro _ (And.intro ⟨rfl,rfl,rfl⟩ ?_)))
   exact ⟨⟨some 50,zE (zD rfl rfl),zB⟩⟩
abbrev keepE : Zm:=newE (AC.cons (Yl zn zA1) (AC.cons cWant AC.nil)) (λa=>KpI a.1) (λa=>a.1.filter (Zj a.2.1)) (λs=>some s.length) (λ_=>none) (λs=>ZL zn 85 s)
theorem zDO : EntOk Try.prog 56 keepE:=zB5 ⟨_,Try.func56,rfl,by kernel_rfl⟩ (λs l h=>by cases h) λa h=>keep_ok a.1 a.2.1 h
structure Sem (P : Program) (nt np : Nat) (c : Code) (fr : Fr) (H : Hp) (nx : Nat) (K : Kt) : Prop where
 run : ∀ (cx : Cx) (fx : QM),(∀ k b,cx.pin k = some b -> k < np) -> ∀ a w,Is cx nt np fx fr H nx a w -> c.wp P (lift cx nt np fx K) a w
section
variable {P : Program} {T : YS} {Q : Qs} {wd nt np : Nat}
theorem QP (hwd : 0 < wd) (hT : qI P T) (hQ : zBE P Q) (hm : P.follows .mixedOrders = true) {c : Code} {fr : Fr} {H : Hp} {nx : Nat} {K : Kt} (h : Zs T Q wd nt np c fr H nx K) : Sem P nt np c fr H nx K:=
 ⟨λcx fx hpin=>exec_ok hwd hT hQ hm hpin c fr H nx K h⟩
theorem sem_seq {a b : Code} {fr : Fr} {H : Hp} {nx : Nat} {K : Kt} (h : Sem P nt np a fr H nx (QY (λfr H nx=>Sem P nt np b fr H nx K) K)) : Sem P nt np (.seq a b) fr H nx K:=by
 refine ⟨λcx fx hpin a' w hs=>?_⟩;refine wp_seq (wp_mono (h.run cx fx hpin a' w hs) λe a2 w2 hq=>?_);obtain ⟨fr',H',nx',hk,hs'⟩:=hq;cases e<;>first | exact ⟨fr',H',nx',hk,hs'⟩ | exact hk.run cx fx hpin a2 w2 hs'
theorem sem_to {σ : Type} (S : σ -> Hd) (s : σ) (rho : List (Nat × Option Nat)) {c : Code} {fr : Fr} {H : Hp} {nx : Nat} {K : Kt} (hnp : Nat.ble np (S s).nx = true) (h0 : To S np fr H s rho) (h : Sem P nt np c (S s).fr (S s).H (S s).nx K) : Sem P nt np c fr H nx K:=by
 refine ⟨λcx fx hpin a w hs=>?_⟩;obtain ⟨r,st,hf,hnm,hts,hdf,hnp',hfx⟩:=hs;obtain ⟨g1,g2,g3,g4⟩:=weaken (c:=⟨H,(S s).H,rho,(S s).nx,false⟩) st hf hpin hnp h0.1 rfl h0.2.1 h0.2.2;exact h.run cx fx hpin a w ⟨_,g1,g2,g3,hts,hdf,Nat.le_of_ble_eq_true hnp,λk hk=>(g4 k hk).trans (hfx k hk)⟩
theorem Zf (hwd : 0 < wd) (hT : qI P T) (hQ : zBE P Q) (hM : zCe Q) (hm : P.follows .mixedOrders = true) {a b : Code} {fr : Fr} {H : Hp} {nx : Nat} {K : Kt} {σ : Type} (S : σ -> Hd) (hnp : ∀ s,Nat.ble np (S s).nx = true)
 (h1 : Zs T Q wd nt np a fr H nx (QY (λfr H _=>∃ s rho,To S np fr H s rho) K)) (h2 : ∀ s,Sem P nt np b (S s).fr (S s).H (S s).nx K) : Sem P nt np (.seq a b) fr H nx K:=by
 refine sem_seq (QP hwd hT hQ hm (zBj hM a _ _ (zBi (λfr H nx h=>?_) (λ_ _ _ _ h=>h)) _ _ _ h1));obtain ⟨s,rho,h⟩:=h;exact sem_to S s rho (hnp s) h (h2 s)
theorem zK (hwd : 0 < wd) (hT : qI P T) (hQ : zBE P Q) (hm : P.follows .mixedOrders = true) {a b : Code} {fr : Fr} {H : Hp} {nx : Nat} {K : Kt} (h : Zs T Q wd nt np a fr H nx (QY (λfr H nx=>Sem P nt np b fr H nx K) K)) : Sem P nt np (.seq a b) fr H nx K:=sem_seq (QP hwd hT hQ hm h)
theorem zE1 {cx : Cx} {f : FuncId} (hT : qI P T) {fn : Func} {c : Code} (hf : P.funcs[f]? = some fn) (hb : fn.body = some c) {args : List FV} (hn : args.length <= fn.ntmps) {H0 : Hp} {post : FV -> Hp -> Nat -> Prop}
 (h : Sem P fn.ntmps np c (Yc args 0) H0 np (qN T fn.results.toList post)) (hpin : ∀ k b,cx.pin k = some b -> k < np) {r : QM} {w : World} {vals : Array Value} (st : St cx r H0 w) (hrel : zAU r cx.X (wr r H0) w args vals) (hnm : ∀ k,np <= k -> r k = none /\ zU H0 k = none) :
 Calls P f vals w λe w'=>∃ v r' x Hf nf,e = .returned v /\ post x Hf nf /\ St cx r' Hf w' /\ (∀ k,nf <= k -> r' k = none /\ zU Hf k = none) /\ x.rel r' cx.X (wr r' Hf) w' v /\ ∀ k,k < np -> r' k = r k:=by
 refine calls_of_wp hf hb ?_;have hsz : vals.size = args.length:=hrel.1;have fr0 : YV cx r H0 w (Yc args 0) (vals ++ Array.replicate (fn.ntmps - vals.size) undef):=by
  intro t;rw [zD6,if_pos (Nat.zero_le _),Nat.sub_zero];cases hx : args[t]? with
  | none=>trivial
  | some x=>
    have hlt : t < vals.size:=by rw [hsz];exact (List.getElem?_eq_some_iff.1 hx).1
    have hv : vals[t]? = some vals[t]:=Array.getElem?_eq_getElem hlt;have e1 : (vals ++ Array.replicate (fn.ntmps - vals.size) undef).getD t undef = vals[t]:=by
     rw [Array.getD_eq_getD_getElem?,Array.getElem?_append_left hlt,hv];rfl
    rw [e1];exact hrel.2 t x _ hx hv
 refine wp_mono (h.run cx r hpin _ w ⟨_,st,fr0,hnm,by simp;omega,rfl,Nat.le_refl _,λ_ _=>rfl⟩) λe a' w' hq=>?_;obtain ⟨fr,H,nx,hk,r',st',hfr,hnm',_,hdf,_,hfx'⟩:=hq;have main : ∀ l,resL T fr H fn.results.toList = some l -> post (asF l) H nx -> a'.defers = [] /\ ∃ v,(results fn a'.tmps).run P w' = .ok v w' /\ ∃ u r' x Hf nf,Ending.returned v = .returned u /\ post x Hf nf /\ St cx r' Hf w' /\ (∀ k,nf <= k -> r' k = none /\ zU Hf k = none) /\ x.rel r' cx.X (wr r' Hf) w' u /\ ∀ k,k < np -> r' k = r k:=by
  intro l hl hp;obtain ⟨v,g1,g2⟩:=zDU hT st' hfr hl;exact ⟨hdf,v,g1,v,r',_,H,nx,rfl,hp,st',hnm',g2,hfx'⟩
 cases e with
 | ret=>
   simp only [qN] at hk;split at hk
   . rename_i l hl;exact main l hl hk
   . exact hk.elim
 | normal=>
   simp only [qN] at hk;split at hk
   . rename_i l hl;exact main l hl hk
   . exact hk.elim
 | exit=>exact hk.elim
 | goto=>exact hk.elim
 | panic=>exact hk.elim
 | outgrown=>exact hk.elim
theorem zFZ (hT : qI P T) {f : FuncId} {fn : Func} {c : Code} (hf : P.funcs[f]? = some fn) (hb : fn.body = some c) (args : List FV) (hn : args.length <= fn.ntmps) (spec : FV)
 (h : Sem P fn.ntmps 0 c (Yc args 0) [] 0 (qN T fn.results.toList λx H _=>Done H x spec)) : Zc P f args spec:=by
 intro X w vals hrel hX;have hrel' : zAU (λ_=>none) X (wr (λ_=>none) []) w args vals:=by rw [zCZ];exact hrel
 refine (zE1 hT hf hb hn h (λ_ _ h=>by cases h) (zAo hX) hrel' (λ_ _=>⟨rfl,rfl⟩)).mono λe w' he=>?_;obtain ⟨v,r',x,Hf,nf,rfl,hfin,st,_,hx,_⟩:=he;refine ⟨v,rfl,⟨st.os,st.tape,st.output,st.size,λb hb=>st.kept b hb id⟩,?_⟩;have h1:=hfin.le (λk e' h=>by cases h) _ r' w' v st hx;rw [ren_nil] at h1;refine FV.rel_w (λb hb=>?_) _ _ h1;exact .inr ⟨rfl,hb⟩
end
def YA (nm : Nat) : List Ent -> Hp
 | []=>[]
 | e :: t=>(nm,some e) :: YA (nm + 1) t
theorem zBT : ∀ (Es : List Ent) (nm k : Nat),zU (YA nm Es) k = if nm <= k then Es[k - nm]? else none:=by
 intro Es;induction Es with
 | nil=>intro nm k;simp [YA,zU,qx]
 | cons e Es ih=>
   intro nm k;unfold YA;by_cases hk : k = nm
   . subst hk;rw [if_pos (Nat.le_refl _),Nat.sub_self];exact zh _ _ _ _
   . have e1 : zU ((nm,some e) :: YA (nm + 1) Es) k = zU (YA (nm + 1) Es) k:=zY _ _ _ hk;rw [e1,ih];by_cases hle : nm + 1 <= k
     . rw [if_pos hle,if_pos (by omega),show k - nm = (k - (nm + 1)) + 1 by omega,List.getElem?_cons_succ]
     . rw [if_neg hle,if_neg (by omega)]
theorem effL_key {Es : List Ent} {nm k : Nat} (h : ZV (YA nm Es) k = true) : nm <= k /\ k < nm + Es.length:=by
 induction Es generalizing nm with
 | nil=>cases h
 | cons e Es ih=>
   unfold YA at h;rw [QZ,Bool.or_eq_true] at h;rw [List.length_cons];rcases h with h | h
   . have:=Nat.eq_of_beq_eq_true h;omega
   . have:=ih h;omega
theorem zFY {H : Hp} {k : Nat} (h : ZV H k = false) : zU H k = none:=by
 induction H with
 | nil=>rfl
 | cons p H ih=>
   obtain ⟨a,b⟩:=p;rw [QZ,Bool.or_eq_false_iff] at h;have hne : k ≠ a:=λe=>by subst e;simp at h
   exact (zY _ _ _ hne).trans (ih h.2)
def rngB (X : Nat -> Prop) (r : QM) (b : Nat) : Prop:=X b \/ ∃ k y,r k = some y /\ y.b = b
structure NewsR (X : Nat -> Prop) (w w' : World) (v : Value) (x : FV) (Es : List Ent) (r : QM) : Prop where
 bel : Below w.heap.size w w'
 dom : ∀ k y,r k = some y -> k < Es.length /\ w.heap.size <= y.b /\ y.b < w'.heap.size
 inj : ∀ k k' y y',r k = some y -> r k' = some y' -> y.b = y'.b -> k = k'
 ent : ∀ k e,Es[k]? = some e -> Yz r X (rngB X r) w' e (r k) w'.heap
 val : x.rel r X (rngB X r) w' v
def zAl (P : Program) (f : FuncId) (args : List FV) (x : FV) (Es : List Ent) : Prop:=
 ∀ X w (vals : Array Value),zAU (λ_=>none) X (λ_=>False) w args vals -> Xw X w -> Calls P f vals w λe w'=>∃ v r,e = .returned v /\ NewsR X w w' v x Es r
structure FinNs (y : FV) (Es : List Ent) (x : FV) (H : Hp) : Prop where
 ex : ∃ rho,zDS 0 ⟨H,YA 0 Es,rho,Es.length,true⟩ = true /\ LeF ⟨H,YA 0 Es,rho,Es.length,true⟩ x y /\ WkH ⟨H,YA 0 Es,rho,Es.length,true⟩ (YA 0 Es)
section
variable {P : Program} {T : YS} {Q : Qs} {wd : Nat}
theorem zA9 (hwd : 0 < wd) (hT : qI P T) (hQ : zBE P Q) (hm : P.follows .mixedOrders = true) {f : FuncId} {fn : Func} {c : Code} (hf : P.funcs[f]? = some fn) (hb : fn.body = some c) (args : List FV) (hn : args.length <= fn.ntmps) {y : FV} {Es : List Ent}
 (h : Zs T Q wd fn.ntmps 0 c (Yc args 0) [] 0 (qN T fn.results.toList λx H _=>FinNs y Es x H)) : zAl P f args y Es:=by
 intro X w vals hrel hX;have hrel' : zAU (λ_=>none) X (wr (λ_=>none) []) w args vals:=by rw [zCZ];exact hrel
 refine (zDV hwd hT hQ hm hf hb hn h (λ_ _ h=>by cases h) (zAo hX) hrel' (λ_ _=>⟨rfl,rfl⟩)).mono λe w' he=>?_;obtain ⟨v,r',x,Hf,nf,rfl,⟨rho,hrho,hfin,hent⟩,st,_,hx,_⟩:=he;obtain ⟨c,hc⟩ : ∃ c : Wc,c = ⟨Hf,YA 0 Es,rho,Es.length,true⟩:=⟨_,rfl⟩;rw [<- hc] at hrho hfin hent;have cH : c.H = Hf:=by rw [hc]
 have cH' : c.H' = YA 0 Es:=by rw [hc]
 have cnx : c.nx = Es.length:=by rw [hc]
 have cfin : c.fin = true:=by rw [hc]
 rw [<- cH'] at hent;have hlive:=hent.live;simp only [zDS,Bool.and_eq_true] at hrho;have hkeys : ∀ k o,Ym c.rho k = some o -> k < c.nx:=λk o h=>by
  obtain ⟨p,hp,rfl⟩:=zCa h;have:=List.all_eq_true.1 hrho.1 p hp;simp only [Bool.and_eq_true] at this;exact Nat.le_of_ble_eq_true this.2
 have hren : ∀ k y,c.ren r' k = some y -> ∃ k0,c.src k = some k0 /\ r' k0 = some y:=λk y h=>by
  unfold Wc.ren at h;split at h
  . rename_i k0 hk0;exact ⟨k0,hk0,h⟩
  . cases h
 have hlt : ∀ k k0,c.src k = some k0 -> k < Es.length:=λk k0 h=>by
  unfold Wc.src at h;cases hl : Ym c.rho k with
  | some o=>rw [<- cnx];exact hkeys k o hl
  | none=>
    rw [hl] at h;simp only at h;cases hb : Nat.blt k c.nx with
    | true=>rw [<- cnx];exact Nat.le_of_ble_eq_true hb
    | false=>rw [hb] at h;cases h
 have hget' : ∀ k,k < Es.length -> ∃ e,zU c.H' k = some e:=λk hk=>by
  rw [cH',zBT,if_pos (Nat.zero_le _),Nat.sub_zero];exact ⟨_,List.getElem?_eq_getElem hk⟩
 have st : St ⟨w,λ_=>False,λ_=>False,X,λ_=>none⟩ r' c.H w':=by rw [cH];exact st
 have hw : ∀ b,rngB X (c.ren r') b -> c.wr ⟨w,λ_=>False,λ_=>False,X,λ_=>none⟩ r' b:=λb hb=>by
  rcases hb with hb | ⟨k,y,hy,hyb⟩
  . exact .inr ⟨cfin,hb⟩
  . obtain ⟨k0,s1,_⟩:=hren k y hy;obtain ⟨e,he⟩:=hget' k (hlt k k0 s1);exact .inl ⟨k,e,y,he,hy,hyb⟩
 refine ⟨v,c.ren r',rfl,⟨⟨st.os,st.tape,st.output,st.size,λb hb=>st.kept b hb id⟩,λk y hy=>?_,λk k' y y' hy hy' hb=>?_,λk e he=>?_,?_⟩⟩
 . obtain ⟨k0,s1,hy⟩:=hren k y hy;obtain ⟨d1,d2,_⟩:=st.dom k0 y hy;exact ⟨hlt k k0 s1,d2.resolve_right id,d1⟩
 . obtain ⟨n0,s1,hx1⟩:=hren k y hy;obtain ⟨m0,s2,hx2⟩:=hren k' y' hy';obtain ⟨e1,l1⟩:=hget' k (hlt k n0 s1);obtain ⟨e2,l2⟩:=hget' k' (hlt k' m0 s2);obtain ⟨f1,g1⟩:=hlive k e1 l1 n0 s1;obtain ⟨f2,g2⟩:=hlive k' e2 l2 m0 s2;have:=st.inj n0 m0 f1 f2 y y' g1 g2 hx1 hx2 hb;subst this;exact zDT hrho.2 k k' e1 e2 n0 l1 l2 s1 s2
 . have he' : zU c.H' k = some e:=by rw [cH',zBT,if_pos (Nat.zero_le _),Nat.sub_zero];exact he
   obtain ⟨_,hwk⟩:=hent.at k e he';cases hs : c.src k with
   | none=>
     rw [hs] at hwk;obtain ⟨g1,g2,g3⟩:=hwk;exact ⟨g3,(λh=>by rw [g2] at h;cases h),.inl ⟨by unfold Wc.ren;rw [hs],g1⟩⟩
   | some k0=>
     rw [hs] at hwk;unfold WkE at hwk;simp only at hwk;split at hwk
     . rename_i e2 hh;have hrk : c.ren r' k = r' k0:=by unfold Wc.ren;rw [hs]
       exact (st.blk k0 e2 hh).map hwk.t hwk.n hwk.sz hwk.v hrk.symm (λ_ _=>rfl) λi hi j hj u hu=>by
        have h1:=hwk.f i hi j hj hlive _ r' w' u st hu;exact CV.rel_w hw _ _ h1
     . exact hwk.elim
 . have hx : x.rel r' X (wr r' c.H) w' v:=by rw [cH];exact hx
   have h1:=hfin hlive _ r' w' v st hx;exact FV.rel_w hw _ _ h1
theorem zC4 (hT : qI P T) {f : FuncId} {fn : Func} {c : Code} (hf : P.funcs[f]? = some fn) (hb : fn.body = some c) (args : List FV) (hn : args.length <= fn.ntmps) {y : FV} {Es : List Ent}
 (h : Sem P fn.ntmps 0 c (Yc args 0) [] 0 (qN T fn.results.toList λx H _=>FinNs y Es x H)) : zAl P f args y Es:=by
 intro X w vals hrel hX;have hrel' : zAU (λ_=>none) X (wr (λ_=>none) []) w args vals:=by rw [zCZ];exact hrel
 refine (zE1 hT hf hb hn h (λ_ _ h=>by cases h) (zAo hX) hrel' (λ_ _=>⟨rfl,rfl⟩)).mono λe w' he=>?_;obtain ⟨v,r',x,Hf,nf,rfl,⟨rho,hrho,hfin,hent⟩,st,_,hx,_⟩:=he;obtain ⟨c,hc⟩ : ∃ c : Wc,c = ⟨Hf,YA 0 Es,rho,Es.length,true⟩:=⟨_,rfl⟩;rw [<- hc] at hrho hfin hent;have cH : c.H = Hf:=by rw [hc]
 have cH' : c.H' = YA 0 Es:=by rw [hc]
 have cnx : c.nx = Es.length:=by rw [hc]
 have cfin : c.fin = true:=by rw [hc]
 rw [<- cH'] at hent;have hlive:=hent.live;simp only [zDS,Bool.and_eq_true] at hrho;have hkeys : ∀ k o,Ym c.rho k = some o -> k < c.nx:=λk o h=>by
  obtain ⟨p,hp,rfl⟩:=zCa h;have:=List.all_eq_true.1 hrho.1 p hp;simp only [Bool.and_eq_true] at this;exact Nat.le_of_ble_eq_true this.2
 have hren : ∀ k y,c.ren r' k = some y -> ∃ k0,c.src k = some k0 /\ r' k0 = some y:=λk y h=>by
  unfold Wc.ren at h;split at h
  . rename_i k0 hk0;exact ⟨k0,hk0,h⟩
  . cases h
 have hlt : ∀ k k0,c.src k = some k0 -> k < Es.length:=λk k0 h=>by
  unfold Wc.src at h;cases hl : Ym c.rho k with
  | some o=>rw [<- cnx];exact hkeys k o hl
  | none=>
    rw [hl] at h;simp only at h;cases hb : Nat.blt k c.nx with
    | true=>rw [<- cnx];exact Nat.le_of_ble_eq_true hb
    | false=>rw [hb] at h;cases h
 have hget' : ∀ k,k < Es.length -> ∃ e,zU c.H' k = some e:=λk hk=>by
  rw [cH',zBT,if_pos (Nat.zero_le _),Nat.sub_zero];exact ⟨_,List.getElem?_eq_getElem hk⟩
 have st : St ⟨w,λ_=>False,λ_=>False,X,λ_=>none⟩ r' c.H w':=by rw [cH];exact st
 have hw : ∀ b,rngB X (c.ren r') b -> c.wr ⟨w,λ_=>False,λ_=>False,X,λ_=>none⟩ r' b:=λb hb=>by
  rcases hb with hb | ⟨k,y,hy,hyb⟩
  . exact .inr ⟨cfin,hb⟩
  . obtain ⟨k0,s1,_⟩:=hren k y hy;obtain ⟨e,he⟩:=hget' k (hlt k k0 s1);exact .inl ⟨k,e,y,he,hy,hyb⟩
 refine ⟨v,c.ren r',rfl,⟨⟨st.os,st.tape,st.output,st.size,λb hb=>st.kept b hb id⟩,λk y hy=>?_,λk k' y y' hy hy' hb=>?_,λk e he=>?_,?_⟩⟩
 . obtain ⟨k0,s1,hy⟩:=hren k y hy;obtain ⟨d1,d2,_⟩:=st.dom k0 y hy;exact ⟨hlt k k0 s1,d2.resolve_right id,d1⟩
 . obtain ⟨n0,s1,hx1⟩:=hren k y hy;obtain ⟨m0,s2,hx2⟩:=hren k' y' hy';obtain ⟨e1,l1⟩:=hget' k (hlt k n0 s1);obtain ⟨e2,l2⟩:=hget' k' (hlt k' m0 s2);obtain ⟨f1,g1⟩:=hlive k e1 l1 n0 s1;obtain ⟨f2,g2⟩:=hlive k' e2 l2 m0 s2;have:=st.inj n0 m0 f1 f2 y y' g1 g2 hx1 hx2 hb;subst this;exact zDT hrho.2 k k' e1 e2 n0 l1 l2 s1 s2
 . have he' : zU c.H' k = some e:=by rw [cH',zBT,if_pos (Nat.zero_le _),Nat.sub_zero];exact he
   obtain ⟨_,hwk⟩:=hent.at k e he';cases hs : c.src k with
   | none=>
     rw [hs] at hwk;obtain ⟨g1,g2,g3⟩:=hwk;exact ⟨g3,(λh=>by rw [g2] at h;cases h),.inl ⟨by unfold Wc.ren;rw [hs],g1⟩⟩
   | some k0=>
     rw [hs] at hwk;unfold WkE at hwk;simp only at hwk;split at hwk
     . rename_i e2 hh;have hrk : c.ren r' k = r' k0:=by unfold Wc.ren;rw [hs]
       exact (st.blk k0 e2 hh).map hwk.t hwk.n hwk.sz hwk.v hrk.symm (λ_ _=>rfl) λi hi j hj u hu=>by
        have h1:=hwk.f i hi j hj hlive _ r' w' u st hu;exact CV.rel_w hw _ _ h1
     . exact hwk.elim
 . have hx : x.rel r' X (wr r' c.H) w' v:=by rw [cH];exact hx
   have h1:=hfin hlive _ r' w' v st hx;exact FV.rel_w hw _ _ h1
end
def Sft (m d : Nat) (x y : CV) : Prop:=∀ (r r2 : QM) (X W X2 W2 : Nat -> Prop) (w : World) (v : Value),(∀ k,k < m -> r2 (d + k) = r k) -> (∀ b,X2 b -> X b \/ W b) -> (∀ b,W2 b -> X b \/ W b) -> x.rel r X W w v -> y.rel r2 X2 W2 w v
theorem zAm {m d k i n : Nat} (h : k < m) : Sft m d (.os k i n) (.os (d + k) i n):=by
 rintro r r2 X W X2 W2 w v hr _ _ ⟨a,cap,rfl,h1,h2⟩;refine ⟨a,cap,rfl,h1,λh0=>?_⟩;obtain ⟨x,hx,h3⟩:=h2 h0;exact ⟨x,⟨by rw [hr k h];exact hx.1,hx.2⟩,h3⟩
theorem zBl {m d : Nat} {k : IntKind} {a : Int} : Sft m d (.int k a) (.int k a):=λ_ _ _ _ _ _ _ _ _ _ _ h=>h
def SftF (m d : Nat) (x y : FV) : Prop:=∀ (r r2 : QM) (X W X2 W2 : Nat -> Prop) (w : World) (v : Value),(∀ k,k < m -> r2 (d + k) = r k) -> (∀ b,X2 b -> X b \/ W b) -> (∀ b,W2 b -> X b \/ W b) -> x.rel r X W w v -> y.rel r2 X2 W2 w v
structure SftN (m d : Nat) (e e' : Ent) : Prop where
 t : e.t = e'.t
 n : e.n = e'.n
 sz : e.sz = e'.sz
 v : e.v = e'.v
 f : ∀ i,i < e.n -> ∀ j,j < e.sz -> Sft m d (e.f i j) (e'.f i j)
theorem zF8 {P : Program} {f : FuncId} (hb : zAJ P f) {args args' : List FV} {H : Hp} {rd : List Nat} {nm wd : Nat} {x y : FV} {Es Ds : List Ent} (hm : Es.length <= wd) (hl : Ds.length = Es.length) (hxy : SftF Es.length nm x y) (hE : ∀ (k : Nat) e e',Es[k]? = some e -> Ds[k]? = some e' -> SftN Es.length nm e e')
 (hbo : ∀ H',(∀ k ∈ rd,zU H k = zU H' k) -> BoL H' rd args args') (h : zAl P f args' x Es) : zCy P f args H nm wd ⟨none,y,YA nm Ds,rd⟩:=by
 refine ⟨hb,λH' hh cx r w vals st hfr _ hrel=>?_⟩;obtain ⟨h1,h2⟩:=hbo H' hh;refine (h (λb=>cx.X b \/ wr r H' b) w vals ⟨hrel.1.trans h1,λi y u hy hu=>?_⟩ (st_xw st)).mono λe w' he=>?_
 . have hi : i < args.length:=by rw [h1];exact (List.getElem?_eq_some_iff.1 hy).1
   exact FV.rel_w (λ_ h=>h.elim) _ _ (h2 i _ y (List.getElem?_eq_getElem hi) hy cx r w u st (hrel.2 i _ u (List.getElem?_eq_getElem hi) hu))
 . obtain ⟨v,r0,rfl,hR⟩:=he;have hbel:=hR.bel;have inn : ∀ k,(nm <= k /\ k < nm + Es.length) -> r k = none /\ zU H' k = none:=λk hk=>hfr k hk.1 (by omega);obtain ⟨r2,er2⟩ : ∃ r2 : QM,r2 = λk=>if nm <= k /\ k < nm + Es.length then r0 (k - nm) else r k:=⟨_,rfl⟩
   have r2i : ∀ k,(nm <= k /\ k < nm + Es.length) -> r2 k = r0 (k - nm):=λk hk=>by rw [er2];exact if_pos hk
   have r2o : ∀ k,¬ (nm <= k /\ k < nm + Es.length) -> r2 k = r k:=λk hk=>by rw [er2];exact if_neg hk
   have hr2 : ∀ k x,r k = some x -> r2 k = some x:=λk x hx=>by
    by_cases hk : nm <= k /\ k < nm + Es.length
    . rw [(inn k hk).1] at hx;cases hx
    . rw [r2o k hk];exact hx
   have hgi : ∀ k,(nm <= k /\ k < nm + Es.length) -> zU (YA nm Ds ++ H') k = Ds[k - nm]?:=λk hk=>by
    have e1 : zU (YA nm Ds ++ H') k = bif ZV (YA nm Ds) k then zU (YA nm Ds) k else zU H' k:=Zy _ _ _ _;have e2 : zU (YA nm Ds) k = Ds[k - nm]?:=by rw [zBT,if_pos hk.1]
    cases hkey : ZV (YA nm Ds) k with
    | true=>rw [e1,hkey,cond_true,e2]
    | false=>
      exfalso;have e3 : zU (YA nm Ds) k = none:=zFY hkey;rw [e2,List.getElem?_eq_getElem (by omega)] at e3;cases e3
   have hgo : ∀ k,¬ (nm <= k /\ k < nm + Es.length) -> zU (YA nm Ds ++ H') k = zU H' k:=λk hk=>by
    have e1 : zU (YA nm Ds ++ H') k = bif ZV (YA nm Ds) k then zU (YA nm Ds) k else zU H' k:=Zy _ _ _ _;cases hkey : ZV (YA nm Ds) k with
    | false=>rw [e1,hkey,cond_false]
    | true=>
      exfalso;obtain ⟨a,b⟩:=effL_key hkey;omega
   have hwr2 : ∀ b,wr r2 (YA nm Ds ++ H') b -> rngB (λb=>cx.X b \/ wr r H' b) r0 b:=by
    rintro b ⟨k,e,x,he,hx,hxb⟩;by_cases hk : nm <= k /\ k < nm + Es.length
    . rw [r2i k hk] at hx;exact .inr ⟨_,x,hx,hxb⟩
    . rw [r2o k hk] at hx;rw [hgo k hk] at he;exact .inl (.inr ⟨k,e,x,he,hx,hxb⟩)
   have hsh : ∀ k,k < Es.length -> r2 (nm + k) = r0 k:=λk hk=>by rw [r2i (nm + k) ⟨by omega,by omega⟩,Nat.add_sub_cancel_left]
   obtain ⟨g1,g2⟩:=st.below hbel;have hdomo : ∀ k x,r0 k = some x -> x.b < w'.heap.size /\ cx.w0.heap.size <= x.b /\ ¬ cx.X x.b:=λk x hx=>by
    obtain ⟨_,a1,a2⟩:=hR.dom k x hx;refine ⟨a2,Nat.le_trans st.size a1,λhX=>?_⟩;have:=Nat.lt_of_lt_of_le (st.xlt.lt _ hX) st.size;omega
   have hE2 : Ext r (wr r H') w r2 (wr r2 (YA nm Ds ++ H')) w':=by
    refine ⟨hr2,hbel.size,λb hb _=>hbel.block b hb,λb hb hw=>?_⟩;rcases hwr2 b hw with (hX | hw) | ⟨k,x,hx,hxb⟩
    . obtain ⟨k,e,x,he,hx,hxb⟩:=hw;by_cases hk : nm <= k /\ k < nm + Es.length
      . rw [r2i k hk] at hx;obtain ⟨_,a1,a2⟩:=hR.dom _ x hx;omega
      . rw [r2o k hk] at hx;rw [hgo k hk] at he;exact ⟨k,e,x,he,hx,hxb⟩
    . exact hw
    . obtain ⟨_,a1,a2⟩:=hR.dom k x hx;omega
   refine ⟨v,rfl,r2,hE2,⟨g2.os,g2.tape,g2.output,g2.size,g2.kept,g2.xlt,λk x hx=>?_,λk e x he hx=>?_,λn m e1 e2 x y hn hm hx hy hxy=>?_,λk b hk=>hr2 k b (g2.pin k b hk),λk e he=>?_⟩,λk hk=>r2o k (by omega),λk e he=>?_,?_⟩
   . by_cases hk : nm <= k /\ k < nm + Es.length
     . rw [r2i k hk] at hx;obtain ⟨a1,a2,a3⟩:=hdomo _ x hx;exact ⟨a1,.inl a2,a3⟩
     . rw [r2o k hk] at hx;exact g2.dom k x hx
   . by_cases hk : nm <= k /\ k < nm + Es.length
     . rw [r2i k hk] at hx;exact .inl (hdomo _ x hx).2.1
     . rw [r2o k hk] at hx;have he' : zU (YA nm Ds ++ H') k = some e:=he;rw [hgo k hk] at he';exact g2.ow k e x he' hx
   . have lt : ∀ k x,¬ (nm <= k /\ k < nm + Es.length) -> r2 k = some x -> x.b < w.heap.size:=λk x hk hx=>by rw [r2o k hk] at hx;exact (st.dom k x hx).1
     have ge : ∀ k x,(nm <= k /\ k < nm + Es.length) -> r2 k = some x -> w.heap.size <= x.b:=λk x hk hx=>by rw [r2i k hk] at hx;exact (hR.dom _ x hx).2.1
     by_cases h : nm <= n /\ n < nm + Es.length
     . by_cases h' : nm <= m /\ m < nm + Es.length
       . rw [r2i n h] at hx;rw [r2i m h'] at hy;have:=hR.inj _ _ x y hx hy hxy;omega
       . have:=lt m y h' hy;have:=ge n x h hx;omega
     . by_cases h' : nm <= m /\ m < nm + Es.length
       . have:=lt n x h hx;have:=ge m y h' hy;omega
       . have hn' : zU (YA nm Ds ++ H') n = some e1:=hn;have hm' : zU (YA nm Ds ++ H') m = some e2:=hm;rw [hgo n h] at hn';rw [hgo m h'] at hm';rw [r2o n h] at hx;rw [r2o m h'] at hy;exact st.inj n m e1 e2 x y hn' hm' hx hy hxy
   . have he' : zU (YA nm Ds ++ H') k = some e:=he;by_cases hk : nm <= k /\ k < nm + Es.length
     . rw [hgi k hk] at he';obtain ⟨e0,he0⟩ : ∃ e0,Es[k - nm]? = some e0:=⟨_,List.getElem?_eq_getElem (by omega)⟩;have hs:=hE (k - nm) e0 e he0 he';rw [r2i k hk];exact (hR.ent (k - nm) e0 he0).map hs.t hs.n hs.sz hs.v rfl (λ_ _=>rfl) λi hi j hj u hu=>hs.f i hi j hj r0 r2 _ _ _ _ _ _ hsh (λb hb=>.inl (.inl hb)) (λb hb=>.inr (hwr2 b hb)) hu
     . rw [hgo k hk] at he';rw [r2o k hk];have hold:=st.old he' rfl (w':=w') λx hx=>hbel.block _ (st.dom k x hx).1;exact hold.ext hE2
   . have he' : zU (YA nm Ds ++ H') k = some e:=he;by_cases hk : nm <= k /\ k < nm + Es.length
     . exact .inl ⟨.inl (by omega),by omega⟩
     . rw [hgo k hk] at he';exact .inr ⟨e,he'⟩
   . exact hxy r0 r2 _ _ _ _ _ _ hsh (λb hb=>.inl (.inl hb)) (λb hb=>.inr (hwr2 b hb)) hR.val
def zCQ {α R : Type} (A : AC α) (p : α -> Prop) (F : α -> R) (m : Nat) (y : Nat -> R -> FV) (Ds : Nat -> R -> List Ent) : Zm:=λargs H nm wd=>
 match A.dec H args with
 | some (a,q,rd)=>bif Nat.ble m wd then some λK=>pAnd q (p a /\ ∀ s,s = F a -> K (y nm s) (YA nm (Ds nm s)) rd) else none
 | none=>none
theorem zAx {α R : Type} {A : AC α} {p : α -> Prop} {F : α -> R} {m : Nat} {y : Nat -> R -> FV} {Ds : Nat -> R -> List Ent} {P : Program} {f : FuncId} (hb : zAJ P f) (hl : ∀ nm s,(Ds nm s).length = m) (hxy : ∀ nm s,SftF m nm (y 0 s) (y nm s)) (hE : ∀ nm a,p a -> ∀ (k : Nat) e e',(Ds 0 (F a))[k]? = some e -> (Ds nm (F a))[k]? = some e' -> SftN m nm e e') (h : ∀ a,p a -> zAl P f (A.enc a) (y 0 (F a)) (Ds 0 (F a))) : EntOk P f (zCQ A p F m y Ds):=by
 refine ⟨λargs H nm wd q hwd hq K hK=>?_,λargs H nm wd q hq K K' hKK hK=>?_⟩
 . unfold zCQ at hq;split at hq
   . rename_i a pr rd hd;obtain ⟨hm,hq⟩:=qZ hq;subst hq;obtain ⟨h1,h2,h3⟩:=Qw.1 hK;refine ⟨_,_,_,zF8 hb (by rw [hl];exact Nat.le_of_ble_eq_true hm) (by rw [hl,hl]) ?_ ?_ (λH' hh=>A.sound H H' args a pr rd hd h1 hh) (h a h2),h3 _ rfl⟩
     . rw [hl];exact hxy nm _
     . rw [hl];exact hE nm a h2
   . cases hq
 . unfold zCQ at hq;split at hq
   . obtain ⟨_,hq⟩:=qZ hq;subst hq;obtain ⟨h1,h2,h3⟩:=Qw.1 hK;exact Qw.2 ⟨h1,h2,λs hs=>hKK _ _ _ (h3 s hs)⟩
   . cases hq
theorem sftF_c {m d : Nat} {x y : CV} (h : Sft m d x y) : SftF m d (zO x) (zO y):=λr r2 X W X2 W2 w v hr hX hW hx=>h r r2 X W X2 W2 w v hr hX hW hx
theorem zA0 {m d : Nat} {x : CV} (h : ShC x) : Sft m d x x:=λ_ _ _ _ _ _ _ _ _ hX hW hx=>h.bo hX hW hx
def zBn (d g : Nat) (L : List Sed) (i j : Nat) : CV:=bif Nat.beq j 2 && Nat.beq i g then .os d 0 (L.getD i default).held.length else zo ZF L i j
theorem zCV {d g : Nat} {L : List Sed} : zBn d g L g 2 = .os d 0 (L.getD g default).held.length:=by unfold zBn;simp
theorem Yb {d g : Nat} {L : List Sed} {i j : Nat} (h : i ≠ g \/ j ≠ 2) : zBn d g L i j = zo ZF L i j:=by
 unfold zBn;have : (Nat.beq j 2 && Nat.beq i g) = false:=by
  rcases h with h | h
  . rw [zA2 h,Bool.and_false]
  . rw [zA2 h];rfl
 rw [this];rfl
theorem zDE {c : Wc} {d d' g : Nat} {L : List Sed} {i j : Nat} (hj : j < 3) (h : i = g -> c.src d' = some d) : ZX c (zBn d g L i j) (zBn d' g L i j):=by
 by_cases hi : i = g /\ j = 2
 . obtain ⟨rfl,rfl⟩:=hi;rw [zCV,zCV];exact zD (h rfl) rfl
 . have h' : i ≠ g \/ j ≠ 2:=by omega
   rw [Yb h',Yb h'];exact (ZF.sh _ j hj).le
def entG (d g : Nat) (n : Nat) (L : List Sed) : Ent:=⟨78,n,3,false,zBn d g L⟩
def hldG (g i : Nat) (L : List Sed) : List Hel:=if g < i then (L.getD g default).held else []
theorem hldG_ne {g i : Nat} {L : List Sed} (h : i ≠ g) : hldG g (i + 1) L = hldG g i L:=by
 unfold hldG;by_cases h1 : g < i
 . rw [if_pos h1,if_pos (by omega)]
 . rw [if_neg h1,if_neg (by omega)]
theorem hldG_eq {g : Nat} {L : List Sed} : hldG g (g + 1) L = (L.getD g default).held:=if_pos (Nat.lt_succ_self g)
structure ClI (L : List Sed) : Prop where
 n : L.length <= 1000
 k : ∀ x ∈ L,KpI x.held
def LMl : CsL:=(56,some keepE) :: []
theorem LMl_ok : qU Try.prog LMl:=⟨zDO,trivial⟩
theorem Qq (L : List Hel) : L.filter (Zj none) = L:=List.filter_eq_self.2 λ_ _=>rfl
theorem clone_ok (g : Nat) (L : List Sed) (hL : ClI L) : zAl Try.prog 34 [(Yl ZF qA).enc L] (zO (.os 0 0 L.length)) [entG 1 g L.length L,ZL zn 85 (L.getD g default).held]:=by
 have hn:=hL.n;refine zA9 (wd:=1) (by decide) zM (zb LMl_ok) zN Try.func34 rfl _ (by show 1 <= _;decide) ?_;have w0 : IntKind.i64.wrap ((L.length : Int) + 1) = ((L.length + 1 : Nat) : Int):=(IntWalk.i64_in _ (by omega)).trans (by omega);repeat' (first | (simp only [w0]) | (apply And.intro<;>intro hc<;>(first | exact Bool.noConfusion hc | (exfalso;first | exact absurd rfl hc | omega) | (simp only [zg] at hc<;>first | exact absurd rfl hc | (exfalso;first | exact absurd rfl hc | omega) | skip) | skip)) | (refine And.intro ze ?_) | (apply And.intro) | (intro s hs;skip) | (refine Exists.intro _ (And.intro ⟨rfl,rfl,rfl⟩ ?_)))
 conv=>whnf
 refine zQ (zT LMl_ok) (λs : {i : Nat // i <= L.length}=>(⟨[(3,zO (.os 50 0 s.1)),(10,zO (qY ZF L)),(11,zO (.int .i64 (L.length : Int))),(12,zO (.int .i64 (s.1 : Int)))],[(50,some (entG 51 g s.1 L)),(51,some (ZL zn 85 (hldG g s.1 L)))],52⟩ : Hd)) (λs=>L.length - s.1) (λ_=>rfl) ?_ ⟨0,Nat.zero_le _⟩ [(50,some 4),(51,none)] ⟨rfl,⟨zE (zD rfl rfl),zE (zm (zc L)),zA rfl,zA rfl,trivial⟩,⟨rfl,⟨rfl,rfl,rfl,rfl,λi hi=>absurd hi (Nat.not_lt_zero i)⟩⟩,⟨rfl,rfl,rfl,Nat.le_of_ble_eq_true rfl⟩,trivial⟩;rintro ⟨i,hi⟩;dsimp only at hi ⊢;unfold qY;by_cases hil : i < L.length
 . have w3 : IntKind.i64.wrap ((i : Int) + 1) = ((i + 1 : Nat) : Int):=(IntWalk.i64_in _ (by omega)).trans (by omega);have hk:=hL.k _ (QX hil);obtain ⟨A,eA⟩ : ∃ A,hldG g i L = A:=⟨_,rfl⟩;rw [eA];repeat' (first | (apply And.intro<;>intro hc<;>(first | exact Bool.noConfusion hc | (exfalso;first | exact absurd rfl hc | omega) | (simp only [zg] at hc<;>first | exact absurd rfl hc | (exfalso;first | exact absurd rfl hc | omega) | skip) | skip)) | (refine And.intro ze ?_) | (apply And.intro) | (intro s hs;(have q : s = (L.getD ((i : Int).toNat) default).held:=hs.trans (by show (Yt zn _ _).filter (Zj none) = _;rw [Qq];exact ZE zR _);clear hs;subst q)) | (refine Exists.intro _ (And.intro ⟨rfl,rfl,rfl⟩ ?_)))
   . exact λ_ _=>⟨rfl,zl _⟩
   . exact Eq.mpr (congrArg KpI (ZE zR _)) hk
   . by_cases hg : i = g
     . subst hg;refine ⟨⟨i + 1,hil⟩,[(50,some 65),(51,some 59)],by dsimp only;omega,rfl,⟨zE (zD rfl rfl),zE (zm (zc L)),zA rfl,zA w3,trivial⟩,?_⟩;refine ⟨⟨rfl,⟨rfl,rfl,rfl,rfl,λp hp j hj=>?_⟩⟩,⟨rfl,?_⟩,trivial⟩
       . have hp' : p < i + 1:=hp;have hj' : j < 3:=hj;show ZX _ (Zi (Nat.blt p i) (zBn 51 i L p j) _) (zBn 51 i L p j);by_cases hpi : p < i
         . exact ZU (Nat.ble_eq_true_of_le hpi) (zDE hj' (λh=>by omega))
         . obtain rfl : p = i:=by omega
           refine Zd (Zn _) ?_;rw [Nat.sub_self];rcases j with _ | _ | _ | j
           . rw [Yb (.inr (by decide))];exact zC rfl
           . rw [Yb (.inr (by decide))];exact zC rfl
           . rw [zCV];exact zD rfl rfl
           . omega
       . dsimp only;rw [hldG_eq];exact zB
     . have eh : hldG g (i + 1) L = A:=by rw [<- eA];exact hldG_ne hg
       refine ⟨⟨i + 1,hil⟩,[(50,some 65)],by dsimp only;omega,rfl,⟨zE (zD rfl rfl),zE (zm (zc L)),zA rfl,zA w3,trivial⟩,?_⟩;dsimp only;rw [eh];refine ⟨⟨rfl,⟨rfl,rfl,rfl,rfl,λp hp j hj=>?_⟩⟩,⟨rfl,zB⟩,trivial⟩;have hp' : p < i + 1:=hp;have hj' : j < 3:=hj;show ZX _ (Zi (Nat.blt p i) (zBn 51 g L p j) _) (zBn 51 g L p j);by_cases hpi : p < i
       . exact ZU (Nat.ble_eq_true_of_le hpi) (zDE hj' (λ_=>rfl))
       . obtain rfl : p = i:=by omega
         refine Zd (Zn _) ?_;rw [Nat.sub_self,Yb (.inl hg)];rcases j with _ | _ | _ | j
         . exact zC rfl
         . exact zC rfl
         . exact zy rfl rfl rfl rfl (by rw [Nat.zero_add];exact Nat.le_refl _) λq hq j hj=>by
            have e : 0 + q = q:=Nat.zero_add q;rw [e];exact (zn.sh _ j hj).le
         . omega
 . have hi2 : i = L.length:=by omega
   subst hi2;repeat' (first | (apply And.intro<;>intro hc<;>(first | exact Bool.noConfusion hc | (exfalso;first | exact absurd rfl hc | omega) | (simp only [zg] at hc<;>first | exact absurd rfl hc | (exfalso;first | exact absurd rfl hc | omega) | skip) | skip)) | (refine And.intro ze ?_) | (apply And.intro) | (intro s hs;skip) | (refine Exists.intro _ (And.intro ⟨rfl,rfl,rfl⟩ ?_)))
   conv=>whnf
   refine ⟨⟨[(0,some 50),(1,some 51)],rfl,zE (zD rfl rfl),⟨rfl,⟨rfl,rfl,rfl,rfl,λp hp j hj=>zDE hj λ_=>rfl⟩⟩,⟨rfl,?_⟩,trivial⟩⟩;have : hldG g L.length L = (L.getD g default).held:=by
    unfold hldG;by_cases h : g < L.length
    . rw [if_pos h]
    . rw [if_neg h,List.getD_eq_getElem?_getD,List.getElem?_eq_none (by omega)];rfl
   rw [this];exact zB
abbrev cloneE (g : Nat) : Zm:=zCQ (AC.cons (Yl ZF qA) AC.nil) (λa=>ClI a.1) (λa=>a.1) 2 (λnm L=>zO (.os nm 0 L.length)) (λnm L=>[entG (nm + 1) g L.length L,ZL zn 85 (L.getD g default).held])
theorem sft_rowG {nm g : Nat} {L : List Sed} {i j : Nat} (hj : j < 3) : Sft 2 nm (zBn (0 + 1) g L i j) (zBn (nm + 1) g L i j):=by
 by_cases hi : i = g /\ j = 2
 . obtain ⟨rfl,rfl⟩:=hi;rw [zCV,zCV];exact zAm (by decide)
 . have h' : i ≠ g \/ j ≠ 2:=by omega
   rw [Yb h',Yb h'];exact zA0 (ZF.sh _ j hj)
theorem cloneE_ok (g : Nat) : EntOk Try.prog 34 (cloneE g):=zAx ⟨_,Try.func34,rfl,by kernel_rfl⟩ (λ_ _=>rfl) (λnm s=>sftF_c (by have h : Sft 2 nm (.os 0 0 s.length) (.os (nm + 0) 0 s.length):=zAm (by decide);exact h)) (λnm a _ k e e' h h'=>by
 rcases k with _ | _ | k
 . injection h with h;injection h' with h';subst h h';exact ⟨rfl,rfl,rfl,rfl,λi hi j hj=>sft_rowG hj⟩
 . injection h with h;injection h' with h';subst h h';exact ⟨rfl,rfl,rfl,rfl,λi hi j hj=>zA0 (zn.sh _ j hj)⟩
 . cases h) λa h=>clone_ok g a.1 h
section
variable {P : Program} {T : YS}
theorem zDt (hT : qI P T) {f : FuncId} {fn : Func} {c : Code} (hf : P.funcs[f]? = some fn) (hb : fn.body = some c) (args : List FV) (hn : args.length <= fn.ntmps) {kd : Option Nat} {rest : Option (List EV)} {e' : Ent}
 (hnf : ∀ i,i < e'.n -> ∀ j,j < e'.sz -> NF (e'.f i j)) (h : Sem P fn.ntmps 0 c (Yc args 0) [] 0 (qN T fn.results.toList λx H _=>FinN kd rest e' x H)) : zBu P f args kd rest e':=by
 intro X w vals hrel hX;have hrel' : zAU (λ_=>none) X (wr (λ_=>none) []) w args vals:=by rw [zCZ];exact hrel
 refine (zE1 hT hf hb hn h (λ_ _ h=>by cases h) (zAo hX) hrel' (λ_ _=>⟨rfl,rfl⟩)).mono λe w' he=>?_;obtain ⟨v,r',x,Hf,nf,rfl,⟨rho,hfin,hent⟩,st,_,hx,_⟩:=he;have hsrc : ∀ k,Wc.src ⟨Hf,[(0,some e')],[(0,rho)],1,true⟩ k = if k = 0 then rho else none:=λk=>by
  unfold Wc.src;simp only [Ym];by_cases hk : k = 0
  . subst hk;simp
  . have h1 : Nat.beq k 0 = false:=by
     cases hb : Nat.beq k 0 with
     | false=>rfl
     | true=>exact absurd (Nat.eq_of_beq_eq_true hb) hk
    have h2 : Nat.blt k 1 = false:=by
     cases hb : Nat.blt k 1 with
     | false=>rfl
     | true=>have:=Nat.le_of_ble_eq_true hb;omega
    simp [h1,h2,hk]
 have hren : Wc.ren ⟨Hf,[(0,some e')],[(0,rho)],1,true⟩ r' = at0 (rho.bind r'):=by
  funext k
  unfold Wc.ren at0;rw [hsrc];by_cases hk : k = 0
  . rw [if_pos hk,if_pos hk];cases rho<;>rfl
  . rw [if_neg hk,if_neg hk]
 have hlive : Wc.Live ⟨Hf,[(0,some e')],[(0,rho)],1,true⟩:=λk e1 he1 k0 hk0=>by
  rw [hsrc] at hk0;split at hk0
  . subst hk0;unfold WkE at hent;simp only at hent;split at hent
    . rename_i e2 hh;exact ⟨e2,hh⟩
    . exact hent.elim
  . cases hk0
 have hwr : ∀ b,orB X (rho.bind r') b -> Wc.wr ⟨Hf,[(0,some e')],[(0,rho)],1,true⟩ ⟨w,λ_=>False,λ_=>False,X,λ_=>none⟩ r' b:=λb hb=>by
  rcases hb with hb | ⟨y,hy,hyb⟩
  . exact .inr ⟨rfl,hb⟩
  . refine .inl ⟨0,e',y,zh _ _ _ _,?_,hyb⟩;rw [hren];show (if 0 = 0 then _ else _) = _;rw [if_pos rfl];exact hy
 refine ⟨v,rho.bind r',rfl,⟨st.os,st.tape,st.output,st.size,λb hb=>st.kept b hb id⟩,λy hy=>?_,?_,?_⟩
 . cases rho with
   | none=>cases hy
   | some j=>
     have hy' : r' j = some y:=hy;obtain ⟨d1,d2,_⟩:=st.dom j y hy';exact ⟨d2.resolve_right id,d1⟩
 . cases rho with
   | none=>
     obtain ⟨g1,g2,g3⟩:=hent;exact ⟨g3,(λh=>by rw [g2] at h;cases h),.inl ⟨rfl,g1⟩⟩
   | some j=>
     unfold WkE at hent;simp only at hent;split at hent
     . rename_i e2 hh;exact (st.blk j e2 hh).map hent.t hent.n hent.sz hent.v rfl (λ_ _=>rfl) λi hi j' hj u hu=>by
        have h1:=hent.f i hi j' hj hlive _ r' w' u st hu;exact CV.rel_w hwr _ _ (hnf i (by rw [<- hent.n];exact hi) j' (by rw [<- hent.sz];exact hj) _ _ _ _ _ _ h1)
     . exact hent.elim
 . have h1:=hfin hlive _ r' w' v st hx;rw [hren] at h1;exact FV.rel_w hwr _ _ h1
end
def normK : Hp -> List Nat -> Hp -> (Hp -> Prop) -> Prop
 | [],_,acc,k=>k acc
 | (t,v) :: l,seen,acc,k=>bif zB6 seen t then normK l seen acc k else normK l (t :: seen) ((t,v) :: acc) k
def zCR (H : Hp) : Hp:=H.map λp=>(p.1,none)
theorem zFa {l : List Nat} {t : Nat} : zB6 l t = true ↔ t ∈ l:=by
 constructor
 . intro h;obtain ⟨x,hx,hb⟩:=List.any_eq_true.1 h;rw [Nat.eq_of_beq_eq_true hb];exact hx
 . exact Yd
def zAf : Hp -> List Nat -> Hp -> Hp
 | [],_,acc=>acc
 | (t,v) :: l,seen,acc=>bif zB6 seen t then zAf l seen acc else zAf l (t :: seen) ((t,v) :: acc)
theorem normK_L : ∀ (l : Hp) (seen : List Nat) (acc : Hp) (k : Hp -> Prop),normK l seen acc k = k (zAf l seen acc):=by
 intro l;induction l with
 | nil=>intro seen acc k;rfl
 | cons p l ih=>
   intro seen acc k;obtain ⟨t0,v⟩:=p;unfold normK zAf;cases zB6 seen t0 with
   | true=>exact ih _ _ _
   | false=>exact ih _ _ _
theorem normL_eq : ∀ (l : Hp) (seen : List Nat) (acc : Hp),(∀ t,t ∈ seen ↔ ZV acc t = true) ->
 (∀ t,ZV (zAf l seen acc) t = (ZV acc t || ZV l t)) /\ ∀ t,qx none (zAf l seen acc) t = qx none (acc ++ l) t:=by
 intro l;induction l with
 | nil=>intro seen acc _;exact ⟨λt=>by simp [ZV,zAf],λt=>by simp [zAf]⟩
 | cons p l ih=>
   intro seen acc hs;obtain ⟨t0,v⟩:=p;cases hb : zB6 seen t0 with
   | true=>
     obtain ⟨h2,h3⟩:=ih seen acc hs;have hk : ZV acc t0 = true:=(hs t0).1 (zFa.1 hb);have hL : zAf ((t0,v) :: l) seen acc = zAf l seen acc:=by show (bif zB6 seen t0 then _ else _) = _;rw [hb];rfl
     rw [hL];refine ⟨λt=>?_,λt=>?_⟩
     . rw [h2 t,QZ];by_cases ht : t0 = t
       . subst ht;rw [hk];simp
       . have : Nat.beq t0 t = false:=by
          cases h : Nat.beq t0 t with
          | false=>rfl
          | true=>exact absurd (Nat.eq_of_beq_eq_true h) ht
         rw [this];simp
     . rw [h3 t,Zy,Zy];cases hkt : ZV acc t with
       | true=>rfl
       | false=>
         have ht : t ≠ t0:=λh=>by subst h;rw [hk] at hkt;cases hkt
         rw [cond_false,cond_false];exact (zY _ _ _ ht).symm
   | false=>
     have hk : ZV acc t0 = false:=by
      cases h : ZV acc t0 with
      | false=>rfl
      | true=>have:=zFa.2 ((hs t0).2 h);rw [hb] at this;cases this
     have hL : zAf ((t0,v) :: l) seen acc = zAf l (t0 :: seen) ((t0,v) :: acc):=by show (bif zB6 seen t0 then _ else _) = _;rw [hb];rfl
     rw [hL];obtain ⟨h2,h3⟩:=ih (t0 :: seen) ((t0,v) :: acc) (λt=>by
      rw [QZ,List.mem_cons,hs t,Bool.or_eq_true];constructor
      . rintro (rfl | h)
        . exact .inl (by simp)
        . exact .inr h
      . rintro (h | h)
        . exact .inl (Nat.eq_of_beq_eq_true h).symm
        . exact .inr h)
     refine ⟨λt=>?_,λt=>?_⟩
     . rw [h2 t,QZ,QZ];cases Nat.beq t0 t<;>cases ZV acc t<;>rfl
     . rw [h3 t];show qx none (((t0,v) :: acc) ++ l) t = qx none (acc ++ (t0,v) :: l) t;rw [Zy,Zy,QZ];by_cases ht : t = t0
       . subst ht;rw [hk,show Nat.beq t t = true by simp,Bool.true_or,cond_true,cond_false,zh,zh]
       . have e1 : Nat.beq t0 t = false:=by
          cases h : Nat.beq t0 t with
          | false=>rfl
          | true=>exact absurd (Nat.eq_of_beq_eq_true h).symm ht
         rw [e1,Bool.false_or,zY _ _ _ ht,zY _ _ _ ht]
def inEnd (H Hf : Hp) (nf top : Nat) (k : Hp -> Prop) : Prop:=Nat.ble nf top = true /\ normK (Hf ++ zCR H) [] [] k
theorem inEnd_eq {H Hf : Hp} {nf top : Nat} {k : Hp -> Prop} (h : inEnd H Hf nf top k) : nf <= top /\ ∃ L,k L /\ ∀ t,zU (L ++ H) t = zU Hf t:=by
 refine ⟨Nat.le_of_ble_eq_true h.1,?_⟩;obtain ⟨h2,h3⟩:=normL_eq (Hf ++ zCR H) [] [] (λt=>by simp [ZV]);refine ⟨zAf (Hf ++ zCR H) [] [],by have:=h.2;rw [normK_L] at this;exact this,λt=>?_⟩;have hkill : ∀ (H : Hp) t,ZV (zCR H) t = ZV H t:=λH t=>by
  unfold ZV zCR;rw [List.any_map];rfl
 have hnone : ∀ (H : Hp) t,qx none (zCR H) t = none:=by
  intro H;induction H with
  | nil=>intro t;rfl
  | cons p H ih=>
    intro t;show (bif Nat.beq t p.1 then none else qx none (zCR H) t) = none;cases Nat.beq t p.1 with
    | true=>rfl
    | false=>exact ih t
 show qx none (zAf (Hf ++ zCR H) [] [] ++ H) t = qx none Hf t;rw [Zy,h2 t,h3 t];have e0 : ZV ([] : Hp) t = false:=rfl;have e1 : ZV (Hf ++ zCR H) t = (ZV Hf t || ZV H t):=by
  unfold ZV;rw [List.any_append];exact congrArg (_ || ·) (hkill H t)
 rw [e0,e1,Bool.false_or,List.nil_append,Zy];cases h4 : ZV Hf t with
 | true=>rfl
 | false=>
   have look_no : ∀ (H : Hp),ZV H t = false -> qx none H t = none:=by
    intro H;induction H with
    | nil=>intro _;rfl
    | cons p H ih=>
      obtain ⟨k,v⟩:=p;intro h;rw [QZ] at h;simp only [Bool.or_eq_false_iff] at h;have : Nat.beq t k = false:=by rw [zD8];exact h.1
      show (bif Nat.beq t k then v else qx none H t) = none;rw [this];exact ih h.2
   rw [cond_false,Bool.false_or,hnone,look_no Hf h4];cases h5 : ZV H t with
   | true=>rfl
   | false=>rw [cond_false,look_no H h5]
def inlE (T : YS) (Q : Qs) (wi nt : Nat) (rv : List ResultVar) (c : Code) : Zm:=λargs H nm wd=>some λK=>
 Nat.ble args.length nt = true /\ Zs T Q wi nt nm c (Yc args 0) H nm (qN T rv λx Hf nf=>inEnd H Hf nf (nm + wd) λe=>K x e [zBo])
theorem zEQ {T : YS} {rv : List ResultVar} {p p' : FV -> Hp -> Nat -> Prop} (h : ∀ x H n,p x H n -> p' x H n) : ∀ e fr H nx,qN T rv p e fr H nx -> qN T rv p' e fr H nx:=by
 intro e fr H nx hp;cases e with
 | ret=>
   simp only [qN] at hp ⊢;split at hp
   . exact h _ _ _ hp
   . exact hp.elim
 | normal=>
   simp only [qN] at hp ⊢;split at hp
   . exact h _ _ _ hp
   . exact hp.elim
 | exit=>exact hp.elim
 | goto=>exact hp.elim
 | panic=>exact hp.elim
 | outgrown=>exact hp.elim
theorem gl_in {cx : Cx} {r : QM} {H : Hp} {w : World} (st : St cx r H w) : zCl (λb=>cx.X b \/ (∃ k x,r k = some x /\ x.b = b) \/ wr r H b) w:=λp hp=>by
 obtain ⟨h1,h2,h3⟩:=(st_xw st).2 p hp;refine ⟨h1,?_,h3⟩;rintro (h | ⟨k,x,hk,hb⟩ | h)
 . exact h2 (.inl h)
 . obtain ⟨g1,g2,_⟩:=st.xlt.gl p hp;rcases (st.dom k x hk).2.1 with hd | hd
   . omega
   . exact g2 (.inr (.inl (by rw [<- hb];exact hd)))
 . exact h2 (.inr h)
theorem inlE_ok {P : Program} {T : YS} {Q : Qs} {wi : Nat} (hwi : 0 < wi) (hT : qI P T) (hQ : zBE P Q) (hM : zCe Q) (hm : P.follows .mixedOrders = true) {f : FuncId} {fn : Func} {c : Code} (hf : P.funcs[f]? = some fn) (hb : fn.body = some c) (hnm : (fn.name == "runtime.NumGoroutine") = false) : EntOk P f (inlE T Q wi fn.ntmps fn.results.toList c):=by
 refine ⟨λargs H nm wd q hwd hq K hK=>?_,λargs H nm wd q hq K K' hKK hK=>?_⟩
 . injection hq with hq;subst hq;obtain ⟨hn,hK⟩:=hK;have hn:=Nat.le_of_ble_eq_true hn;obtain ⟨⟨x,Hf,nf⟩,hend,hex⟩:=zEO (α:=FV × Hp × Nat) (post:=λa x H n=>x = a.1 /\ H = a.2.1 /\ n = a.2.2) (S:=λa=>inEnd H a.2.1 a.2.2 (nm + wd) λe=>K a.1 e [zBo]) hwi hQ
    (zBj hM c _ _ (zEQ λx Hf nf h=>⟨(x,Hf,nf),h,rfl,rfl,rfl⟩) _ _ _ hK)
   obtain ⟨hle,L,hKL,hL⟩:=inEnd_eq hend;refine ⟨x,L,[zBo],⟨⟨fn,hf,by rw [hb];rfl,hnm⟩,λH' hh cx r w vals st hfr hw hrel=>?_⟩,hKL⟩;obtain ⟨w1,w2⟩:=hw (List.mem_singleton.2 rfl);have w1' : ∀ k,zU H' k = zU H k:=λk=>(w1 k).symm;have st:=st.congr w1';rw [zBQ (r:=r) w1'] at hrel;have w3 : ∀ k,nm <= k -> r k = none /\ zU H k = none:=λk hk=>⟨(w2 k hk).1,by rw [w1];exact (w2 k hk).2⟩;have hG:=gl_in st;refine (zDV (np:=nm) (cx:=⟨w,λb=>∃ k x,r k = some x /\ x.b = b,wr r H,cx.X,λk=>if k < nm then r k else none⟩) hwi hT (QR_ok P) hm hf hb hn hex (λk b hk=>?_)
    ⟨rfl,rfl,rfl,Nat.le_refl _,λ_ _ _=>rfl,⟨λb hb=>Nat.lt_of_lt_of_le (st.xlt.lt b hb) st.size,hG⟩,λk x hk=>⟨(st.dom k x hk).1,.inr ⟨k,x,hk,rfl⟩,(st.dom k x hk).2.2⟩,λk e x he hx=>.inr ⟨k,e,x,he,hx,rfl⟩,st.inj,λk b hk=>?_,st.blk⟩ hrel w3).mono λe w' he=>?_
   . by_cases h : k < nm
     . exact h
     . have hk' : (if k < nm then r k else none) = some b:=hk;rw [if_neg h] at hk';cases hk'
   . by_cases h : k < nm
     . have hk' : (if k < nm then r k else none) = some b:=hk;rw [if_pos h] at hk';exact hk'
     . have hk' : (if k < nm then r k else none) = some b:=hk;rw [if_neg h] at hk';cases hk'
   . obtain ⟨v,r',x',Hf',nf',rfl,⟨e1,e2,e3⟩,st',hn',hx,hlow⟩:=he;dsimp only at e1 e2 e3;rw [e2] at st' hx;rw [e1] at hx;rw [e2,e3] at hn';clear e1 e2 e3;have hG : ∀ t,zU (L ++ H') t = zU Hf t:=λt=>by
      rw [<- hL t];show qx none (L ++ H') t = qx none (L ++ H) t;rw [Zy,Zy];cases ZV L t with
      | true=>rfl
      | false=>exact w1' t
     have hle2 : ∀ k,nm + wd <= k -> r' k = none /\ zU Hf k = none:=λk hk=>hn' k (Nat.le_trans hle hk);have stF : St cx r' Hf w':=by
      refine ⟨st'.os.trans st.os,st'.tape.trans st.tape,st'.output.trans st.output,Nat.le_trans st.size st'.size,λb hb hE=>?_,st.xlt,λk y hk=>?_,λk e y he hy=>?_,st'.inj,λk b hk=>?_,st'.blk⟩
      . rw [<- st.kept b hb hE];refine st'.kept b (Nat.lt_of_lt_of_le hb st.size) ?_;rintro ⟨k,e,y,he,hy,rfl⟩;rcases st.ow k e y he hy with h | h
        . omega
        . exact hE h
      . obtain ⟨d1,d2,d3⟩:=st'.dom k y hk;refine ⟨d1,?_,d3⟩;rcases d2 with d2 | ⟨k0,x0,d4,d5⟩
        . exact .inl (Nat.le_trans st.size d2)
        . rw [<- d5];exact (st.dom k0 x0 d4).2.1
      . rcases st'.ow k e y he hy with h | ⟨k0,e0,x0,h1,h2,h3⟩
        . exact .inl (Nat.le_trans st.size h)
        . rw [<- h3];exact st.ow k0 e0 x0 h1 h2
      . have hr:=st.pin k b hk;have : k < nm:=by
         rcases Nat.lt_or_ge k nm with h | h
         . exact h
         . rw [(w3 k h).1] at hr;cases hr
        rw [hlow k this];exact hr
     have hwr : wr r' (L ++ H') = wr r' Hf:=zBQ hG;have hwr0 : wr r H' = wr r H:=zBQ w1';refine ⟨v,rfl,r',⟨λk b hk=>?_,st'.size,λb hb hW=>st'.kept b hb (by rw [<- hwr0];exact hW),λb hb hW=>?_⟩,stF.congr λt=>(hG t).symm,λk hk=>?_,λk e hk=>?_,by rw [hwr];exact hx⟩
     . have : k < nm:=by
        rcases Nat.lt_or_ge k nm with h | h
        . exact h
        . rw [(w3 k h).1] at hk;cases hk
       rw [hlow k this];exact hk
     . rw [hwr] at hW;rw [hwr0];obtain ⟨k,e,y,he,hy,rfl⟩:=hW;rcases st'.ow k e y he hy with h | h
       . have : w.heap.size <= y.b:=h;omega
       . exact h
     . rcases hk with hk | hk
       . exact hlow k hk
       . rw [(hle2 k hk).1,(w3 k (by omega)).1]
     . refine .inl ⟨.inr (List.mem_singleton.2 rfl),?_⟩;rcases Nat.lt_or_ge k (nm + wd) with h | h
       . exact h
       . have hk' : zU (L ++ H') k = some e:=hk;rw [hG k,(hle2 k h).2] at hk';cases hk'
 . injection hq with hq;subst hq;refine ⟨hK.1,zBj hM c _ _ (zEQ λx Hf nf h=>⟨h.1,?_⟩) _ _ _ hK.2⟩;have h2:=h.2;rw [normK_L] at h2 ⊢;exact hKK _ _ _ h2
def Zh {α : Type} (k : Nat) (x : α) (L : List α) : List α:=L.take k ++ x :: L.drop k
def za (s : Sed) (l : Int) : Sed:=if l <= s.mn then s else ⟨s.id,l,s.held.filter (Zj (some l))⟩
def ZO (s : Sed) (i : Nat) : Sed:={ s with held:=s.held.set i { s.held.getD i default with tm:=Qo (s.held.getD i default).tm } }
def ZR (c : Cas) (now draw : Int) : Hel:=⟨c.num,c.data,(zAB 2 3 2 now draw).1,if 1099511627776 < now + 20 then 1099511627776 else now + 20⟩
def qM (s : Sed) (h : Hel) (i : Nat) : Sed:={ s with held:=Zh i h s.held }
def ZZ (s : Sed) (now : Int) (c : Cas) (deaf : Bool) (draw : Int) : Sed × Bool:=
 if c.num < s.mn then (s,false) else
 if (ZN c.num s.held 0).2 = true then (ZO s (ZN c.num s.held 0).1,false) else
 if deaf = true then (za (za s (c.num - 31)) (c.num + 1),false) else
 (qM (za s (c.num - 31)) (ZR c now draw) (ZN c.num (za s (c.num - 31)).held 0).1,true)
def Qm (c : Cas) (L : List Sed) : List Sed:=if (Zq c.id L 0).2 = true then L else Zh (Zq c.id L 0).1 ⟨c.id,c.num,[]⟩ L
def qB (L : List Sed) (now : Int) (c : Cas) (deaf : Bool) (draw : Int) : List Sed × Bool × Int:=
 if ZC L = false \/ c.id = 0 \/ 64 < c.data.length then ([],false,1) else
 if zx now = false \/ c.num < 0 \/ 1073741824 <= c.num then ([],false,2) else
 if (Zq c.id L 0).2 = false /\ 8 <= L.length then ([],false,10) else
 ((Qm c L).set (Zq c.id L 0).1 (ZZ ((Qm c L).getD (Zq c.id L 0).1 default) now c deaf draw).1,(ZZ ((Qm c L).getD (Zq c.id L 0).1 default) now c deaf draw).2,0)
theorem zAz {id : Int} : ∀ {L : List Sed} {k : Nat},(Zq id L k).1 <= k + L.length /\ ((Zq id L k).2 = true -> (Zq id L k).1 < k + L.length) /\ k <= (Zq id L k).1:=by
 intro L;induction L with
 | nil=>intro k;exact ⟨Nat.le_refl _,(λh=>by cases h),Nat.le_refl _⟩
 | cons s t ih=>
   intro k;unfold Zq;by_cases h : id <= s.id
   . rw [if_pos h];exact ⟨by simp,λ_=>by simp,Nat.le_refl _⟩
   . rw [if_neg h];obtain ⟨h1,h2,h3⟩:=ih (k:=k + 1);rw [List.length_cons];exact ⟨by omega,λh=>by have:=h2 h;omega,by omega⟩
theorem QE {id : Int} : ∀ {L : List Hel} {k : Nat},(ZN id L k).1 <= k + L.length /\ ((ZN id L k).2 = true -> (ZN id L k).1 < k + L.length) /\ k <= (ZN id L k).1:=by
 intro L;induction L with
 | nil=>intro k;exact ⟨Nat.le_refl _,(λh=>by cases h),Nat.le_refl _⟩
 | cons s t ih=>
   intro k;unfold ZN;by_cases h : id <= s.num
   . rw [if_pos h];exact ⟨by simp,λ_=>by simp,Nat.le_refl _⟩
   . rw [if_neg h];obtain ⟨h1,h2,h3⟩:=ih (k:=k + 1);rw [List.length_cons];exact ⟨by omega,λh=>by have:=h2 h;omega,by omega⟩
theorem qf {α : Type} {k : Nat} {x : α} {L : List α} (h : k <= L.length) : (Zh k x L).length = L.length + 1:=by
 unfold Zh;rw [List.length_append,List.length_cons,List.length_take,List.length_drop];omega
theorem YZ {α : Type} [Inhabited α] {k : Nat} {x : α} {L : List α} {i : Nat} (hk : k <= L.length) (h : i < k) : (Zh k x L).getD i default = L.getD i default:=by
 unfold Zh;rw [List.getD_eq_getElem?_getD,List.getD_eq_getElem?_getD,List.getElem?_append_left (by rw [List.length_take];omega),List.getElem?_take,if_pos h]
theorem QF {α : Type} [Inhabited α] {k : Nat} {x : α} {L : List α} (hk : k <= L.length) : (Zh k x L).getD k default = x:=by
 unfold Zh;rw [List.getD_eq_getElem?_getD,List.getElem?_append_right (by rw [List.length_take];omega),List.length_take,show k - min k L.length = 0 by omega];rfl
theorem Ya {α : Type} [Inhabited α] {k : Nat} {x : α} {L : List α} {i : Nat} (hk : k <= L.length) (h : k < i) : (Zh k x L).getD i default = L.getD (i - 1) default:=by
 unfold Zh;rw [List.getD_eq_getElem?_getD,List.getD_eq_getElem?_getD,List.getElem?_append_right (by rw [List.length_take];omega),List.length_take,show i - min k L.length = (i - k - 1) + 1 by omega,List.getElem?_cons_succ,List.getElem?_drop];congr 2
 omega
theorem YD {mn : Int} : ∀ {L : List Hel} {last : Int},Zb mn last L = true -> ∀ h ∈ L,last < h.num /\ h.num < mn + 32 /\ h.num < 1073741824 /\ h.data.length <= 64 /\ ZQ h.tm = true /\ zx h.til = true:=by
 intro L;induction L with
 | nil=>intro last _ h hh;cases hh
 | cons a t ih=>
   intro last h x hx;unfold Zb at h;simp only [Bool.and_eq_true,decide_eq_true_eq] at h;obtain ⟨⟨⟨⟨⟨⟨h1,h2⟩,h3⟩,h4⟩,h5⟩,h6⟩,h7⟩:=h;rcases List.mem_cons.1 hx with rfl | hx
   . exact ⟨h1,h2,h3,h4,h5,h6⟩
   . obtain ⟨g1,g⟩:=ih h7 x hx;exact ⟨by omega,g⟩
structure SdOk (s : Sed) : Prop where
 mn : 0 <= s.mn /\ s.mn <= 1073741824
 n : s.held.length <= 32
 h : Zb s.mn (s.mn - 1) s.held = true
theorem sd_ok {s : Sed} (h : qc s = true) : SdOk s:=by
 unfold qc at h;simp only [Bool.and_eq_true,decide_eq_true_eq] at h;obtain ⟨⟨⟨h1,h2⟩,h3⟩,h4⟩:=h;exact ⟨⟨h1,h2⟩,h3,h4⟩
theorem vs_mem : ∀ {L : List Sed} {last : Int},Zx last L = true -> ∀ x ∈ L,last < x.id /\ SdOk x:=by
 intro L;induction L with
 | nil=>intro last _ h hh;cases hh
 | cons a t ih=>
   intro last h x hx;unfold Zx at h;simp only [Bool.and_eq_true,decide_eq_true_eq] at h;obtain ⟨⟨h1,h2⟩,h3⟩:=h;rcases List.mem_cons.1 hx with rfl | hx
   . exact ⟨h1,sd_ok h2⟩
   . obtain ⟨g1,g⟩:=ih h3 x hx;exact ⟨by omega,g⟩
theorem Zp {L : List Sed} (h : ZC L = true) : L.length <= 8:=by
 unfold ZC at h;simp only [Bool.and_eq_true,decide_eq_true_eq] at h;exact h.1
theorem qk {L : List Sed} (h : ZC L = true) : ∀ x ∈ L,0 < x.id /\ SdOk x:=by
 unfold ZC at h;simp only [Bool.and_eq_true,decide_eq_true_eq] at h;exact vs_mem h.2
theorem SdOk.k {s : Sed} (h : SdOk s) : KpI s.held:=⟨by have:=h.n;omega,λx hx=>by have:=(YD h.h x hx).2.2.2.1;omega⟩
theorem vl_cl {L : List Sed} (h : ZC L = true) : ClI L:=⟨by have:=Zp h;omega,λx hx=>(qk h x hx).2.k⟩
theorem QW (n : Nat) : Nat.beq n n = true:=Nat.beq_refl n
theorem Qy {c : Wc} {n a m : Nat} {r zf zz : Nat -> Nat -> CV} {e : Nat -> CV} {W : CV} {p j : Nat} (ha : a <= n) (hm : m = n - a) (hp : p < n + 1)
 (h1 : p < a -> ZX c (r p j) W) (h2 : p = a -> ZX c (e j) W) (h3 : a < p -> ZX c (r (p - 1) j) W) :
 ZX c (zBr false (ovE (λk j=>Zi (Nat.blt k n) (r k j) (zf k j)) (0 + (a + 1)) m (λk j=>Zi (Nat.blt (0 + a + k) n) (r (0 + a + k) j) (zz k j))) (0 + a) e p j) W:=by
 subst hm;show ZX c (Zi (Nat.beq p (0 + a)) (e j) (ovE _ _ _ _ p j)) W;rw [Nat.zero_add];by_cases hpa : p = a
 . subst hpa;exact ZU (QW _) (h2 rfl)
 . refine Zd (zA2 hpa) ?_;by_cases hlt : p < a
   . rw [zEn (by omega)];exact ZU (Nat.ble_eq_true_of_le (by omega)) (h1 hlt)
   . rw [ovE_in (by omega)];have e1 : a + (p - (0 + (a + 1))) = p - 1:=by omega
     show ZX c (Zi (Nat.blt (a + (p - (0 + (a + 1)))) n) (r (a + (p - (0 + (a + 1)))) j) _) W;rw [e1];exact ZU (Nat.ble_eq_true_of_le (by omega)) (h3 (by omega))
def ZK : Nat -> Code -> Code
 | 0,c=>c
 | k + 1,.seq _ b=>ZK k b
 | _ + 1,c=>c
def LMr : CsL:=(56,some keepE) :: []
theorem LMr_ok : qU Try.prog LMr:=⟨zDO,trivial⟩
def raiseE : Zm:=inlE T (Zt LMr) 1 Try.f37.ntmps Try.f37.results.toList (Try.f37.body.getD Code.ret)
theorem zD1 : EntOk Try.prog 37 raiseE:=inlE_ok (by decide) zM (zb LMr_ok) (zT LMr_ok) zN Try.func37 rfl rfl
def qX (g : Nat) : CsL:=(31,some zDF) :: (32,some zC3) :: (33,some mfindE) :: (34,some (cloneE g)) :: (35,some mplaceE) :: (37,some raiseE) :: LTk
theorem zX (g : Nat) : qU Try.prog (qX g):=⟨zu ⟨_,Try.func31,rfl,by kernel_rfl⟩ λa h=>zBa a.1 h,zu ⟨_,Try.func32,rfl,by kernel_rfl⟩ λa _=>zCW a.1,zu ⟨_,Try.func33,rfl,by kernel_rfl⟩ λa h=>mfind_ok a.1 a.2.1 h,cloneE_ok g,zu ⟨_,Try.func35,rfl,by kernel_rfl⟩ λa h=>mplace_ok a.1 a.2.1 h,zD1,zCn⟩
end Go.Proofs.Ytfaibcgakcmhcaa.AX
namespace Go.Proofs.Ytfaibcgakcmhcaa.AX
theorem qW {α : Type} {x d : α} {l : List α} {i : Nat} : (x :: l).getD (i + 1) d = l.getD i d:=by simp [List.getD_eq_getElem?_getD]
theorem Qj {last : Int} {a : Sed} {t : List Sed} : Zx last (a :: t) = true ↔ last < a.id /\ qc a = true /\ Zx a.id t = true:=by
 show (decide (last < a.id) && qc a && Zx a.id t) = true ↔ _;simp only [Bool.and_eq_true,decide_eq_true_eq,and_assoc]
theorem fnd_mem : ∀ {L : List Sed} {last : Int} {k : Nat} {x : Sed},Zx last L = true -> x ∈ L -> (Zq x.id L k).2 = true /\ L.getD ((Zq x.id L k).1 - k) default = x:=by
 intro L;induction L with
 | nil=>intro _ _ _ _ h;cases h
 | cons a t ih=>
   intro last k x hv hx;rw [Qj] at hv;rcases List.mem_cons.1 hx with rfl | hx
   . unfold Zq;rw [if_pos (Int.le_refl _),Nat.sub_self];exact ⟨decide_eq_true rfl,rfl⟩
   . have h1:=vs_mem hv.2.2 x hx;unfold Zq;rw [if_neg (by have:=h1.1;omega)];obtain ⟨g1,g2⟩:=ih (k:=k + 1) hv.2.2 hx;refine ⟨g1,?_⟩;have:=(zAz (id:=x.id) (L:=t) (k:=k + 1)).2.2;rw [show (Zq x.id t (k + 1)).1 - k = ((Zq x.id t (k + 1)).1 - (k + 1)) + 1 by omega,qW];exact g2
theorem fnd_true : ∀ {L : List Sed} {k : Nat} {id : Int},(Zq id L k).2 = true -> (L.getD ((Zq id L k).1 - k) default).id = id /\ (Zq id L k).1 - k < L.length:=by
 intro L;induction L with
 | nil=>intro _ _ h;cases h
 | cons a t ih=>
   intro k id h;unfold Zq at h ⊢;by_cases hc : id <= a.id
   . rw [if_pos hc] at h ⊢;rw [Nat.sub_self];exact ⟨of_decide_eq_true h,by simp⟩
   . rw [if_neg hc] at h ⊢;have:=(zAz (id:=id) (L:=t) (k:=k + 1)).2.2;obtain ⟨g1,g2⟩:=ih h;rw [show (Zq id t (k + 1)).1 - k = ((Zq id t (k + 1)).1 - (k + 1)) + 1 by omega,qW,List.length_cons];exact ⟨g1,by omega⟩
theorem vs_ins : ∀ {L : List Sed} {last : Int} {k : Nat} {x : Sed},Zx last L = true -> last < x.id -> qc x = true -> (Zq x.id L k).2 = false -> Zx last (Zh ((Zq x.id L k).1 - k) x L) = true:=by
 intro L;induction L with
 | nil=>
   intro last k x _ hl hx _;show Zx last (Zh (k - k) x []) = true;rw [Nat.sub_self];exact Qj.2 ⟨hl,hx,rfl⟩
 | cons a t ih=>
   intro last k x hv hl hx hf;have hv':=Qj.1 hv;unfold Zq at hf ⊢;by_cases hc : x.id <= a.id
   . rw [if_pos hc] at hf ⊢;have hne : ¬ a.id = x.id:=of_decide_eq_false hf;rw [Nat.sub_self];exact Qj.2 ⟨hl,hx,Qj.2 ⟨by omega,hv'.2⟩⟩
   . rw [if_neg hc] at hf ⊢;have:=(zAz (id:=x.id) (L:=t) (k:=k + 1)).2.2;rw [show (Zq x.id t (k + 1)).1 - k = ((Zq x.id t (k + 1)).1 - (k + 1)) + 1 by omega];exact Qj.2 ⟨hv'.1,hv'.2.1,ih hv'.2.2 (by omega) hx hf⟩
theorem vs_set : ∀ {L : List Sed} {last : Int} {i : Nat} {x : Sed},Zx last L = true -> i < L.length -> x.id = (L.getD i default).id -> qc x = true -> Zx last (L.set i x) = true:=by
 intro L;induction L with
 | nil=>intro _ _ _ _ h;exact absurd h (Nat.not_lt_zero _)
 | cons a t ih=>
   intro last i x hv hi hid hx;have hv':=Qj.1 hv;cases i with
   | zero=>
     have hid : x.id = a.id:=hid;exact Qj.2 ⟨by omega,hx,by rw [hid];exact hv'.2.2⟩
   | succ i=>
     rw [qW] at hid;exact Qj.2 ⟨hv'.1,hv'.2.1,ih hv'.2.2 (by simpa using hi) hid hx⟩
structure HelOk (mn : Int) (h : Hel) : Prop where
 w : h.num < mn + 32
 b : h.num < 1073741824
 d : h.data.length <= 64
 t : ZQ h.tm = true
 u : zx h.til = true
theorem Qk {mn last : Int} {a : Hel} {t : List Hel} : Zb mn last (a :: t) = true ↔ last < a.num /\ HelOk mn a /\ Zb mn a.num t = true:=by
 show (decide (last < a.num) && decide (a.num < mn + 32) && decide (a.num < 1073741824) && decide (a.data.length <= 64) && ZQ a.tm && zx a.til && Zb mn a.num t) = true ↔ _;simp only [Bool.and_eq_true,decide_eq_true_eq];constructor
 . rintro ⟨⟨⟨⟨⟨⟨h1,h2⟩,h3⟩,h4⟩,h5⟩,h6⟩,h7⟩;exact ⟨h1,⟨h2,h3,h4,h5,h6⟩,h7⟩
 . rintro ⟨h1,⟨h2,h3,h4,h5,h6⟩,h7⟩;exact ⟨⟨⟨⟨⟨⟨h1,h2⟩,h3⟩,h4⟩,h5⟩,h6⟩,h7⟩
theorem plc_mem {mn : Int} : ∀ {L : List Hel} {last : Int} {k : Nat} {x : Hel},Zb mn last L = true -> x ∈ L -> (ZN x.num L k).2 = true /\ L.getD ((ZN x.num L k).1 - k) default = x:=by
 intro L;induction L with
 | nil=>intro _ _ _ _ h;cases h
 | cons a t ih=>
   intro last k x hv hx;rw [Qk] at hv;rcases List.mem_cons.1 hx with rfl | hx
   . unfold ZN;rw [if_pos (Int.le_refl _),Nat.sub_self];exact ⟨decide_eq_true rfl,rfl⟩
   . have h1:=YD hv.2.2 x hx;unfold ZN;rw [if_neg (by have:=h1.1;omega)];obtain ⟨g1,g2⟩:=ih (k:=k + 1) hv.2.2 hx;refine ⟨g1,?_⟩;have:=(QE (id:=x.num) (L:=t) (k:=k + 1)).2.2;rw [show (ZN x.num t (k + 1)).1 - k = ((ZN x.num t (k + 1)).1 - (k + 1)) + 1 by omega,qW];exact g2
theorem zE9 : ∀ {L : List Hel} {k : Nat} {id : Int},(ZN id L k).2 = true -> (L.getD ((ZN id L k).1 - k) default).num = id /\ (ZN id L k).1 - k < L.length:=by
 intro L;induction L with
 | nil=>intro _ _ h;cases h
 | cons a t ih=>
   intro k id h;unfold ZN at h ⊢;by_cases hc : id <= a.num
   . rw [if_pos hc] at h ⊢;rw [Nat.sub_self];exact ⟨of_decide_eq_true h,by simp⟩
   . rw [if_neg hc] at h ⊢;have:=(QE (id:=id) (L:=t) (k:=k + 1)).2.2;obtain ⟨g1,g2⟩:=ih h;rw [show (ZN id t (k + 1)).1 - k = ((ZN id t (k + 1)).1 - (k + 1)) + 1 by omega,qW,List.length_cons];exact ⟨g1,by omega⟩
theorem zj {α : Type} [Inhabited α] {L : List α} {i : Nat} (h : i < L.length) : L.getD i default ∈ L:=by
 rw [List.getD_eq_getElem?_getD,List.getElem?_eq_getElem h];exact List.getElem_mem h
theorem Qc {mn last num : Int} {L : List Hel} {f : Hel -> Bool} (hv : Zb mn last L = true) (h : (ZN num L 0).2 = false) : (ZN num (L.filter f) 0).2 = false:=by
 cases hc : (ZN num (L.filter f) 0).2 with
 | false=>rfl
 | true=>
   obtain ⟨g1,g2⟩:=zE9 hc;have hm:=zj g2;have:=(plc_mem (k:=0) hv (List.mem_filter.1 hm).1).1;rw [g1,h] at this;cases this
theorem vh_ins {mn : Int} : ∀ {L : List Hel} {last : Int} {k : Nat} {x : Hel},Zb mn last L = true -> last < x.num -> HelOk mn x -> (ZN x.num L k).2 = false -> Zb mn last (Zh ((ZN x.num L k).1 - k) x L) = true:=by
 intro L;induction L with
 | nil=>
   intro last k x _ hl hx _;show Zb mn last (Zh (k - k) x []) = true;rw [Nat.sub_self];exact Qk.2 ⟨hl,hx,rfl⟩
 | cons a t ih=>
   intro last k x hv hl hx hf;have hv':=Qk.1 hv;unfold ZN at hf ⊢;by_cases hc : x.num <= a.num
   . rw [if_pos hc] at hf ⊢;have hne : ¬ a.num = x.num:=of_decide_eq_false hf;rw [Nat.sub_self];exact Qk.2 ⟨hl,hx,Qk.2 ⟨by omega,hv'.2⟩⟩
   . rw [if_neg hc] at hf ⊢;have:=(QE (id:=x.num) (L:=t) (k:=k + 1)).2.2;rw [show (ZN x.num t (k + 1)).1 - k = ((ZN x.num t (k + 1)).1 - (k + 1)) + 1 by omega];exact Qk.2 ⟨hv'.1,hv'.2.1,ih hv'.2.2 (by omega) hx hf⟩
theorem vh_set {mn : Int} : ∀ {L : List Hel} {last : Int} {i : Nat} {x : Hel},Zb mn last L = true -> i < L.length -> x.num = (L.getD i default).num -> HelOk mn x -> Zb mn last (L.set i x) = true:=by
 intro L;induction L with
 | nil=>intro _ _ _ _ h;exact absurd h (Nat.not_lt_zero _)
 | cons a t ih=>
   intro last i x hv hi hid hx;have hv':=Qk.1 hv;cases i with
   | zero=>
     have hid : x.num = a.num:=hid;exact Qk.2 ⟨by omega,hx,by rw [hid];exact hv'.2.2⟩
   | succ i=>
     rw [qW] at hid;exact Qk.2 ⟨hv'.1,hv'.2.1,ih hv'.2.2 (by simpa using hi) hid hx⟩
theorem vh_filter {mn l : Int} (hl : mn <= l) : ∀ {L : List Hel} {last last' : Int},Zb mn last L = true -> (last' <= last \/ last' < l) -> Zb l last' (L.filter (Zj (some l))) = true:=by
 intro L;induction L with
 | nil=>intros;rfl
 | cons a t ih=>
   intro last last' hv hl';have hv':=Qk.1 hv;rw [List.filter_cons];by_cases hw : Zj (some l) a = true
   . rw [if_pos hw];have hw' : l <= a.num:=of_decide_eq_true hw;exact Qk.2 ⟨by omega,⟨by have:=hv'.2.1.w;omega,hv'.2.1.b,hv'.2.1.d,hv'.2.1.t,hv'.2.1.u⟩,ih hv'.2.2 (.inl (Int.le_refl _))⟩
   . rw [if_neg hw];refine ih hv'.2.2 ?_;have hw' : ¬ l <= a.num:=λh=>hw (decide_eq_true h);omega
theorem sd_of {s : Sed} (h : SdOk s) : qc s = true:=by
 unfold qc;rw [decide_eq_true h.mn.1,decide_eq_true h.mn.2,decide_eq_true h.n,h.h];rfl
theorem Qu {s : Sed} {l : Int} (h : SdOk s) (hl : l <= 1073741824) : SdOk (za s l):=by
 unfold za;split
 . exact h
 . rename_i hc;exact ⟨⟨by have:=h.mn;show 0 <= l;omega,hl⟩,Nat.le_trans (List.length_filter_le _ _) h.n,(show Zb l (l - 1) (s.held.filter (Zj (some l))) = true from vh_filter (by omega) h.h (.inr (by omega)))⟩
theorem raise_mn {s : Sed} {l : Int} : l <= (za s l).mn /\ s.mn <= (za s l).mn:=by
 unfold za;split
 . exact ⟨by assumption,Int.le_refl _⟩
 . exact ⟨Int.le_refl _,by dsimp only;omega⟩
theorem zB2 {s : Sed} {l : Int} : (za s l).id = s.id:=by
 unfold za;split<;>rfl
theorem zFr {t : Trk} (h : ZQ t = true) : ZQ (Qo t) = true:=by
 have hn:=QA h;obtain ⟨p1,p2⟩:=zAK h;unfold Qo;rw [if_pos h];split
 . exact zAw p1 p2 (by show 0 <= t.heard + 1 /\ t.heard + 1 <= _;omega) hn.2.2.2.2.1 hn.2.2.2.2.2
 . exact h
theorem QD {s : Sed} (h : SdOk s) {x : Hel} (hx : x ∈ s.held) : HelOk s.mn x:=by
 obtain ⟨_,h1,h2,h3,h4,h5⟩:=YD h.h x hx;exact ⟨h1,h2,h3,h4,h5⟩
theorem hearS_ok {s : Sed} {i : Nat} (h : SdOk s) (hi : i < s.held.length) : SdOk (ZO s i):=by
 have hx:=QD h (zj hi);exact ⟨h.mn,by show (s.held.set _ _).length <= 32;rw [List.length_set];exact h.n,vh_set h.h hi rfl ⟨hx.w,hx.b,hx.d,zFr hx.t,hx.u⟩⟩
theorem vh_len {mn : Int} : ∀ {L : List Hel} {last : Int},Zb mn last L = true -> (L.length : Int) <= mn + 32 - last - 1 \/ L = []:=by
 intro L;induction L with
 | nil=>intro _ _;exact .inr rfl
 | cons a t ih=>
   intro last hv;have hv':=Qk.1 hv;have hw:=hv'.2.1.w;left;rw [List.length_cons];rcases ih hv'.2.2 with h | h
   . omega
   . subst h;show ((0 + 1 : Nat) : Int) <= _;omega
theorem add_ok35 {s : Sed} {c : Cas} {now draw : Int} (h : SdOk s) (hn : 0 <= now /\ now <= 1099511627776) (hd : c.data.length <= 64) (h1 : s.mn <= c.num) (h2 : c.num < s.mn + 32) (h3 : c.num < 1073741824) (hf : (ZN c.num s.held 0).2 = false) : SdOk (qM s (ZR c now draw) (ZN c.num s.held 0).1):=by
 have hx : HelOk s.mn (ZR c now draw):=⟨h2,h3,hd,zEP rfl hn,Zl.2 (by unfold ZR;dsimp only;split<;>omega)⟩;have hv : Zb s.mn (s.mn - 1) (Zh (ZN c.num s.held 0).1 (ZR c now draw) s.held) = true:=vh_ins (k:=0) (x:=ZR c now draw) h.h (by show s.mn - 1 < c.num;omega) hx hf;refine ⟨h.mn,?_,hv⟩;show (Zh _ _ s.held).length <= 32;rcases vh_len hv with g | g
 . omega
 . rw [g];exact Nat.zero_le _
structure AccV (s s' : Sed) : Prop where
 id : s'.id = s.id
 ok : SdOk s'
theorem acc_ok {s : Sed} {now : Int} {c : Cas} {deaf : Bool} {draw : Int} (h : SdOk s) (hn : 0 <= now /\ now <= 1099511627776) (hd : c.data.length <= 64) (h3 : c.num < 1073741824) : AccV s (ZZ s now c deaf draw).1:=by
 unfold ZZ;split
 . exact ⟨rfl,h⟩
 . rename_i hm;split
   . rename_i hp;exact ⟨rfl,hearS_ok h (zE9 hp).2⟩
   . rename_i hp;have hr:=Qu (l:=c.num - 31) h (by omega);split
     . exact ⟨by rw [zB2,zB2],Qu hr (by omega)⟩
     . refine ⟨zB2,add_ok35 hr hn hd ?_ ?_ h3 ?_⟩
       . unfold za;split
         . omega
         . dsimp only;omega
       . have:=(raise_mn (s:=s) (l:=c.num - 31)).1;omega
       . unfold za;split
         . simpa using hp
         . exact Qc h.h (by simpa using hp)
theorem zEY {L : List Sed} {c : Cas} (hv : ZC L = true) (hc0 : 0 < c.id) (hn : 0 <= c.num /\ c.num <= 1073741824) (hl : (Zq c.id L 0).2 = true \/ L.length < 8) : ZC (Qm c L) = true /\ (Zq c.id L 0).1 < (Qm c L).length /\ ((Qm c L).getD (Zq c.id L 0).1 default).id = c.id:=by
 have hle:=zAz (id:=c.id) (L:=L) (k:=0);unfold Qm;split
 . rename_i h;exact ⟨hv,by have:=hle.2.1 h;omega,(fnd_true h).1⟩
 . rename_i h;have h8 : L.length < 8:=hl.resolve_left h;unfold ZC at hv ⊢;simp only [Bool.and_eq_true,decide_eq_true_eq] at hv ⊢;refine ⟨⟨by rw [qf (by omega)];omega,?_⟩,by rw [qf (by omega)];omega,by rw [QF (by omega)]⟩;exact vs_ins (k:=0) (x:=⟨c.id,c.num,[]⟩) hv.2 hc0 (sd_of ⟨hn,Nat.zero_le _,rfl⟩) (by simpa using h)
theorem zBw {L : List Sed} {now : Int} {c : Cas} {deaf : Bool} {draw : Int} (hid : 0 <= c.id) (h : (qB L now c deaf draw).2.2 = 0) : ZC (qB L now c deaf draw).1 = true:=by
 unfold qB at h ⊢;split at h
 . cases h
 . rename_i h1;rw [if_neg h1];split at h
   . cases h
   . rename_i h2;rw [if_neg h2];split at h
     . cases h
     . rename_i h3;rw [if_neg h3];have hv : ZC L = true:=by
        cases hh : ZC L with
        | true=>rfl
        | false=>exact absurd (.inl hh) h1
       have ht : zx now = true:=by
        cases hh : zx now with
        | true=>rfl
        | false=>exact absurd (.inl hh) h2
       have hl : (Zq c.id L 0).2 = true \/ L.length < 8:=by
        cases hh : (Zq c.id L 0).2 with
        | true=>exact .inl rfl
        | false=>exact .inr (by rcases Nat.lt_or_ge L.length 8 with g | g;exact g;exact absurd ⟨hh,g⟩ h3)
       obtain ⟨g1,g2,g3⟩:=zEY (c:=c) hv (by omega) (by omega) hl;have hs:=qk g1 _ (zj g2);obtain ⟨a1,a2⟩:=acc_ok (now:=now) (c:=c) (deaf:=deaf) (draw:=draw) hs.2 (Zl.1 ht) (by omega) (by omega);unfold ZC at g1 ⊢;simp only [Bool.and_eq_true,decide_eq_true_eq] at g1 ⊢;exact ⟨by rw [List.length_set];exact g1.1,vs_set g1.2 g2 a1 (sd_of a2)⟩
theorem zDN {L : List Sed} (h : ZC L = true) : Zx 0 L = true:=by
 unfold ZC at h;simp only [Bool.and_eq_true,decide_eq_true_eq] at h;exact h.2
structure DfI (l : List Sed) (H : List (Int × Int)) : Prop where
 v : ZC l = true
 e : ∀ x ∈ l,(1 <= x.id /\ x.id <= 3) /\ x.held = []
 h : ∀ p ∈ H,((1 <= p.1 /\ p.1 <= 3) /\ 0 <= p.2 /\ p.2 < 40) /\ ∃ x ∈ l,x.id = p.1 /\ p.2 < x.mn
def QK (now : Int) : List Hel -> Int -> Int
 | [],l=>l
 | h :: t,l=>QK now t (if h.til <= now then h.num + 1 else l)
def Zo (now : Int) (s : Sed) : Sed:=za s (QK now s.held s.mn)
def qe (id now draw : Int) : List Hel -> Nat -> List Hel × List Cas
 | [],_=>([],[])
 | h :: t,b=>
   if h.tm.start <= now then
    ({ h with tm:=(qK h.tm now (IntKind.u32.wrap (draw + (b : Int)))).1 } :: (qe id now draw t (b + 1)).1,
     if (qK h.tm now (IntKind.u32.wrap (draw + (b : Int)))).2.1 = true then ⟨id,h.num,h.data⟩ :: (qe id now draw t (b + 1)).2 else (qe id now draw t (b + 1)).2)
   else (h :: (qe id now draw t (b + 1)).1,(qe id now draw t (b + 1)).2)
def Yn (now draw : Int) : List Sed -> Nat -> List Sed × List Cas
 | [],_=>([],[])
 | s :: t,b=>({ s with held:=(qe s.id now draw s.held b).1 } :: (Yn now draw t (b + s.held.length)).1,(qe s.id now draw s.held b).2 ++ (Yn now draw t (b + s.held.length)).2)
def qS (L : List Sed) (now draw : Int) : List Sed × List Cas × Int:=
 if ZC L = false then ([],[],1) else
 if zx now = false then ([],[],2) else
 ((Yn now draw (L.map (Zo now)) 0).1,(Yn now draw (L.map (Zo now)) 0).2,0)
theorem lastF_le {now : Int} : ∀ {L : List Hel} {l b : Int},(∀ h ∈ L,h.num < b) -> l <= b -> QK now L l <= b:=by
 intro L;induction L with
 | nil=>intro l b _ h;exact h
 | cons a t ih=>
   intro l b hb hl;refine ih (λh hh=>hb h (List.mem_cons_of_mem _ hh)) ?_;have:=hb a (List.mem_cons_self ..);split<;>omega
theorem zEX {s : Sed} {now : Int} (h : SdOk s) : SdOk (Zo now s):=Qu h (lastF_le (λx hx=>by have:=(YD h.h x hx).2.2.1;omega) h.mn.2)
theorem qu {id now draw : Int} : ∀ {L : List Hel} {b : Nat},(qe id now draw L b).1.length = L.length:=by
 intro L;induction L with
 | nil=>intro _;rfl
 | cons a t ih=>
   intro b;unfold qe;split<;>simp [ih]
theorem runH_ok {id now draw mn : Int} (hn : 0 <= now /\ now <= 1099511627776) : ∀ {L : List Hel} {b : Nat} {last : Int},Zb mn last L = true -> Zb mn last (qe id now draw L b).1 = true:=by
 intro L;induction L with
 | nil=>intro _ _ _;rfl
 | cons a t ih=>
   intro b last hv;have hv':=Qk.1 hv;unfold qe;split
   . rename_i hs;refine Qk.2 ⟨hv'.1,⟨hv'.2.1.w,hv'.2.1.b,hv'.2.1.d,zDo hv'.2.1.t hn hs,hv'.2.1.u⟩,ih hv'.2.2⟩
   . exact Qk.2 ⟨hv'.1,hv'.2.1,ih hv'.2.2⟩
theorem vs_map {f : Sed -> Sed} (hid : ∀ s,(f s).id = s.id) (hok : ∀ s,SdOk s -> SdOk (f s)) : ∀ {L : List Sed} {last : Int},Zx last L = true -> Zx last (L.map f) = true:=by
 intro L;induction L with
 | nil=>intro _ _;rfl
 | cons a t ih=>
   intro last hv;have hv':=Qj.1 hv;exact Qj.2 ⟨by rw [hid];exact hv'.1,sd_of (hok a (sd_ok hv'.2.1)),by rw [hid];exact ih hv'.2.2⟩
theorem runL_ok {now draw : Int} (hn : 0 <= now /\ now <= 1099511627776) : ∀ {L : List Sed} {b : Nat} {last : Int},Zx last L = true -> Zx last (Yn now draw L b).1 = true:=by
 intro L;induction L with
 | nil=>intro _ _ _;rfl
 | cons a t ih=>
   intro b last hv;have hv':=Qj.1 hv;have ha:=sd_ok hv'.2.1;exact Qj.2 ⟨hv'.1,sd_of ⟨ha.mn,by show (qe _ _ _ _ _).1.length <= 32;rw [qu];exact ha.n,runH_ok hn ha.h⟩,ih hv'.2.2⟩
theorem runL_len {now draw : Int} : ∀ {L : List Sed} {b : Nat},(Yn now draw L b).1.length = L.length:=by
 intro L;induction L with
 | nil=>intro _;rfl
 | cons a t ih=>intro b;show ((Yn now draw t _).1.length + 1) = t.length + 1;rw [ih]
theorem zD0 {L : List Sed} {now draw : Int} (h : (qS L now draw).2.2 = 0) : ZC (qS L now draw).1 = true:=by
 unfold qS at h ⊢;split at h
 . cases h
 . rename_i h1;rw [if_neg h1];split at h
   . cases h
   . rename_i h2;rw [if_neg h2];have hv : ZC L = true:=by
      cases hh : ZC L with
      | true=>rfl
      | false=>exact absurd hh h1
     have ht : zx now = true:=by
      cases hh : zx now with
      | true=>rfl
      | false=>exact absurd hh h2
     have h8:=Zp hv;unfold ZC;simp only [Bool.and_eq_true,decide_eq_true_eq];exact ⟨by rw [runL_len,List.length_map];exact h8,runL_ok (Zl.1 ht) (vs_map (λs=>zB2) (λs=>zEX) (zDN hv))⟩
def hasS (s : Sed) (n : Int) : Prop:=n < s.mn \/ n ∈ s.held.map Hel.num
structure OnI (l : List Sed) (G : Nat -> Bool) : Prop where
 v : ZC l = true
 r : ∀ x ∈ l,1 <= x.id /\ x.id <= 5
 g : ∀ i n : Nat,i <= 5 -> n < 64 -> G (i * 64 + n) = true -> ∃ x ∈ l,x.id = (i : Int) /\ hasS x (n : Int)
theorem mstep_eq {L : List Sed} {now draw : Int} (hv : ZC L = true) (ht : zx now = true) : qS L now draw = ((Yn now draw (L.map (Zo now)) 0).1,(Yn now draw (L.map (Zo now)) 0).2,0):=by
 unfold qS;rw [if_neg (by rw [hv];simp),if_neg (by rw [ht];simp)]
end Go.Proofs.Ytfaibcgakcmhcaa.AX
namespace Go.Proofs.Ytfaibcgakcmhcaa.AX
open Go.RowKit
def SA (L : List Sed) (g : Nat) (now : Int) (c : Cas) (deaf : Bool) (draw : Int) (_ : Unit) : Hd:=
 ⟨[(1,zO (.int .i64 now)),(3,zO (.bool deaf)),(4,zO (.int .u32 draw)),(7,zO (.ptr 0 0 0 false)),(13,zO (.int .i64 (g : Int))),(15,zO (.os 1 0 L.length))],
  [(0,some ⟨32,1,3,true,λ_=>Zr.cell c⟩),(1,some (entG 2 g L.length L)),(2,some (ZL zn 85 (L.getD g default).held))],3⟩
def qE (R : List Sed × Bool × Int) : Option (List EV):=some [.c (.bool R.2.1),.c (.int .i64 R.2.2)]
theorem YC {R : List Sed × Bool × Int} {k : Int} {H : Hp} (h : R = ([],false,k)) : FinN (some R.1.length) (qE R) (ZL ZF 78 R.1) (.tup [.c .nils,.c (.bool false),.c (.int .i64 k)]) H:=by
 subst h;exact ⟨none,ZW ⟨ZP rfl,zS rfl,zC rfl,trivial⟩,⟨rfl,rfl,Nat.le_of_ble_eq_true rfl⟩⟩
structure AcI (L : List Sed) (a : Nat) (now : Int) (c : Cas) (draw : Int) : Prop where
 lt : a < L.length
 n : L.length <= 9
 k : KpI (L.getD a default).held
 h : (L.getD a default).held.length <= 32
 mn : 0 <= (L.getD a default).mn /\ (L.getD a default).mn <= 1073741824
 num : 0 <= c.num /\ c.num < 1073741824
 d : c.data.length <= 64
 now : 0 <= now /\ now <= 1099511627776
 dr : ZM draw
theorem zJ {L : List Sed} {a p : Nat} {s : Sed} (h : p ≠ a) : (L.set a s).getD p default = L.getD p default:=by
 rw [List.getD_eq_getElem?_getD,List.getD_eq_getElem?_getD,List.getElem?_set,if_neg (Ne.symm h)]
theorem qH {L : List Sed} {a : Nat} {s : Sed} (h : a < L.length) : (L.set a s).getD a default = s:=by
 rw [List.getD_eq_getElem?_getD,List.getElem?_set,if_pos rfl,if_pos h];rfl
def QQ (d : Nat) (s : Sed) (a : Nat) (L : List Sed) (k j : Nat) : CV:=bif Nat.beq k a then (bif Nat.beq j 2 then .os d 0 s.held.length else sedC s j) else zo ZF L k j
theorem zAL {d a j : Nat} {s : Sed} {L : List Sed} : QQ d s a L a j = bif Nat.beq j 2 then .os d 0 s.held.length else sedC s j:=by unfold QQ;rw [QW];rfl
theorem zZ {d a k j : Nat} {s : Sed} {L : List Sed} (h : k ≠ a) : QQ d s a L k j = zo ZF L k j:=by unfold QQ;rw [zA2 h];rfl
theorem zBA {d a n : Nat} {L : List Sed} : entG d a n L = ⟨78,n,3,false,QQ d (L.getD a default) a L⟩:=by
 unfold entG;congr 1
 funext k j
 by_cases hk : k = a
 . subst hk;rw [zAL];unfold zBn;rw [QW,Bool.and_true];rfl
 . rw [zZ hk,Yb (.inl hk)]
def SB (L : List Sed) (a : Nat) (s : Sed) (now : Int) (c : Cas) (deaf : Bool) (draw : Int) (_ : Unit) : Hd:=
 ⟨[(1,zO (.int .i64 now)),(3,zO (.bool deaf)),(4,zO (.int .u32 draw)),(7,zO (.ptr 0 0 0 false)),(15,zO (.os 1 0 L.length)),(16,zO (.ptr 1 a 0 false))],
  [(0,some ⟨32,1,3,true,λ_=>Zr.cell c⟩),(1,some ⟨78,L.length,3,false,QQ 2 s a L⟩),(2,some (ZL zn 85 s.held))],3⟩
theorem row_set {c : Wc} {L : List Sed} {a p j : Nat} {s : Sed} {x : CV} (ha : a < L.length) (hj : j < 3) (hne : p ≠ a -> x = zo ZF L p j) (h : p = a -> ZX c x (ZF.cell s j)) : ZX c x (zo ZF (L.set a s) p j):=by
 by_cases hp : p = a
 . subst hp;have e : zo ZF (L.set p s) p j = ZF.cell s j:=congrArg (λz=>ZF.cell z j) (qH ha);rw [e];exact h rfl
 . rw [hne hp];have e : zo ZF (L.set a s) p j = zo ZF L p j:=congrArg (λz=>ZF.cell z j) (zJ hp);rw [e];exact (ZF.sh _ j hj).le
theorem zq {f : Nat -> Nat -> CV} {i p j : Nat} {g : Nat -> CV} (h : p ≠ i) : zBr false f i g p j = f p j:=by
 show Zi (Nat.beq p i) (g j) (f p j) = f p j;rw [QT,zA2 h];rfl
theorem zL {α : Type} [Inhabited α] {E : NElem α} (hE : ∀ a,E.rd (E.cell a) = a) (l : List α) : Yt E l.length (λk j=>zo E l (0 + k) j) = l:=by
 have e : (λk j=>zo E l (0 + k) j) = zo E l:=by funext k j;rw [Nat.zero_add]
 rw [e];exact ZE hE l
theorem qq {s F : Nat × Bool} {id : Int} {M L : List Hel} (hs : s = ZN id M 0) (h : M = L) (hF : ZN id L 0 = F) : F = s:=by rw [hs,h,hF]
theorem zAM {s : Trk} {k i : Nat} {l : List Hel} (hs : s = Qo (eTk.rd λq=>zo zn l k (0 + 2 + q))) (h : k = i) : s = Qo (l.getD i default).tm:=by subst h;exact hs
theorem Zg {c : Wc} {d d' a k j : Nat} {s : Sed} {L : List Sed} (hj : j < 3) (h : c.src d' = some d) : ZX c (QQ d s a L k j) (QQ d' s a L k j):=by
 by_cases hk : k = a
 . subst hk;rw [zAL,zAL];rcases j with _ | _ | _ | j
   . exact zC rfl
   . exact zC rfl
   . exact zD h rfl
   . omega
 . rw [zZ hk,zZ hk];exact (ZF.sh _ j hj).le
theorem zAN {c : Wc} {d a k j : Nat} {s : Sed} {L : List Sed} {x : CV} (hj : j < 3) (hne : k ≠ a -> x = zo ZF L k j) (h : k = a -> ZX c x (bif Nat.beq j 2 then .os d 0 s.held.length else sedC s j)) : ZX c x (QQ d s a L k j):=by
 by_cases hk : k = a
 . subst hk;rw [zAL];exact h rfl
 . rw [zZ hk,hne hk];exact (ZF.sh _ j hj).le
theorem zAO {c : Wc} {l : List Hel} {t : Trk} {i q j : Nat} (hi : i < l.length) (hj : j < 11) : ZX c (zBr false (zo zn l) (0 + i) (ovw false zn.sz (zo zn l (0 + i)) (0 + 2) eTk.sz (eTk.cell t)) q j) (zo zn (l.set i { l.getD i default with tm:=t }) q j):=by
 rw [Nat.zero_add];by_cases hq : q = i
 . subst hq;have e : zo zn (l.set q { l.getD q default with tm:=t }) q j = zn.cell { l.getD q default with tm:=t } j:=congrArg (λz=>zn.cell z j) (by rw [List.getD_eq_getElem?_getD,List.getElem?_set,if_pos rfl,if_pos hi];rfl);rw [e];refine ZU (QW _) ?_;iterate 11 (rcases j with _ | j;· first | exact zC rfl | exact zS rfl | exact (zn.sh _ 1 (by decide)).le)
   exact absurd hj (by omega)
 . have e : zo zn (l.set i { l.getD i default with tm:=t }) q j = zo zn l q j:=congrArg (λz=>zn.cell z j) (by simp only [List.getD_eq_getElem?_getD];rw [List.getElem?_set,if_neg (Ne.symm hq)]);rw [e,zq hq];exact (zn.sh _ j hj).le
theorem zw {H : Hp} {L : List Sed} {a k d : Nat} {s : Sed} {b : Bool} {R : List Sed × Bool × Int} (hR : R = (L.set a s,b,0)) (ha : a < L.length) {f : Nat -> Nat -> CV} (hk : zU H k = some ⟨78,L.length,3,false,f⟩) (hne : ∀ p,p ≠ a -> ∀ j,f p j = zo ZF L p j)
 (h0 : f a 0 = .int .u64 s.id) (h1 : f a 1 = .int .i64 s.mn) (h2 : f a 2 = .os d 0 s.held.length) {e : Ent} (hd : zU H d = some e) (hdk : Nat.beq d k = false) (en : e.n = s.held.length) (ez : e.sz = 11)
 (hc : ∀ q,q < s.held.length -> ∀ j,j < 11 -> ZX ⟨H,[(0,some (ZL ZF 78 R.1))],[(0,some k)],1,true⟩ (e.f q j) (zo zn s.held q j)) :
 FinN (some R.1.length) (qE R) (ZL ZF 78 R.1) (.tup [.c (.os k 0 L.length),.c (.bool b),.c (.int .i64 0)]) H:=by
 subst hR;refine ⟨some k,ZW ⟨zD rfl (List.length_set).symm,zS rfl,zC rfl,trivial⟩,?_⟩;unfold WkE;simp only;rw [hk];refine ⟨rfl,(List.length_set).symm,rfl,rfl,λp hp j hj=>?_⟩;have hj : j < 3:=hj;refine row_set ha hj (λh=>hne p h j) λh=>?_;subst h;rcases j with _ | _ | _ | j
 . show ZX _ (f p 0) _;rw [h0];exact zC rfl
 . show ZX _ (f p 1) _;rw [h1];exact zC rfl
 . show ZX _ (f p 2) _;rw [h2];refine zy hd ?_ ez rfl (by omega) λq hq j hj=>?_
   . show (!(Nat.beq d k || false)) = true;rw [hdk];rfl
   . have e1 : 0 + q = q:=Nat.zero_add q;rw [e1];exact hc q hq j hj
 . omega
theorem zAP {s : Sed} {l : Int} (h : KpI s.held) : KpI (za s l).held:=by
 unfold za;split
 . exact h
 . exact ⟨Nat.le_trans (List.length_filter_le _ _) h.n,λx hx=>h.d x (List.mem_filter.1 hx).1⟩
theorem zAQ {s : Sed} {l : Int} {n : Nat} (h : s.held.length <= n) : (za s l).held.length <= n:=by
 unfold za;split
 . exact h
 . exact Nat.le_trans (List.length_filter_le _ _) h
structure HsI (s : Smy) (n : Int) : Prop where
 m : 0 <= s.mn /\ s.mn <= 1073741824
 n : 0 <= n /\ n <= 4611686018427387904
structure LkI (L : List Sed) (s : Smy) : Prop where
 n : L.length <= 9223372036854775807
 h : ∀ x ∈ L,x.held.length <= 9223372036854775807
 m : 0 <= s.mn /\ s.mn <= 1073741824
end Go.Proofs.Ytfaibcgakcmhcaa.AX
namespace Go.Proofs.Ytfaibcgakcmhcaa.AX
def zCw (mn : Int) : List Hel -> Int -> Int
 | [],b=>b
 | h :: t,b=>zCw mn t (bits .or .u32 b (Yk .u32 1 (h.num - mn)))
def zC5 (s : Sed) : Smy:=⟨s.id,s.mn,zCw s.mn s.held 0⟩
def Yu (L : List Sed) : List Smy:=if ZC L = true then L.map zC5 else []
end Go.Proofs.Ytfaibcgakcmhcaa.AX
namespace Go.Proofs.Ytfaibcgakcmhcaa.AX
open Go.RowKit
structure AcJ (L : List Sed) (a : Nat) (s : Sed) (now : Int) (c : Cas) (draw : Int) : Prop where
 lt : a < L.length
 n : L.length <= 9
 k : KpI s.held
 h : s.held.length <= 32
 num : 0 <= c.num /\ c.num < 1073741824
 d : c.data.length <= 64
 now : 0 <= now /\ now <= 1099511627776
 dr : ZM draw
theorem acc3_0 (g0 : Nat) (L : List Sed) (a : Nat) (sd : Sed) (now : Int) (c : Cas) (deaf : Bool) (draw : Int) (hI : AcJ L a sd now c draw) (R : List Sed × Bool × Int) (hR : R = (L.set a (if deaf = true then za sd (c.num + 1) else qM sd (ZR c now draw) (ZN c.num sd.held 0).1),!deaf,0)) (a3 : a = 0) :
 Sem Try.prog Try.f11.ntmps 0 (ZK 11 (Try.f11.body.getD Code.ret)) (SB L a sd now c deaf draw ()).fr (SB L a sd now c deaf draw ()).H (SB L a sd now c deaf draw ()).nx (qN T Try.f11.results.toList λx H _=>FinN (some R.1.length) (qE R) (ZL ZF 78 R.1) x H):=by
 obtain ⟨ha,hn,hk,hh,hnum,hd,hnow,hdr⟩:=hI;unfold SB;subst a3;have w1 : IntKind.i64.wrap (c.num + 1) = c.num + 1:=IntWalk.i64_in _ (by omega);have w2 : IntKind.i64.wrap (now + 20) = now + 20:=IntWalk.i64_in _ (by omega);cases deaf with
 | true=>
   refine zK (wd:=1024) (Q:=Zt (qX g0)) (by decide) zM (zb (zX g0)) zN ?_;repeat' (first | (simp only [w1]) | (apply And.intro<;>intro hc<;>(first | exact Bool.noConfusion hc | (exfalso;first | exact absurd rfl hc | omega) | (simp only [zg] at hc<;>first | exact absurd rfl hc | (exfalso;first | exact absurd rfl hc | omega) | skip) | skip)) | (refine And.intro ze ?_) | (apply And.intro) | (intro s hs;skip) | (refine Exists.intro _ (And.intro ⟨rfl,rfl,rfl⟩ ?_)))
   . exact rfl
   . conv=>whnf
     refine zw (s:=sd) (d:=2) (hR.trans ?_) ha rfl (λp h j=>zZ h) rfl rfl rfl rfl rfl rfl rfl λq hq j hj=>(zn.sh _ j hj).le;rw [if_pos rfl,show za sd (c.num + 1) = sd from if_pos hc];rfl
   . exact ⟨rfl,zl _⟩
   . exact Eq.mpr (congrArg KpI (zL zR _)) hk
   . conv=>whnf
     have q : sd.held.filter (Zj (some (c.num + 1))) = s:=(hs.trans (by rw [zL zR])).symm;clear hs;refine zw (s:=⟨sd.id,c.num + 1,s⟩) (d:=5141) (hR.trans ?_) ha rfl (λp h j=>(zq h).trans ((zq h).trans (zZ h))) rfl rfl rfl rfl rfl rfl rfl λq hq j hj=>(zn.sh _ j hj).le;rw [if_pos rfl,show za sd (c.num + 1) = ⟨sd.id,c.num + 1,s⟩ from (if_neg hc).trans (by rw [q])];rfl
 | false=>
   obtain ⟨⟨i,b⟩,hP⟩ : ∃ P,ZN c.num sd.held 0 = P:=⟨_,rfl⟩;have hle:=QE (id:=c.num) (L:=sd.held) (k:=0);rw [hP,Nat.zero_add] at hle;dsimp only at hle;obtain ⟨hle1,_,_⟩:=hle;have hR2 : R = (L.set 0 (qM sd (ZR c now draw) i),true,0):=by rw [hR,hP];rfl
   clear hR;have w3 : IntKind.i64.wrap ((i : Int) + 1) = ((i + 1 : Nat) : Int):=(IntWalk.i64_in _ (by omega)).trans (by omega);obtain ⟨tr,hT⟩ : ∃ r,zAB 2 3 2 now draw = r:=⟨_,rfl⟩;refine zK (wd:=1) (Q:=Zt (qX g0)) (by decide) zM (zb (zX g0)) zN ?_;repeat' (first | (simp only [w2]) | (apply And.intro<;>intro hc<;>(first | exact Bool.noConfusion hc | (exfalso;first | exact absurd rfl hc | omega) | (simp only [zg] at hc<;>first | exact absurd rfl hc | (exfalso;first | exact absurd rfl hc | omega) | skip) | skip)) | (refine And.intro ze ?_) | (apply And.intro) | (intro s hs;skip) | (refine Exists.intro _ (And.intro ⟨rfl,rfl,rfl⟩ ?_)))
   refine zK (wd:=1) (Q:=Zt (qX g0)) (by decide) zM (zb (zX g0)) zN ?_;repeat' (first | (simp only [w2]) | (apply And.intro<;>intro hc<;>(first | exact Bool.noConfusion hc | (exfalso;first | exact absurd rfl hc | omega) | (simp only [zg] at hc<;>first | exact absurd rfl hc | (exfalso;first | exact absurd rfl hc | omega) | skip) | skip)) | (refine And.intro ze ?_) | (apply And.intro) | (intro s hs;(have q : tr = s:=hT.symm.trans hs.symm;clear hs;subst q)) | (refine Exists.intro _ (And.intro ⟨rfl,rfl,rfl⟩ ?_)))
   refine zK (wd:=1) (Q:=Zt (qX g0)) (by decide) zM (zb (zX g0)) zN ?_;repeat' (first | (simp only [w2]) | (apply And.intro<;>intro hc<;>(first | exact Bool.noConfusion hc | (exfalso;first | exact absurd rfl hc | omega) | (simp only [zg] at hc<;>first | exact absurd rfl hc | (exfalso;first | exact absurd rfl hc | omega) | skip) | skip)) | (refine And.intro ze ?_) | (apply And.intro) | (intro s hs;skip) | (refine Exists.intro _ (And.intro ⟨rfl,rfl,rfl⟩ ?_)))
   refine zK (wd:=1) (Q:=Zt (qX g0)) (by decide) zM (zb (zX g0)) zN ?_;repeat' (first | (simp only [w2,w3]) | (apply And.intro<;>intro hc<;>(first | exact Bool.noConfusion hc | (exfalso;first | exact absurd rfl hc | omega) | (simp only [zg] at hc<;>first | exact absurd rfl hc | (exfalso;first | exact absurd rfl hc | omega) | skip) | skip)) | (refine And.intro ze ?_) | (apply And.intro) | (intro s hs;(have q:=qq hs (zL zR _) hP;clear hs;subst q)) | (refine Exists.intro _ (And.intro ⟨rfl,rfl,rfl⟩ ?_)))
   . exact λ_ _=>⟨rfl,zl _⟩
   . exact Eq.mpr (congrArg (λz : List Hel=>z.length <= 9223372036854775807) (zL zR _)) (by omega)
   refine zK (wd:=1) (Q:=Zt (qX g0)) (by decide) zM (zb (zX g0)) zN ?_;repeat' (first | (simp only [w2,w3]) | (apply And.intro<;>intro hc<;>(first | exact Bool.noConfusion hc | (exfalso;first | exact absurd rfl hc | omega) | (simp only [zg] at hc<;>first | exact absurd rfl hc | (exfalso;first | exact absurd rfl hc | omega) | skip) | skip)) | (refine And.intro ze ?_) | (apply And.intro) | (intro s hs;skip) | (refine Exists.intro _ (And.intro ⟨rfl,rfl,rfl⟩ ?_)))
   refine zK (wd:=1) (Q:=Zt (qX g0)) (by decide) zM (zb (zX g0)) zN ?_;repeat' (first | (simp only [w2,w3]) | (apply And.intro<;>intro hc<;>(first | exact Bool.noConfusion hc | (exfalso;first | exact absurd rfl hc | omega) | (simp only [zg] at hc<;>first | exact absurd rfl hc | (exfalso;first | exact absurd rfl hc | omega) | skip) | skip)) | (refine And.intro ze ?_) | (apply And.intro) | (intro s hs;skip) | (refine Exists.intro _ (And.intro ⟨rfl,rfl,rfl⟩ ?_)))
   refine QP (wd:=1) (Q:=Zt (qX g0)) (by decide) zM (zb (zX g0)) zN ?_;repeat' (first | (simp only [w2,w3]) | (apply And.intro<;>intro hc<;>(first | exact Bool.noConfusion hc | (exfalso;first | exact absurd rfl hc | omega) | (simp only [zg] at hc<;>first | exact absurd rfl hc | (exfalso;first | exact absurd rfl hc | omega) | skip) | skip)) | (refine And.intro ze ?_) | (apply And.intro) | (intro s hs;skip) | (refine Exists.intro _ (And.intro ⟨rfl,rfl,rfl⟩ ?_)))
   conv=>whnf
   have hAl : (qM sd (ZR c now draw) i).held.length = sd.held.length + 1:=qf hle1;refine zw (s:=qM sd (ZR c now draw) i) (d:=44) hR2 ha rfl (λp h j=>(zq h).trans (zZ h)) rfl rfl (by rw [hAl];rfl) rfl rfl hAl.symm rfl λq hq j hj=>?_;rw [hAl] at hq;show ZX _ _ (zo zn (Zh i (ZR c now draw) sd.held) q j);refine Qy (r:=zo zn sd.held) hle1 ?_ hq (λh=>?_) (λh=>?_) (λh=>?_)
   . show min (sd.held.length + 1 - i) (sd.held.length + 1 - (i + 1)) = _;omega
   . rw [show zo zn (Zh i (ZR c now draw) sd.held) q j = zo zn sd.held q j from congrArg (λz=>zn.cell z j) (YZ hle1 h)];exact (zn.sh _ j hj).le
   . subst h;rw [show zo zn (Zh q (ZR c now draw) sd.held) q j = zn.cell (ZR c now draw) j from congrArg (λz=>zn.cell z j) (QF hle1)];have e0 : ZR c now draw = ⟨c.num,c.data,tr.1,if 1099511627776 < now + 20 then 1099511627776 else now + 20⟩:=by unfold ZR;rw [hT]
     rw [e0];iterate 11 (rcases j with _ | j;· first | exact zC rfl | exact zS rfl | exact zy rfl rfl rfl (by first | rfl | exact Nat.zero_add _) (by first | exact Nat.le_refl _ | (simp;done)) λq hq j hj=>YE (E:=eB) (congrArg (λz=>c.data.getD z default) (Nat.zero_add q)))
     exact absurd hj (by omega)
   . rw [show zo zn (Zh i (ZR c now draw) sd.held) q j = zo zn sd.held (q - 1) j from congrArg (λz=>zn.cell z j) (Ya hle1 h)];exact (zn.sh _ j hj).le
theorem acc3_1 (g0 : Nat) (L : List Sed) (a : Nat) (sd : Sed) (now : Int) (c : Cas) (deaf : Bool) (draw : Int) (hI : AcJ L a sd now c draw) (R : List Sed × Bool × Int) (hR : R = (L.set a (if deaf = true then za sd (c.num + 1) else qM sd (ZR c now draw) (ZN c.num sd.held 0).1),!deaf,0)) (a3 : a = 1) :
 Sem Try.prog Try.f11.ntmps 0 (ZK 11 (Try.f11.body.getD Code.ret)) (SB L a sd now c deaf draw ()).fr (SB L a sd now c deaf draw ()).H (SB L a sd now c deaf draw ()).nx (qN T Try.f11.results.toList λx H _=>FinN (some R.1.length) (qE R) (ZL ZF 78 R.1) x H):=by
 obtain ⟨ha,hn,hk,hh,hnum,hd,hnow,hdr⟩:=hI;unfold SB;subst a3;have w1 : IntKind.i64.wrap (c.num + 1) = c.num + 1:=IntWalk.i64_in _ (by omega);have w2 : IntKind.i64.wrap (now + 20) = now + 20:=IntWalk.i64_in _ (by omega);cases deaf with
 | true=>
   refine zK (wd:=1024) (Q:=Zt (qX g0)) (by decide) zM (zb (zX g0)) zN ?_;repeat' (first | (simp only [w1]) | (apply And.intro<;>intro hc<;>(first | exact Bool.noConfusion hc | (exfalso;first | exact absurd rfl hc | omega) | (simp only [zg] at hc<;>first | exact absurd rfl hc | (exfalso;first | exact absurd rfl hc | omega) | skip) | skip)) | (refine And.intro ze ?_) | (apply And.intro) | (intro s hs;skip) | (refine Exists.intro _ (And.intro ⟨rfl,rfl,rfl⟩ ?_)))
   . exact rfl
   . conv=>whnf
     refine zw (s:=sd) (d:=2) (hR.trans ?_) ha rfl (λp h j=>zZ h) rfl rfl rfl rfl rfl rfl rfl λq hq j hj=>(zn.sh _ j hj).le;rw [if_pos rfl,show za sd (c.num + 1) = sd from if_pos hc];rfl
   . exact ⟨rfl,zl _⟩
   . exact Eq.mpr (congrArg KpI (zL zR _)) hk
   . conv=>whnf
     have q : sd.held.filter (Zj (some (c.num + 1))) = s:=(hs.trans (by rw [zL zR])).symm;clear hs;refine zw (s:=⟨sd.id,c.num + 1,s⟩) (d:=5141) (hR.trans ?_) ha rfl (λp h j=>(zq h).trans ((zq h).trans (zZ h))) rfl rfl rfl rfl rfl rfl rfl λq hq j hj=>(zn.sh _ j hj).le;rw [if_pos rfl,show za sd (c.num + 1) = ⟨sd.id,c.num + 1,s⟩ from (if_neg hc).trans (by rw [q])];rfl
 | false=>
   obtain ⟨⟨i,b⟩,hP⟩ : ∃ P,ZN c.num sd.held 0 = P:=⟨_,rfl⟩;have hle:=QE (id:=c.num) (L:=sd.held) (k:=0);rw [hP,Nat.zero_add] at hle;dsimp only at hle;obtain ⟨hle1,_,_⟩:=hle;have hR2 : R = (L.set 1 (qM sd (ZR c now draw) i),true,0):=by rw [hR,hP];rfl
   clear hR;have w3 : IntKind.i64.wrap ((i : Int) + 1) = ((i + 1 : Nat) : Int):=(IntWalk.i64_in _ (by omega)).trans (by omega);obtain ⟨tr,hT⟩ : ∃ r,zAB 2 3 2 now draw = r:=⟨_,rfl⟩;refine zK (wd:=1) (Q:=Zt (qX g0)) (by decide) zM (zb (zX g0)) zN ?_;repeat' (first | (simp only [w2]) | (apply And.intro<;>intro hc<;>(first | exact Bool.noConfusion hc | (exfalso;first | exact absurd rfl hc | omega) | (simp only [zg] at hc<;>first | exact absurd rfl hc | (exfalso;first | exact absurd rfl hc | omega) | skip) | skip)) | (refine And.intro ze ?_) | (apply And.intro) | (intro s hs;skip) | (refine Exists.intro _ (And.intro ⟨rfl,rfl,rfl⟩ ?_)))
   refine zK (wd:=1) (Q:=Zt (qX g0)) (by decide) zM (zb (zX g0)) zN ?_;repeat' (first | (simp only [w2]) | (apply And.intro<;>intro hc<;>(first | exact Bool.noConfusion hc | (exfalso;first | exact absurd rfl hc | omega) | (simp only [zg] at hc<;>first | exact absurd rfl hc | (exfalso;first | exact absurd rfl hc | omega) | skip) | skip)) | (refine And.intro ze ?_) | (apply And.intro) | (intro s hs;(have q : tr = s:=hT.symm.trans hs.symm;clear hs;subst q)) | (refine Exists.intro _ (And.intro ⟨rfl,rfl,rfl⟩ ?_)))
   refine zK (wd:=1) (Q:=Zt (qX g0)) (by decide) zM (zb (zX g0)) zN ?_;repeat' (first | (simp only [w2]) | (apply And.intro<;>intro hc<;>(first | exact Bool.noConfusion hc | (exfalso;first | exact absurd rfl hc | omega) | (simp only [zg] at hc<;>first | exact absurd rfl hc | (exfalso;first | exact absurd rfl hc | omega) | skip) | skip)) | (refine And.intro ze ?_) | (apply And.intro) | (intro s hs;skip) | (refine Exists.intro _ (And.intro ⟨rfl,rfl,rfl⟩ ?_)))
   refine zK (wd:=1) (Q:=Zt (qX g0)) (by decide) zM (zb (zX g0)) zN ?_;repeat' (first | (simp only [w2,w3]) | (apply And.intro<;>intro hc<;>(first | exact Bool.noConfusion hc | (exfalso;first | exact absurd rfl hc | omega) | (simp only [zg] at hc<;>first | exact absurd rfl hc | (exfalso;first | exact absurd rfl hc | omega) | skip) | skip)) | (refine And.intro ze ?_) | (apply And.intro) | (intro s hs;(have q:=qq hs (zL zR _) hP;clear hs;subst q)) | (refine Exists.intro _ (And.intro ⟨rfl,rfl,rfl⟩ ?_)))
   . exact λ_ _=>⟨rfl,zl _⟩
   . exact Eq.mpr (congrArg (λz : List Hel=>z.length <= 9223372036854775807) (zL zR _)) (by omega)
   refine zK (wd:=1) (Q:=Zt (qX g0)) (by decide) zM (zb (zX g0)) zN ?_;repeat' (first | (simp only [w2,w3]) | (apply And.intro<;>intro hc<;>(first | exact Bool.noConfusion hc | (exfalso;first | exact absurd rfl hc | omega) | (simp only [zg] at hc<;>first | exact absurd rfl hc | (exfalso;first | exact absurd rfl hc | omega) | skip) | skip)) | (refine And.intro ze ?_) | (apply And.intro) | (intro s hs;skip) | (refine Exists.intro _ (And.intro ⟨rfl,rfl,rfl⟩ ?_)))
   refine zK (wd:=1) (Q:=Zt (qX g0)) (by decide) zM (zb (zX g0)) zN ?_;repeat' (first | (simp only [w2,w3]) | (apply And.intro<;>intro hc<;>(first | exact Bool.noConfusion hc | (exfalso;first | exact absurd rfl hc | omega) | (simp only [zg] at hc<;>first | exact absurd rfl hc | (exfalso;first | exact absurd rfl hc | omega) | skip) | skip)) | (refine And.intro ze ?_) | (apply And.intro) | (intro s hs;skip) | (refine Exists.intro _ (And.intro ⟨rfl,rfl,rfl⟩ ?_)))
   refine QP (wd:=1) (Q:=Zt (qX g0)) (by decide) zM (zb (zX g0)) zN ?_;repeat' (first | (simp only [w2,w3]) | (apply And.intro<;>intro hc<;>(first | exact Bool.noConfusion hc | (exfalso;first | exact absurd rfl hc | omega) | (simp only [zg] at hc<;>first | exact absurd rfl hc | (exfalso;first | exact absurd rfl hc | omega) | skip) | skip)) | (refine And.intro ze ?_) | (apply And.intro) | (intro s hs;skip) | (refine Exists.intro _ (And.intro ⟨rfl,rfl,rfl⟩ ?_)))
   conv=>whnf
   have hAl : (qM sd (ZR c now draw) i).held.length = sd.held.length + 1:=qf hle1;refine zw (s:=qM sd (ZR c now draw) i) (d:=44) hR2 ha rfl (λp h j=>(zq h).trans (zZ h)) rfl rfl (by rw [hAl];rfl) rfl rfl hAl.symm rfl λq hq j hj=>?_;rw [hAl] at hq;show ZX _ _ (zo zn (Zh i (ZR c now draw) sd.held) q j);refine Qy (r:=zo zn sd.held) hle1 ?_ hq (λh=>?_) (λh=>?_) (λh=>?_)
   . show min (sd.held.length + 1 - i) (sd.held.length + 1 - (i + 1)) = _;omega
   . rw [show zo zn (Zh i (ZR c now draw) sd.held) q j = zo zn sd.held q j from congrArg (λz=>zn.cell z j) (YZ hle1 h)];exact (zn.sh _ j hj).le
   . subst h;rw [show zo zn (Zh q (ZR c now draw) sd.held) q j = zn.cell (ZR c now draw) j from congrArg (λz=>zn.cell z j) (QF hle1)];have e0 : ZR c now draw = ⟨c.num,c.data,tr.1,if 1099511627776 < now + 20 then 1099511627776 else now + 20⟩:=by unfold ZR;rw [hT]
     rw [e0];iterate 11 (rcases j with _ | j;· first | exact zC rfl | exact zS rfl | exact zy rfl rfl rfl (by first | rfl | exact Nat.zero_add _) (by first | exact Nat.le_refl _ | (simp;done)) λq hq j hj=>YE (E:=eB) (congrArg (λz=>c.data.getD z default) (Nat.zero_add q)))
     exact absurd hj (by omega)
   . rw [show zo zn (Zh i (ZR c now draw) sd.held) q j = zo zn sd.held (q - 1) j from congrArg (λz=>zn.cell z j) (Ya hle1 h)];exact (zn.sh _ j hj).le
theorem acc3_2 (g0 : Nat) (L : List Sed) (a : Nat) (sd : Sed) (now : Int) (c : Cas) (deaf : Bool) (draw : Int) (hI : AcJ L a sd now c draw) (R : List Sed × Bool × Int) (hR : R = (L.set a (if deaf = true then za sd (c.num + 1) else qM sd (ZR c now draw) (ZN c.num sd.held 0).1),!deaf,0)) (a3 : a = 2) :
 Sem Try.prog Try.f11.ntmps 0 (ZK 11 (Try.f11.body.getD Code.ret)) (SB L a sd now c deaf draw ()).fr (SB L a sd now c deaf draw ()).H (SB L a sd now c deaf draw ()).nx (qN T Try.f11.results.toList λx H _=>FinN (some R.1.length) (qE R) (ZL ZF 78 R.1) x H):=by
 obtain ⟨ha,hn,hk,hh,hnum,hd,hnow,hdr⟩:=hI;unfold SB;subst a3;have w1 : IntKind.i64.wrap (c.num + 1) = c.num + 1:=IntWalk.i64_in _ (by omega);have w2 : IntKind.i64.wrap (now + 20) = now + 20:=IntWalk.i64_in _ (by omega);cases deaf with
 | true=>
   refine zK (wd:=1024) (Q:=Zt (qX g0)) (by decide) zM (zb (zX g0)) zN ?_;repeat' (first | (simp only [w1]) | (apply And.intro<;>intro hc<;>(first | exact Bool.noConfusion hc | (exfalso;first | exact absurd rfl hc | omega) | (simp only [zg] at hc<;>first | exact absurd rfl hc | (exfalso;first | exact absurd rfl hc | omega) | skip) | skip)) | (refine And.intro ze ?_) | (apply And.intro) | (intro s hs;skip) | (refine Exists.intro _ (And.intro ⟨rfl,rfl,rfl⟩ ?_)))
   . exact rfl
   . conv=>whnf
     refine zw (s:=sd) (d:=2) (hR.trans ?_) ha rfl (λp h j=>zZ h) rfl rfl rfl rfl rfl rfl rfl λq hq j hj=>(zn.sh _ j hj).le;rw [if_pos rfl,show za sd (c.num + 1) = sd from if_pos hc];rfl
   . exact ⟨rfl,zl _⟩
   . exact Eq.mpr (congrArg KpI (zL zR _)) hk
   . conv=>whnf
     have q : sd.held.filter (Zj (some (c.num + 1))) = s:=(hs.trans (by rw [zL zR])).symm;clear hs;refine zw (s:=⟨sd.id,c.num + 1,s⟩) (d:=5141) (hR.trans ?_) ha rfl (λp h j=>(zq h).trans ((zq h).trans (zZ h))) rfl rfl rfl rfl rfl rfl rfl λq hq j hj=>(zn.sh _ j hj).le;rw [if_pos rfl,show za sd (c.num + 1) = ⟨sd.id,c.num + 1,s⟩ from (if_neg hc).trans (by rw [q])];rfl
 | false=>
   obtain ⟨⟨i,b⟩,hP⟩ : ∃ P,ZN c.num sd.held 0 = P:=⟨_,rfl⟩;have hle:=QE (id:=c.num) (L:=sd.held) (k:=0);rw [hP,Nat.zero_add] at hle;dsimp only at hle;obtain ⟨hle1,_,_⟩:=hle;have hR2 : R = (L.set 2 (qM sd (ZR c now draw) i),true,0):=by rw [hR,hP];rfl
   clear hR;have w3 : IntKind.i64.wrap ((i : Int) + 1) = ((i + 1 : Nat) : Int):=(IntWalk.i64_in _ (by omega)).trans (by omega);obtain ⟨tr,hT⟩ : ∃ r,zAB 2 3 2 now draw = r:=⟨_,rfl⟩;refine zK (wd:=1) (Q:=Zt (qX g0)) (by decide) zM (zb (zX g0)) zN ?_;repeat' (first | (simp only [w2]) | (apply And.intro<;>intro hc<;>(first | exact Bool.noConfusion hc | (exfalso;first | exact absurd rfl hc | omega) | (simp only [zg] at hc<;>first | exact absurd rfl hc | (exfalso;first | exact absurd rfl hc | omega) | skip) | skip)) | (refine And.intro ze ?_) | (apply And.intro) | (intro s hs;skip) | (refine Exists.intro _ (And.intro ⟨rfl,rfl,rfl⟩ ?_)))
   refine zK (wd:=1) (Q:=Zt (qX g0)) (by decide) zM (zb (zX g0)) zN ?_;repeat' (first | (simp only [w2]) | (apply And.intro<;>intro hc<;>(first | exact Bool.noConfusion hc | (exfalso;first | exact absurd rfl hc | omega) | (simp only [zg] at hc<;>first | exact absurd rfl hc | (exfalso;first | exact absurd rfl hc | omega) | skip) | skip)) | (refine And.intro ze ?_) | (apply And.intro) | (intro s hs;(have q : tr = s:=hT.symm.trans hs.symm;clear hs;subst q)) | (refine Exists.intro _ (And.intro ⟨rfl,rfl,rfl⟩ ?_)))
   refine zK (wd:=1) (Q:=Zt (qX g0)) (by decide) zM (zb (zX g0)) zN ?_;repeat' (first | (simp only [w2]) | (apply And.intro<;>intro hc<;>(first | exact Bool.noConfusion hc | (exfalso;first | exact absurd rfl hc | omega) | (simp only [zg] at hc<;>first | exact absurd rfl hc | (exfalso;first | exact absurd rfl hc | omega) | skip) | skip)) | (refine And.intro ze ?_) | (apply And.intro) | (intro s hs;skip) | (refine Exists.intro _ (And.intro ⟨rfl,rfl,rfl⟩ ?_)))
   refine zK (wd:=1) (Q:=Zt (qX g0)) (by decide) zM (zb (zX g0)) zN ?_;repeat' (first | (simp only [w2,w3]) | (apply And.intro<;>intro hc<;>(first | exact Bool.noConfusion hc | (exfalso;first | exact absurd rfl hc | omega) | (simp only [zg] at hc<;>first | exact absurd rfl hc | (exfalso;first | exact absurd rfl hc | omega) | skip) | skip)) | (refine And.intro ze ?_) | (apply And.intro) | (intro s hs;(have q:=qq hs (zL zR _) hP;clear hs;subst q)) | (refine Exists.intro _ (And.intro ⟨rfl,rfl,rfl⟩ ?_)))
   . exact λ_ _=>⟨rfl,zl _⟩
   . exact Eq.mpr (congrArg (λz : List Hel=>z.length <= 9223372036854775807) (zL zR _)) (by omega)
   refine zK (wd:=1) (Q:=Zt (qX g0)) (by decide) zM (zb (zX g0)) zN ?_;repeat' (first | (simp only [w2,w3]) | (apply And.intro<;>intro hc<;>(first | exact Bool.noConfusion hc | (exfalso;first | exact absurd rfl hc | omega) | (simp only [zg] at hc<;>first | exact absurd rfl hc | (exfalso;first | exact absurd rfl hc | omega) | skip) | skip)) | (refine And.intro ze ?_) | (apply And.intro) | (intro s hs;skip) | (refine Exists.intro _ (And.intro ⟨rfl,rfl,rfl⟩ ?_)))
   refine zK (wd:=1) (Q:=Zt (qX g0)) (by decide) zM (zb (zX g0)) zN ?_;repeat' (first | (simp only [w2,w3]) | (apply And.intro<;>intro hc<;>(first | exact Bool.noConfusion hc | (exfalso;first | exact absurd rfl hc | omega) | (simp only [zg] at hc<;>first | exact absurd rfl hc | (exfalso;first | exact absurd rfl hc | omega) | skip) | skip)) | (refine And.intro ze ?_) | (apply And.intro) | (intro s hs;skip) | (refine Exists.intro _ (And.intro ⟨rfl,rfl,rfl⟩ ?_)))
   refine QP (wd:=1) (Q:=Zt (qX g0)) (by decide) zM (zb (zX g0)) zN ?_;repeat' (first | (simp only [w2,w3]) | (apply And.intro<;>intro hc<;>(first | exact Bool.noConfusion hc | (exfalso;first | exact absurd rfl hc | omega) | (simp only [zg] at hc<;>first | exact absurd rfl hc | (exfalso;first | exact absurd rfl hc | omega) | skip) | skip)) | (refine And.intro ze ?_) | (apply And.intro) | (intro s hs;skip) | (refine Exists.intro _ (And.intro ⟨rfl,rfl,rfl⟩ ?_)))
   conv=>whnf
   have hAl : (qM sd (ZR c now draw) i).held.length = sd.held.length + 1:=qf hle1;refine zw (s:=qM sd (ZR c now draw) i) (d:=44) hR2 ha rfl (λp h j=>(zq h).trans (zZ h)) rfl rfl (by rw [hAl];rfl) rfl rfl hAl.symm rfl λq hq j hj=>?_;rw [hAl] at hq;show ZX _ _ (zo zn (Zh i (ZR c now draw) sd.held) q j);refine Qy (r:=zo zn sd.held) hle1 ?_ hq (λh=>?_) (λh=>?_) (λh=>?_)
   . show min (sd.held.length + 1 - i) (sd.held.length + 1 - (i + 1)) = _;omega
   . rw [show zo zn (Zh i (ZR c now draw) sd.held) q j = zo zn sd.held q j from congrArg (λz=>zn.cell z j) (YZ hle1 h)];exact (zn.sh _ j hj).le
   . subst h;rw [show zo zn (Zh q (ZR c now draw) sd.held) q j = zn.cell (ZR c now draw) j from congrArg (λz=>zn.cell z j) (QF hle1)];have e0 : ZR c now draw = ⟨c.num,c.data,tr.1,if 1099511627776 < now + 20 then 1099511627776 else now + 20⟩:=by unfold ZR;rw [hT]
     rw [e0];iterate 11 (rcases j with _ | j;· first | exact zC rfl | exact zS rfl | exact zy rfl rfl rfl (by first | rfl | exact Nat.zero_add _) (by first | exact Nat.le_refl _ | (simp;done)) λq hq j hj=>YE (E:=eB) (congrArg (λz=>c.data.getD z default) (Nat.zero_add q)))
     exact absurd hj (by omega)
   . rw [show zo zn (Zh i (ZR c now draw) sd.held) q j = zo zn sd.held (q - 1) j from congrArg (λz=>zn.cell z j) (Ya hle1 h)];exact (zn.sh _ j hj).le
theorem acc3_3 (g0 : Nat) (L : List Sed) (a : Nat) (sd : Sed) (now : Int) (c : Cas) (deaf : Bool) (draw : Int) (hI : AcJ L a sd now c draw) (R : List Sed × Bool × Int) (hR : R = (L.set a (if deaf = true then za sd (c.num + 1) else qM sd (ZR c now draw) (ZN c.num sd.held 0).1),!deaf,0)) (a3 : a = 3) :
 Sem Try.prog Try.f11.ntmps 0 (ZK 11 (Try.f11.body.getD Code.ret)) (SB L a sd now c deaf draw ()).fr (SB L a sd now c deaf draw ()).H (SB L a sd now c deaf draw ()).nx (qN T Try.f11.results.toList λx H _=>FinN (some R.1.length) (qE R) (ZL ZF 78 R.1) x H):=by
 obtain ⟨ha,hn,hk,hh,hnum,hd,hnow,hdr⟩:=hI;unfold SB;subst a3;have w1 : IntKind.i64.wrap (c.num + 1) = c.num + 1:=IntWalk.i64_in _ (by omega);have w2 : IntKind.i64.wrap (now + 20) = now + 20:=IntWalk.i64_in _ (by omega);cases deaf with
 | true=>
   refine zK (wd:=1024) (Q:=Zt (qX g0)) (by decide) zM (zb (zX g0)) zN ?_;repeat' (first | (simp only [w1]) | (apply And.intro<;>intro hc<;>(first | exact Bool.noConfusion hc | (exfalso;first | exact absurd rfl hc | omega) | (simp only [zg] at hc<;>first | exact absurd rfl hc | (exfalso;first | exact absurd rfl hc | omega) | skip) | skip)) | (refine And.intro ze ?_) | (apply And.intro) | (intro s hs;skip) | (refine Exists.intro _ (And.intro ⟨rfl,rfl,rfl⟩ ?_)))
   . exact rfl
   . conv=>whnf
     refine zw (s:=sd) (d:=2) (hR.trans ?_) ha rfl (λp h j=>zZ h) rfl rfl rfl rfl rfl rfl rfl λq hq j hj=>(zn.sh _ j hj).le;rw [if_pos rfl,show za sd (c.num + 1) = sd from if_pos hc];rfl
   . exact ⟨rfl,zl _⟩
   . exact Eq.mpr (congrArg KpI (zL zR _)) hk
   . conv=>whnf
     have q : sd.held.filter (Zj (some (c.num + 1))) = s:=(hs.trans (by rw [zL zR])).symm;clear hs;refine zw (s:=⟨sd.id,c.num + 1,s⟩) (d:=5141) (hR.trans ?_) ha rfl (λp h j=>(zq h).trans ((zq h).trans (zZ h))) rfl rfl rfl rfl rfl rfl rfl λq hq j hj=>(zn.sh _ j hj).le;rw [if_pos rfl,show za sd (c.num + 1) = ⟨sd.id,c.num + 1,s⟩ from (if_neg hc).trans (by rw [q])];rfl
 | false=>
   obtain ⟨⟨i,b⟩,hP⟩ : ∃ P,ZN c.num sd.held 0 = P:=⟨_,rfl⟩;have hle:=QE (id:=c.num) (L:=sd.held) (k:=0);rw [hP,Nat.zero_add] at hle;dsimp only at hle;obtain ⟨hle1,_,_⟩:=hle;have hR2 : R = (L.set 3 (qM sd (ZR c now draw) i),true,0):=by rw [hR,hP];rfl
   clear hR;have w3 : IntKind.i64.wrap ((i : Int) + 1) = ((i + 1 : Nat) : Int):=(IntWalk.i64_in _ (by omega)).trans (by omega);obtain ⟨tr,hT⟩ : ∃ r,zAB 2 3 2 now draw = r:=⟨_,rfl⟩;refine zK (wd:=1) (Q:=Zt (qX g0)) (by decide) zM (zb (zX g0)) zN ?_;repeat' (first | (simp only [w2]) | (apply And.intro<;>intro hc<;>(first | exact Bool.noConfusion hc | (exfalso;first | exact absurd rfl hc | omega) | (simp only [zg] at hc<;>first | exact absurd rfl hc | (exfalso;first | exact absurd rfl hc | omega) | skip) | skip)) | (refine And.intro ze ?_) | (apply And.intro) | (intro s hs;skip) | (refine Exists.intro _ (And.intro ⟨rfl,rfl,rfl⟩ ?_)))
   refine zK (wd:=1) (Q:=Zt (qX g0)) (by decide) zM (zb (zX g0)) zN ?_;repeat' (first | (simp only [w2]) | (apply And.intro<;>intro hc<;>(first | exact Bool.noConfusion hc | (exfalso;first | exact absurd rfl hc | omega) | (simp only [zg] at hc<;>first | exact absurd rfl hc | (exfalso;first | exact absurd rfl hc | omega) | skip) | skip)) | (refine And.intro ze ?_) | (apply And.intro) | (intro s hs;(have q : tr = s:=hT.symm.trans hs.symm;clear hs;subst q)) | (refine Exists.intro _ (And.intro ⟨rfl,rfl,rfl⟩ ?_)))
   refine zK (wd:=1) (Q:=Zt (qX g0)) (by decide) zM (zb (zX g0)) zN ?_;repeat' (first | (simp only [w2]) | (apply And.intro<;>intro hc<;>(first | exact Bool.noConfusion hc | (exfalso;first | exact absurd rfl hc | omega) | (simp only [zg] at hc<;>first | exact absurd rfl hc | (exfalso;first | exact absurd rfl hc | omega) | skip) | skip)) | (refine And.intro ze ?_) | (apply And.intro) | (intro s hs;skip) | (refine Exists.intro _ (And.intro ⟨rfl,rfl,rfl⟩ ?_)))
   refine zK (wd:=1) (Q:=Zt (qX g0)) (by decide) zM (zb (zX g0)) zN ?_;repeat' (first | (simp only [w2,w3]) | (apply And.intro<;>intro hc<;>(first | exact Bool.noConfusion hc | (exfalso;first | exact absurd rfl hc | omega) | (simp only [zg] at hc<;>first | exact absurd rfl hc | (exfalso;first | exact absurd rfl hc | omega) | skip) | skip)) | (refine And.intro ze ?_) | (apply And.intro) | (intro s hs;(have q:=qq hs (zL zR _) hP;clear hs;subst q)) | (refine Exists.intro _ (And.intro ⟨rfl,rfl,rfl⟩ ?_)))
   . exact λ_ _=>⟨rfl,zl _⟩
   . exact Eq.mpr (congrArg (λz : List Hel=>z.length <= 9223372036854775807) (zL zR _)) (by omega)
   refine zK (wd:=1) (Q:=Zt (qX g0)) (by decide) zM (zb (zX g0)) zN ?_;repeat' (first | (simp only [w2,w3]) | (apply And.intro<;>intro hc<;>(first | exact Bool.noConfusion hc | (exfalso;first | exact absurd rfl hc | omega) | (simp only [zg] at hc<;>first | exact absurd rfl hc | (exfalso;first | exact absurd rfl hc | omega) | skip) | skip)) | (refine And.intro ze ?_) | (apply And.intro) | (intro s hs;skip) | (refine Exists.intro _ (And.intro ⟨rfl,rfl,rfl⟩ ?_)))
   refine zK (wd:=1) (Q:=Zt (qX g0)) (by decide) zM (zb (zX g0)) zN ?_;repeat' (first | (simp only [w2,w3]) | (apply And.intro<;>intro hc<;>(first | exact Bool.noConfusion hc | (exfalso;first | exact absurd rfl hc | omega) | (simp only [zg] at hc<;>first | exact absurd rfl hc | (exfalso;first | exact absurd rfl hc | omega) | skip) | skip)) | (refine And.intro ze ?_) | (apply And.intro) | (intro s hs;skip) | (refine Exists.intro _ (And.intro ⟨rfl,rfl,rfl⟩ ?_)))
   refine QP (wd:=1) (Q:=Zt (qX g0)) (by decide) zM (zb (zX g0)) zN ?_;repeat' (first | (simp only [w2,w3]) | (apply And.intro<;>intro hc<;>(first | exact Bool.noConfusion hc | (exfalso;first | exact absurd rfl hc | omega) | (simp only [zg] at hc<;>first | exact absurd rfl hc | (exfalso;first | exact absurd rfl hc | omega) | skip) | skip)) | (refine And.intro ze ?_) | (apply And.intro) | (intro s hs;skip) | (refine Exists.intro _ (And.intro ⟨rfl,rfl,rfl⟩ ?_)))
   conv=>whnf
   have hAl : (qM sd (ZR c now draw) i).held.length = sd.held.length + 1:=qf hle1;refine zw (s:=qM sd (ZR c now draw) i) (d:=44) hR2 ha rfl (λp h j=>(zq h).trans (zZ h)) rfl rfl (by rw [hAl];rfl) rfl rfl hAl.symm rfl λq hq j hj=>?_;rw [hAl] at hq;show ZX _ _ (zo zn (Zh i (ZR c now draw) sd.held) q j);refine Qy (r:=zo zn sd.held) hle1 ?_ hq (λh=>?_) (λh=>?_) (λh=>?_)
   . show min (sd.held.length + 1 - i) (sd.held.length + 1 - (i + 1)) = _;omega
   . rw [show zo zn (Zh i (ZR c now draw) sd.held) q j = zo zn sd.held q j from congrArg (λz=>zn.cell z j) (YZ hle1 h)];exact (zn.sh _ j hj).le
   . subst h;rw [show zo zn (Zh q (ZR c now draw) sd.held) q j = zn.cell (ZR c now draw) j from congrArg (λz=>zn.cell z j) (QF hle1)];have e0 : ZR c now draw = ⟨c.num,c.data,tr.1,if 1099511627776 < now + 20 then 1099511627776 else now + 20⟩:=by unfold ZR;rw [hT]
     rw [e0];iterate 11 (rcases j with _ | j;· first | exact zC rfl | exact zS rfl | exact zy rfl rfl rfl (by first | rfl | exact Nat.zero_add _) (by first | exact Nat.le_refl _ | (simp;done)) λq hq j hj=>YE (E:=eB) (congrArg (λz=>c.data.getD z default) (Nat.zero_add q)))
     exact absurd hj (by omega)
   . rw [show zo zn (Zh i (ZR c now draw) sd.held) q j = zo zn sd.held (q - 1) j from congrArg (λz=>zn.cell z j) (Ya hle1 h)];exact (zn.sh _ j hj).le
theorem acc3_4 (g0 : Nat) (L : List Sed) (a : Nat) (sd : Sed) (now : Int) (c : Cas) (deaf : Bool) (draw : Int) (hI : AcJ L a sd now c draw) (R : List Sed × Bool × Int) (hR : R = (L.set a (if deaf = true then za sd (c.num + 1) else qM sd (ZR c now draw) (ZN c.num sd.held 0).1),!deaf,0)) (a3 : a = 4) :
 Sem Try.prog Try.f11.ntmps 0 (ZK 11 (Try.f11.body.getD Code.ret)) (SB L a sd now c deaf draw ()).fr (SB L a sd now c deaf draw ()).H (SB L a sd now c deaf draw ()).nx (qN T Try.f11.results.toList λx H _=>FinN (some R.1.length) (qE R) (ZL ZF 78 R.1) x H):=by
 obtain ⟨ha,hn,hk,hh,hnum,hd,hnow,hdr⟩:=hI;unfold SB;subst a3;have w1 : IntKind.i64.wrap (c.num + 1) = c.num + 1:=IntWalk.i64_in _ (by omega);have w2 : IntKind.i64.wrap (now + 20) = now + 20:=IntWalk.i64_in _ (by omega);cases deaf with
 | true=>
   refine zK (wd:=1024) (Q:=Zt (qX g0)) (by decide) zM (zb (zX g0)) zN ?_;repeat' (first | (simp only [w1]) | (apply And.intro<;>intro hc<;>(first | exact Bool.noConfusion hc | (exfalso;first | exact absurd rfl hc | omega) | (simp only [zg] at hc<;>first | exact absurd rfl hc | (exfalso;first | exact absurd rfl hc | omega) | skip) | skip)) | (refine And.intro ze ?_) | (apply And.intro) | (intro s hs;skip) | (refine Exists.intro _ (And.intro ⟨rfl,rfl,rfl⟩ ?_)))
   . exact rfl
   . conv=>whnf
     refine zw (s:=sd) (d:=2) (hR.trans ?_) ha rfl (λp h j=>zZ h) rfl rfl rfl rfl rfl rfl rfl λq hq j hj=>(zn.sh _ j hj).le;rw [if_pos rfl,show za sd (c.num + 1) = sd from if_pos hc];rfl
   . exact ⟨rfl,zl _⟩
   . exact Eq.mpr (congrArg KpI (zL zR _)) hk
   . conv=>whnf
     have q : sd.held.filter (Zj (some (c.num + 1))) = s:=(hs.trans (by rw [zL zR])).symm;clear hs;refine zw (s:=⟨sd.id,c.num + 1,s⟩) (d:=5141) (hR.trans ?_) ha rfl (λp h j=>(zq h).trans ((zq h).trans (zZ h))) rfl rfl rfl rfl rfl rfl rfl λq hq j hj=>(zn.sh _ j hj).le;rw [if_pos rfl,show za sd (c.num + 1) = ⟨sd.id,c.num + 1,s⟩ from (if_neg hc).trans (by rw [q])];rfl
 | false=>
   obtain ⟨⟨i,b⟩,hP⟩ : ∃ P,ZN c.num sd.held 0 = P:=⟨_,rfl⟩;have hle:=QE (id:=c.num) (L:=sd.held) (k:=0);rw [hP,Nat.zero_add] at hle;dsimp only at hle;obtain ⟨hle1,_,_⟩:=hle;have hR2 : R = (L.set 4 (qM sd (ZR c now draw) i),true,0):=by rw [hR,hP];rfl
   clear hR;have w3 : IntKind.i64.wrap ((i : Int) + 1) = ((i + 1 : Nat) : Int):=(IntWalk.i64_in _ (by omega)).trans (by omega);obtain ⟨tr,hT⟩ : ∃ r,zAB 2 3 2 now draw = r:=⟨_,rfl⟩;refine zK (wd:=1) (Q:=Zt (qX g0)) (by decide) zM (zb (zX g0)) zN ?_;repeat' (first | (simp only [w2]) | (apply And.intro<;>intro hc<;>(first | exact Bool.noConfusion hc | (exfalso;first | exact absurd rfl hc | omega) | (simp only [zg] at hc<;>first | exact absurd rfl hc | (exfalso;first | exact absurd rfl hc | omega) | skip) | skip)) | (refine And.intro ze ?_) | (apply And.intro) | (intro s hs;skip) | (refine Exists.intro _ (And.intro ⟨rfl,rfl,rfl⟩ ?_)))
   refine zK (wd:=1) (Q:=Zt (qX g0)) (by decide) zM (zb (zX g0)) zN ?_;repeat' (first | (simp only [w2]) | (apply And.intro<;>intro hc<;>(first | exact Bool.noConfusion hc | (exfalso;first | exact absurd rfl hc | omega) | (simp only [zg] at hc<;>first | exact absurd rfl hc | (exfalso;first | exact absurd rfl hc | omega) | skip) | skip)) | (refine And.intro ze ?_) | (apply And.intro) | (intro s hs;(have q : tr = s:=hT.symm.trans hs.symm;clear hs;subst q)) | (refine Exists.intro _ (And.intro ⟨rfl,rfl,rfl⟩ ?_)))
   refine zK (wd:=1) (Q:=Zt (qX g0)) (by decide) zM (zb (zX g0)) zN ?_;repeat' (first | (simp only [w2]) | (apply And.intro<;>intro hc<;>(first | exact Bool.noConfusion hc | (exfalso;first | exact absurd rfl hc | omega) | (simp only [zg] at hc<;>first | exact absurd rfl hc | (exfalso;first | exact absurd rfl hc | omega) | skip) | skip)) | (refine And.intro ze ?_) | (apply And.intro) | (intro s hs;skip) | (refine Exists.intro _ (And.intro ⟨rfl,rfl,rfl⟩ ?_)))
   refine zK (wd:=1) (Q:=Zt (qX g0)) (by decide) zM (zb (zX g0)) zN ?_;repeat' (first | (simp only [w2,w3]) | (apply And.intro<;>intro hc<;>(first | exact Bool.noConfusion hc | (exfalso;first | exact absurd rfl hc | omega) | (simp only [zg] at hc<;>first | exact absurd rfl hc | (exfalso;first | exact absurd rfl hc | omega) | skip) | skip)) | (refine And.intro ze ?_) | (apply And.intro) | (intro s hs;(have q:=qq hs (zL zR _) hP;clear hs;subst q)) | (refine Exists.intro _ (And.intro ⟨rfl,rfl,rfl⟩ ?_)))
   . exact λ_ _=>⟨rfl,zl _⟩
   . exact Eq.mpr (congrArg (λz : List Hel=>z.length <= 9223372036854775807) (zL zR _)) (by omega)
   refine zK (wd:=1) (Q:=Zt (qX g0)) (by decide) zM (zb (zX g0)) zN ?_;repeat' (first | (simp only [w2,w3]) | (apply And.intro<;>intro hc<;>(first | exact Bool.noConfusion hc | (exfalso;first | exact absurd rfl hc | omega) | (simp only [zg] at hc<;>first | exact absurd rfl hc | (exfalso;first | exact absurd rfl hc | omega) | skip) | skip)) | (refine And.intro ze ?_) | (apply And.intro) | (intro s hs;skip) | (refine Exists.intro _ (And.intro ⟨rfl,rfl,rfl⟩ ?_)))
   refine zK (wd:=1) (Q:=Zt (qX g0)) (by decide) zM (zb (zX g0)) zN ?_;repeat' (first | (simp only [w2,w3]) | (apply And.intro<;>intro hc<;>(first | exact Bool.noConfusion hc | (exfalso;first | exact absurd rfl hc | omega) | (simp only [zg] at hc<;>first | exact absurd rfl hc | (exfalso;first | exact absurd rfl hc | omega) | skip) | skip)) | (refine And.intro ze ?_) | (apply And.intro) | (intro s hs;skip) | (refine Exists.intro _ (And.intro ⟨rfl,rfl,rfl⟩ ?_)))
   refine QP (wd:=1) (Q:=Zt (qX g0)) (by decide) zM (zb (zX g0)) zN ?_;repeat' (first | (simp only [w2,w3]) | (apply And.intro<;>intro hc<;>(first | exact Bool.noConfusion hc | (exfalso;first | exact absurd rfl hc | omega) | (simp only [zg] at hc<;>first | exact absurd rfl hc | (exfalso;first | exact absurd rfl hc | omega) | skip) | skip)) | (refine And.intro ze ?_) | (apply And.intro) | (intro s hs;skip) | (refine Exists.intro _ (And.intro ⟨rfl,rfl,rfl⟩ ?_)))
   conv=>whnf
   have hAl : (qM sd (ZR c now draw) i).held.length = sd.held.length + 1:=qf hle1;refine zw (s:=qM sd (ZR c now draw) i) (d:=44) hR2 ha rfl (λp h j=>(zq h).trans (zZ h)) rfl rfl (by rw [hAl];rfl) rfl rfl hAl.symm rfl λq hq j hj=>?_;rw [hAl] at hq;show ZX _ _ (zo zn (Zh i (ZR c now draw) sd.held) q j);refine Qy (r:=zo zn sd.held) hle1 ?_ hq (λh=>?_) (λh=>?_) (λh=>?_)
   . show min (sd.held.length + 1 - i) (sd.held.length + 1 - (i + 1)) = _;omega
   . rw [show zo zn (Zh i (ZR c now draw) sd.held) q j = zo zn sd.held q j from congrArg (λz=>zn.cell z j) (YZ hle1 h)];exact (zn.sh _ j hj).le
   . subst h;rw [show zo zn (Zh q (ZR c now draw) sd.held) q j = zn.cell (ZR c now draw) j from congrArg (λz=>zn.cell z j) (QF hle1)];have e0 : ZR c now draw = ⟨c.num,c.data,tr.1,if 1099511627776 < now + 20 then 1099511627776 else now + 20⟩:=by unfold ZR;rw [hT]
     rw [e0];iterate 11 (rcases j with _ | j;· first | exact zC rfl | exact zS rfl | exact zy rfl rfl rfl (by first | rfl | exact Nat.zero_add _) (by first | exact Nat.le_refl _ | (simp;done)) λq hq j hj=>YE (E:=eB) (congrArg (λz=>c.data.getD z default) (Nat.zero_add q)))
     exact absurd hj (by omega)
   . rw [show zo zn (Zh i (ZR c now draw) sd.held) q j = zo zn sd.held (q - 1) j from congrArg (λz=>zn.cell z j) (Ya hle1 h)];exact (zn.sh _ j hj).le
theorem acc3_5 (g0 : Nat) (L : List Sed) (a : Nat) (sd : Sed) (now : Int) (c : Cas) (deaf : Bool) (draw : Int) (hI : AcJ L a sd now c draw) (R : List Sed × Bool × Int) (hR : R = (L.set a (if deaf = true then za sd (c.num + 1) else qM sd (ZR c now draw) (ZN c.num sd.held 0).1),!deaf,0)) (a3 : a = 5) :
 Sem Try.prog Try.f11.ntmps 0 (ZK 11 (Try.f11.body.getD Code.ret)) (SB L a sd now c deaf draw ()).fr (SB L a sd now c deaf draw ()).H (SB L a sd now c deaf draw ()).nx (qN T Try.f11.results.toList λx H _=>FinN (some R.1.length) (qE R) (ZL ZF 78 R.1) x H):=by
 obtain ⟨ha,hn,hk,hh,hnum,hd,hnow,hdr⟩:=hI;unfold SB;subst a3;have w1 : IntKind.i64.wrap (c.num + 1) = c.num + 1:=IntWalk.i64_in _ (by omega);have w2 : IntKind.i64.wrap (now + 20) = now + 20:=IntWalk.i64_in _ (by omega);cases deaf with
 | true=>
   refine zK (wd:=1024) (Q:=Zt (qX g0)) (by decide) zM (zb (zX g0)) zN ?_;repeat' (first | (simp only [w1]) | (apply And.intro<;>intro hc<;>(first | exact Bool.noConfusion hc | (exfalso;first | exact absurd rfl hc | omega) | (simp only [zg] at hc<;>first | exact absurd rfl hc | (exfalso;first | exact absurd rfl hc | omega) | skip) | skip)) | (refine And.intro ze ?_) | (apply And.intro) | (intro s hs;skip) | (refine Exists.intro _ (And.intro ⟨rfl,rfl,rfl⟩ ?_)))
   . exact rfl
   . conv=>whnf
     refine zw (s:=sd) (d:=2) (hR.trans ?_) ha rfl (λp h j=>zZ h) rfl rfl rfl rfl rfl rfl rfl λq hq j hj=>(zn.sh _ j hj).le;rw [if_pos rfl,show za sd (c.num + 1) = sd from if_pos hc];rfl
   . exact ⟨rfl,zl _⟩
   . exact Eq.mpr (congrArg KpI (zL zR _)) hk
   . conv=>whnf
     have q : sd.held.filter (Zj (some (c.num + 1))) = s:=(hs.trans (by rw [zL zR])).symm;clear hs;refine zw (s:=⟨sd.id,c.num + 1,s⟩) (d:=5141) (hR.trans ?_) ha rfl (λp h j=>(zq h).trans ((zq h).trans (zZ h))) rfl rfl rfl rfl rfl rfl rfl λq hq j hj=>(zn.sh _ j hj).le;rw [if_pos rfl,show za sd (c.num + 1) = ⟨sd.id,c.num + 1,s⟩ from (if_neg hc).trans (by rw [q])];rfl
 | false=>
   obtain ⟨⟨i,b⟩,hP⟩ : ∃ P,ZN c.num sd.held 0 = P:=⟨_,rfl⟩;have hle:=QE (id:=c.num) (L:=sd.held) (k:=0);rw [hP,Nat.zero_add] at hle;dsimp only at hle;obtain ⟨hle1,_,_⟩:=hle;have hR2 : R = (L.set 5 (qM sd (ZR c now draw) i),true,0):=by rw [hR,hP];rfl
   clear hR;have w3 : IntKind.i64.wrap ((i : Int) + 1) = ((i + 1 : Nat) : Int):=(IntWalk.i64_in _ (by omega)).trans (by omega);obtain ⟨tr,hT⟩ : ∃ r,zAB 2 3 2 now draw = r:=⟨_,rfl⟩;refine zK (wd:=1) (Q:=Zt (qX g0)) (by decide) zM (zb (zX g0)) zN ?_;repeat' (first | (simp only [w2]) | (apply And.intro<;>intro hc<;>(first | exact Bool.noConfusion hc | (exfalso;first | exact absurd rfl hc | omega) | (simp only [zg] at hc<;>first | exact absurd rfl hc | (exfalso;first | exact absurd rfl hc | omega) | skip) | skip)) | (refine And.intro ze ?_) | (apply And.intro) | (intro s hs;skip) | (refine Exists.intro _ (And.intro ⟨rfl,rfl,rfl⟩ ?_)))
   refine zK (wd:=1) (Q:=Zt (qX g0)) (by decide) zM (zb (zX g0)) zN ?_;repeat' (first | (simp only [w2]) | (apply And.intro<;>intro hc<;>(first | exact Bool.noConfusion hc | (exfalso;first | exact absurd rfl hc | omega) | (simp only [zg] at hc<;>first | exact absurd rfl hc | (exfalso;first | exact absurd rfl hc | omega) | skip) | skip)) | (refine And.intro ze ?_) | (apply And.intro) | (intro s hs;(have q : tr = s:=hT.symm.trans hs.symm;clear hs;subst q)) | (refine Exists.intro _ (And.intro ⟨rfl,rfl,rfl⟩ ?_)))
   refine zK (wd:=1) (Q:=Zt (qX g0)) (by decide) zM (zb (zX g0)) zN ?_;repeat' (first | (simp only [w2]) | (apply And.intro<;>intro hc<;>(first | exact Bool.noConfusion hc | (exfalso;first | exact absurd rfl hc | omega) | (simp only [zg] at hc<;>first | exact absurd rfl hc | (exfalso;first | exact absurd rfl hc | omega) | skip) | skip)) | (refine And.intro ze ?_) | (apply And.intro) | (intro s hs;skip) | (refine Exists.intro _ (And.intro ⟨rfl,rfl,rfl⟩ ?_)))
   refine zK (wd:=1) (Q:=Zt (qX g0)) (by decide) zM (zb (zX g0)) zN ?_;repeat' (first | (simp only [w2,w3]) | (apply And.intro<;>intro hc<;>(first | exact Bool.noConfusion hc | (exfalso;first | exact absurd rfl hc | omega) | (simp only [zg] at hc<;>first | exact absurd rfl hc | (exfalso;first | exact absurd rfl hc | omega) | skip) | skip)) | (refine And.intro ze ?_) | (apply And.intro) | (intro s hs;(have q:=qq hs (zL zR _) hP;clear hs;subst q)) | (refine Exists.intro _ (And.intro ⟨rfl,rfl,rfl⟩ ?_)))
   . exact λ_ _=>⟨rfl,zl _⟩
   . exact Eq.mpr (congrArg (λz : List Hel=>z.length <= 9223372036854775807) (zL zR _)) (by omega)
   refine zK (wd:=1) (Q:=Zt (qX g0)) (by decide) zM (zb (zX g0)) zN ?_;repeat' (first | (simp only [w2,w3]) | (apply And.intro<;>intro hc<;>(first | exact Bool.noConfusion hc | (exfalso;first | exact absurd rfl hc | omega) | (simp only [zg] at hc<;>first | exact absurd rfl hc | (exfalso;first | exact absurd rfl hc | omega) | skip) | skip)) | (refine And.intro ze ?_) | (apply And.intro) | (intro s hs;skip) | (refine Exists.intro _ (And.intro ⟨rfl,rfl,rfl⟩ ?_)))
   refine zK (wd:=1) (Q:=Zt (qX g0)) (by decide) zM (zb (zX g0)) zN ?_;repeat' (first | (simp only [w2,w3]) | (apply And.intro<;>intro hc<;>(first | exact Bool.noConfusion hc | (exfalso;first | exact absurd rfl hc | omega) | (simp only [zg] at hc<;>first | exact absurd rfl hc | (exfalso;first | exact absurd rfl hc | omega) | skip) | skip)) | (refine And.intro ze ?_) | (apply And.intro) | (intro s hs;skip) | (refine Exists.intro _ (And.intro ⟨rfl,rfl,rfl⟩ ?_)))
   refine QP (wd:=1) (Q:=Zt (qX g0)) (by decide) zM (zb (zX g0)) zN ?_;repeat' (first | (simp only [w2,w3]) | (apply And.intro<;>intro hc<;>(first | exact Bool.noConfusion hc | (exfalso;first | exact absurd rfl hc | omega) | (simp only [zg] at hc<;>first | exact absurd rfl hc | (exfalso;first | exact absurd rfl hc | omega) | skip) | skip)) | (refine And.intro ze ?_) | (apply And.intro) | (intro s hs;skip) | (refine Exists.intro _ (And.intro ⟨rfl,rfl,rfl⟩ ?_)))
   conv=>whnf
   have hAl : (qM sd (ZR c now draw) i).held.length = sd.held.length + 1:=qf hle1;refine zw (s:=qM sd (ZR c now draw) i) (d:=44) hR2 ha rfl (λp h j=>(zq h).trans (zZ h)) rfl rfl (by rw [hAl];rfl) rfl rfl hAl.symm rfl λq hq j hj=>?_;rw [hAl] at hq;show ZX _ _ (zo zn (Zh i (ZR c now draw) sd.held) q j);refine Qy (r:=zo zn sd.held) hle1 ?_ hq (λh=>?_) (λh=>?_) (λh=>?_)
   . show min (sd.held.length + 1 - i) (sd.held.length + 1 - (i + 1)) = _;omega
   . rw [show zo zn (Zh i (ZR c now draw) sd.held) q j = zo zn sd.held q j from congrArg (λz=>zn.cell z j) (YZ hle1 h)];exact (zn.sh _ j hj).le
   . subst h;rw [show zo zn (Zh q (ZR c now draw) sd.held) q j = zn.cell (ZR c now draw) j from congrArg (λz=>zn.cell z j) (QF hle1)];have e0 : ZR c now draw = ⟨c.num,c.data,tr.1,if 1099511627776 < now + 20 then 1099511627776 else now + 20⟩:=by unfold ZR;rw [hT]
     rw [e0];iterate 11 (rcases j with _ | j;· first | exact zC rfl | exact zS rfl | exact zy rfl rfl rfl (by first | rfl | exact Nat.zero_add _) (by first | exact Nat.le_refl _ | (simp;done)) λq hq j hj=>YE (E:=eB) (congrArg (λz=>c.data.getD z default) (Nat.zero_add q)))
     exact absurd hj (by omega)
   . rw [show zo zn (Zh i (ZR c now draw) sd.held) q j = zo zn sd.held (q - 1) j from congrArg (λz=>zn.cell z j) (Ya hle1 h)];exact (zn.sh _ j hj).le
theorem acc3_6 (g0 : Nat) (L : List Sed) (a : Nat) (sd : Sed) (now : Int) (c : Cas) (deaf : Bool) (draw : Int) (hI : AcJ L a sd now c draw) (R : List Sed × Bool × Int) (hR : R = (L.set a (if deaf = true then za sd (c.num + 1) else qM sd (ZR c now draw) (ZN c.num sd.held 0).1),!deaf,0)) (a3 : a = 6) :
 Sem Try.prog Try.f11.ntmps 0 (ZK 11 (Try.f11.body.getD Code.ret)) (SB L a sd now c deaf draw ()).fr (SB L a sd now c deaf draw ()).H (SB L a sd now c deaf draw ()).nx (qN T Try.f11.results.toList λx H _=>FinN (some R.1.length) (qE R) (ZL ZF 78 R.1) x H):=by
 obtain ⟨ha,hn,hk,hh,hnum,hd,hnow,hdr⟩:=hI;unfold SB;subst a3;have w1 : IntKind.i64.wrap (c.num + 1) = c.num + 1:=IntWalk.i64_in _ (by omega);have w2 : IntKind.i64.wrap (now + 20) = now + 20:=IntWalk.i64_in _ (by omega);cases deaf with
 | true=>
   refine zK (wd:=1024) (Q:=Zt (qX g0)) (by decide) zM (zb (zX g0)) zN ?_;repeat' (first | (simp only [w1]) | (apply And.intro<;>intro hc<;>(first | exact Bool.noConfusion hc | (exfalso;first | exact absurd rfl hc | omega) | (simp only [zg] at hc<;>first | exact absurd rfl hc | (exfalso;first | exact absurd rfl hc | omega) | skip) | skip)) | (refine And.intro ze ?_) | (apply And.intro) | (intro s hs;skip) | (refine Exists.intro _ (And.intro ⟨rfl,rfl,rfl⟩ ?_)))
   . exact rfl
   . conv=>whnf
     refine zw (s:=sd) (d:=2) (hR.trans ?_) ha rfl (λp h j=>zZ h) rfl rfl rfl rfl rfl rfl rfl λq hq j hj=>(zn.sh _ j hj).le;rw [if_pos rfl,show za sd (c.num + 1) = sd from if_pos hc];rfl
   . exact ⟨rfl,zl _⟩
   . exact Eq.mpr (congrArg KpI (zL zR _)) hk
   . conv=>whnf
     have q : sd.held.filter (Zj (some (c.num + 1))) = s:=(hs.trans (by rw [zL zR])).symm;clear hs;refine zw (s:=⟨sd.id,c.num + 1,s⟩) (d:=5141) (hR.trans ?_) ha rfl (λp h j=>(zq h).trans ((zq h).trans (zZ h))) rfl rfl rfl rfl rfl rfl rfl λq hq j hj=>(zn.sh _ j hj).le;rw [if_pos rfl,show za sd (c.num + 1) = ⟨sd.id,c.num + 1,s⟩ from (if_neg hc).trans (by rw [q])];rfl
 | false=>
   obtain ⟨⟨i,b⟩,hP⟩ : ∃ P,ZN c.num sd.held 0 = P:=⟨_,rfl⟩;have hle:=QE (id:=c.num) (L:=sd.held) (k:=0);rw [hP,Nat.zero_add] at hle;dsimp only at hle;obtain ⟨hle1,_,_⟩:=hle;have hR2 : R = (L.set 6 (qM sd (ZR c now draw) i),true,0):=by rw [hR,hP];rfl
   clear hR;have w3 : IntKind.i64.wrap ((i : Int) + 1) = ((i + 1 : Nat) : Int):=(IntWalk.i64_in _ (by omega)).trans (by omega);obtain ⟨tr,hT⟩ : ∃ r,zAB 2 3 2 now draw = r:=⟨_,rfl⟩;refine zK (wd:=1) (Q:=Zt (qX g0)) (by decide) zM (zb (zX g0)) zN ?_;repeat' (first | (simp only [w2]) | (apply And.intro<;>intro hc<;>(first | exact Bool.noConfusion hc | (exfalso;first | exact absurd rfl hc | omega) | (simp only [zg] at hc<;>first | exact absurd rfl hc | (exfalso;first | exact absurd rfl hc | omega) | skip) | skip)) | (refine And.intro ze ?_) | (apply And.intro) | (intro s hs;skip) | (refine Exists.intro _ (And.intro ⟨rfl,rfl,rfl⟩ ?_)))
   refine zK (wd:=1) (Q:=Zt (qX g0)) (by decide) zM (zb (zX g0)) zN ?_;repeat' (first | (simp only [w2]) | (apply And.intro<;>intro hc<;>(first | exact Bool.noConfusion hc | (exfalso;first | exact absurd rfl hc | omega) | (simp only [zg] at hc<;>first | exact absurd rfl hc | (exfalso;first | exact absurd rfl hc | omega) | skip) | skip)) | (refine And.intro ze ?_) | (apply And.intro) | (intro s hs;(have q : tr = s:=hT.symm.trans hs.symm;clear hs;subst q)) | (refine Exists.intro _ (And.intro ⟨rfl,rfl,rfl⟩ ?_)))
   refine zK (wd:=1) (Q:=Zt (qX g0)) (by decide) zM (zb (zX g0)) zN ?_;repeat' (first | (simp only [w2]) | (apply And.intro<;>intro hc<;>(first | exact Bool.noConfusion hc | (exfalso;first | exact absurd rfl hc | omega) | (simp only [zg] at hc<;>first | exact absurd rfl hc | (exfalso;first | exact absurd rfl hc | omega) | skip) | skip)) | (refine And.intro ze ?_) | (apply And.intro) | (intro s hs;skip) | (refine Exists.intro _ (And.intro ⟨rfl,rfl,rfl⟩ ?_)))
   refine zK (wd:=1) (Q:=Zt (qX g0)) (by decide) zM (zb (zX g0)) zN ?_;repeat' (first | (simp only [w2,w3]) | (apply And.intro<;>intro hc<;>(first | exact Bool.noConfusion hc | (exfalso;first | exact absurd rfl hc | omega) | (simp only [zg] at hc<;>first | exact absurd rfl hc | (exfalso;first | exact absurd rfl hc | omega) | skip) | skip)) | (refine And.intro ze ?_) | (apply And.intro) | (intro s hs;(have q:=qq hs (zL zR _) hP;clear hs;subst q)) | (refine Exists.intro _ (And.intro ⟨rfl,rfl,rfl⟩ ?_)))
   . exact λ_ _=>⟨rfl,zl _⟩
   . exact Eq.mpr (congrArg (λz : List Hel=>z.length <= 9223372036854775807) (zL zR _)) (by omega)
   refine zK (wd:=1) (Q:=Zt (qX g0)) (by decide) zM (zb (zX g0)) zN ?_;repeat' (first | (simp only [w2,w3]) | (apply And.intro<;>intro hc<;>(first | exact Bool.noConfusion hc | (exfalso;first | exact absurd rfl hc | omega) | (simp only [zg] at hc<;>first | exact absurd rfl hc | (exfalso;first | exact absurd rfl hc | omega) | skip) | skip)) | (refine And.intro ze ?_) | (apply And.intro) | (intro s hs;skip) | (refine Exists.intro _ (And.intro ⟨rfl,rfl,rfl⟩ ?_)))
   refine zK (wd:=1) (Q:=Zt (qX g0)) (by decide) zM (zb (zX g0)) zN ?_;repeat' (first | (simp only [w2,w3]) | (apply And.intro<;>intro hc<;>(first | exact Bool.noConfusion hc | (exfalso;first | exact absurd rfl hc | omega) | (simp only [zg] at hc<;>first | exact absurd rfl hc | (exfalso;first | exact absurd rfl hc | omega) | skip) | skip)) | (refine And.intro ze ?_) | (apply And.intro) | (intro s hs;skip) | (refine Exists.intro _ (And.intro ⟨rfl,rfl,rfl⟩ ?_)))
   refine QP (wd:=1) (Q:=Zt (qX g0)) (by decide) zM (zb (zX g0)) zN ?_;repeat' (first | (simp only [w2,w3]) | (apply And.intro<;>intro hc<;>(first | exact Bool.noConfusion hc | (exfalso;first | exact absurd rfl hc | omega) | (simp only [zg] at hc<;>first | exact absurd rfl hc | (exfalso;first | exact absurd rfl hc | omega) | skip) | skip)) | (refine And.intro ze ?_) | (apply And.intro) | (intro s hs;skip) | (refine Exists.intro _ (And.intro ⟨rfl,rfl,rfl⟩ ?_)))
   conv=>whnf
   have hAl : (qM sd (ZR c now draw) i).held.length = sd.held.length + 1:=qf hle1;refine zw (s:=qM sd (ZR c now draw) i) (d:=44) hR2 ha rfl (λp h j=>(zq h).trans (zZ h)) rfl rfl (by rw [hAl];rfl) rfl rfl hAl.symm rfl λq hq j hj=>?_;rw [hAl] at hq;show ZX _ _ (zo zn (Zh i (ZR c now draw) sd.held) q j);refine Qy (r:=zo zn sd.held) hle1 ?_ hq (λh=>?_) (λh=>?_) (λh=>?_)
   . show min (sd.held.length + 1 - i) (sd.held.length + 1 - (i + 1)) = _;omega
   . rw [show zo zn (Zh i (ZR c now draw) sd.held) q j = zo zn sd.held q j from congrArg (λz=>zn.cell z j) (YZ hle1 h)];exact (zn.sh _ j hj).le
   . subst h;rw [show zo zn (Zh q (ZR c now draw) sd.held) q j = zn.cell (ZR c now draw) j from congrArg (λz=>zn.cell z j) (QF hle1)];have e0 : ZR c now draw = ⟨c.num,c.data,tr.1,if 1099511627776 < now + 20 then 1099511627776 else now + 20⟩:=by unfold ZR;rw [hT]
     rw [e0];iterate 11 (rcases j with _ | j;· first | exact zC rfl | exact zS rfl | exact zy rfl rfl rfl (by first | rfl | exact Nat.zero_add _) (by first | exact Nat.le_refl _ | (simp;done)) λq hq j hj=>YE (E:=eB) (congrArg (λz=>c.data.getD z default) (Nat.zero_add q)))
     exact absurd hj (by omega)
   . rw [show zo zn (Zh i (ZR c now draw) sd.held) q j = zo zn sd.held (q - 1) j from congrArg (λz=>zn.cell z j) (Ya hle1 h)];exact (zn.sh _ j hj).le
theorem acc3_7 (g0 : Nat) (L : List Sed) (a : Nat) (sd : Sed) (now : Int) (c : Cas) (deaf : Bool) (draw : Int) (hI : AcJ L a sd now c draw) (R : List Sed × Bool × Int) (hR : R = (L.set a (if deaf = true then za sd (c.num + 1) else qM sd (ZR c now draw) (ZN c.num sd.held 0).1),!deaf,0)) (a3 : a = 7) :
 Sem Try.prog Try.f11.ntmps 0 (ZK 11 (Try.f11.body.getD Code.ret)) (SB L a sd now c deaf draw ()).fr (SB L a sd now c deaf draw ()).H (SB L a sd now c deaf draw ()).nx (qN T Try.f11.results.toList λx H _=>FinN (some R.1.length) (qE R) (ZL ZF 78 R.1) x H):=by
 obtain ⟨ha,hn,hk,hh,hnum,hd,hnow,hdr⟩:=hI;unfold SB;subst a3;have w1 : IntKind.i64.wrap (c.num + 1) = c.num + 1:=IntWalk.i64_in _ (by omega);have w2 : IntKind.i64.wrap (now + 20) = now + 20:=IntWalk.i64_in _ (by omega);cases deaf with
 | true=>
   refine zK (wd:=1024) (Q:=Zt (qX g0)) (by decide) zM (zb (zX g0)) zN ?_;repeat' (first | (simp only [w1]) | (apply And.intro<;>intro hc<;>(first | exact Bool.noConfusion hc | (exfalso;first | exact absurd rfl hc | omega) | (simp only [zg] at hc<;>first | exact absurd rfl hc | (exfalso;first | exact absurd rfl hc | omega) | skip) | skip)) | (refine And.intro ze ?_) | (apply And.intro) | (intro s hs;skip) | (refine Exists.intro _ (And.intro ⟨rfl,rfl,rfl⟩ ?_)))
   . exact rfl
   . conv=>whnf
     refine zw (s:=sd) (d:=2) (hR.trans ?_) ha rfl (λp h j=>zZ h) rfl rfl rfl rfl rfl rfl rfl λq hq j hj=>(zn.sh _ j hj).le;rw [if_pos rfl,show za sd (c.num + 1) = sd from if_pos hc];rfl
   . exact ⟨rfl,zl _⟩
   . exact Eq.mpr (congrArg KpI (zL zR _)) hk
   . conv=>whnf
     have q : sd.held.filter (Zj (some (c.num + 1))) = s:=(hs.trans (by rw [zL zR])).symm;clear hs;refine zw (s:=⟨sd.id,c.num + 1,s⟩) (d:=5141) (hR.trans ?_) ha rfl (λp h j=>(zq h).trans ((zq h).trans (zZ h))) rfl rfl rfl rfl rfl rfl rfl λq hq j hj=>(zn.sh _ j hj).le;rw [if_pos rfl,show za sd (c.num + 1) = ⟨sd.id,c.num + 1,s⟩ from (if_neg hc).trans (by rw [q])];rfl
 | false=>
   obtain ⟨⟨i,b⟩,hP⟩ : ∃ P,ZN c.num sd.held 0 = P:=⟨_,rfl⟩;have hle:=QE (id:=c.num) (L:=sd.held) (k:=0);rw [hP,Nat.zero_add] at hle;dsimp only at hle;obtain ⟨hle1,_,_⟩:=hle;have hR2 : R = (L.set 7 (qM sd (ZR c now draw) i),true,0):=by rw [hR,hP];rfl
   clear hR;have w3 : IntKind.i64.wrap ((i : Int) + 1) = ((i + 1 : Nat) : Int):=(IntWalk.i64_in _ (by omega)).trans (by omega);obtain ⟨tr,hT⟩ : ∃ r,zAB 2 3 2 now draw = r:=⟨_,rfl⟩;refine zK (wd:=1) (Q:=Zt (qX g0)) (by decide) zM (zb (zX g0)) zN ?_;repeat' (first | (simp only [w2]) | (apply And.intro<;>intro hc<;>(first | exact Bool.noConfusion hc | (exfalso;first | exact absurd rfl hc | omega) | (simp only [zg] at hc<;>first | exact absurd rfl hc | (exfalso;first | exact absurd rfl hc | omega) | skip) | skip)) | (refine And.intro ze ?_) | (apply And.intro) | (intro s hs;skip) | (refine Exists.intro _ (And.intro ⟨rfl,rfl,rfl⟩ ?_)))
   refine zK (wd:=1) (Q:=Zt (qX g0)) (by decide) zM (zb (zX g0)) zN ?_;repeat' (first | (simp only [w2]) | (apply And.intro<;>intro hc<;>(first | exact Bool.noConfusion hc | (exfalso;first | exact absurd rfl hc | omega) | (simp only [zg] at hc<;>first | exact absurd rfl hc | (exfalso;first | exact absurd rfl hc | omega) | skip) | skip)) | (refine And.intro ze ?_) | (apply And.intro) | (intro s hs;(have q : tr = s:=hT.symm.trans hs.symm;clear hs;subst q)) | (refine Exists.intro _ (And.intro ⟨rfl,rfl,rfl⟩ ?_)))
   refine zK (wd:=1) (Q:=Zt (qX g0)) (by decide) zM (zb (zX g0)) zN ?_;repeat' (first | (simp only [w2]) | (apply And.intro<;>intro hc<;>(first | exact Bool.noConfusion hc | (exfalso;first | exact absurd rfl hc | omega) | (simp only [zg] at hc<;>first | exact absurd rfl hc | (exfalso;first | exact absurd rfl hc | omega) | skip) | skip)) | (refine And.intro ze ?_) | (apply And.intro) | (intro s hs;skip) | (refine Exists.intro _ (And.intro ⟨rfl,rfl,rfl⟩ ?_)))
   refine zK (wd:=1) (Q:=Zt (qX g0)) (by decide) zM (zb (zX g0)) zN ?_;repeat' (first | (simp only [w2,w3]) | (apply And.intro<;>intro hc<;>(first | exact Bool.noConfusion hc | (exfalso;first | exact absurd rfl hc | omega) | (simp only [zg] at hc<;>first | exact absurd rfl hc | (exfalso;first | exact absurd rfl hc | omega) | skip) | skip)) | (refine And.intro ze ?_) | (apply And.intro) | (intro s hs;(have q:=qq hs (zL zR _) hP;clear hs;subst q)) | (refine Exists.intro _ (And.intro ⟨rfl,rfl,rfl⟩ ?_)))
   . exact λ_ _=>⟨rfl,zl _⟩
   . exact Eq.mpr (congrArg (λz : List Hel=>z.length <= 9223372036854775807) (zL zR _)) (by omega)
   refine zK (wd:=1) (Q:=Zt (qX g0)) (by decide) zM (zb (zX g0)) zN ?_;repeat' (first | (simp only [w2,w3]) | (apply And.intro<;>intro hc<;>(first | exact Bool.noConfusion hc | (exfalso;first | exact absurd rfl hc | omega) | (simp only [zg] at hc<;>first | exact absurd rfl hc | (exfalso;first | exact absurd rfl hc | omega) | skip) | skip)) | (refine And.intro ze ?_) | (apply And.intro) | (intro s hs;skip) | (refine Exists.intro _ (And.intro ⟨rfl,rfl,rfl⟩ ?_)))
   refine zK (wd:=1) (Q:=Zt (qX g0)) (by decide) zM (zb (zX g0)) zN ?_;repeat' (first | (simp only [w2,w3]) | (apply And.intro<;>intro hc<;>(first | exact Bool.noConfusion hc | (exfalso;first | exact absurd rfl hc | omega) | (simp only [zg] at hc<;>first | exact absurd rfl hc | (exfalso;first | exact absurd rfl hc | omega) | skip) | skip)) | (refine And.intro ze ?_) | (apply And.intro) | (intro s hs;skip) | (refine Exists.intro _ (And.intro ⟨rfl,rfl,rfl⟩ ?_)))
   refine QP (wd:=1) (Q:=Zt (qX g0)) (by decide) zM (zb (zX g0)) zN ?_;repeat' (first | (simp only [w2,w3]) | (apply And.intro<;>intro hc<;>(first | exact Bool.noConfusion hc | (exfalso;first | exact absurd rfl hc | omega) | (simp only [zg] at hc<;>first | exact absurd rfl hc | (exfalso;first | exact absurd rfl hc | omega) | skip) | skip)) | (refine And.intro ze ?_) | (apply And.intro) | (intro s hs;skip) | (refine Exists.intro _ (And.intro ⟨rfl,rfl,rfl⟩ ?_)))
   conv=>whnf
   have hAl : (qM sd (ZR c now draw) i).held.length = sd.held.length + 1:=qf hle1;refine zw (s:=qM sd (ZR c now draw) i) (d:=44) hR2 ha rfl (λp h j=>(zq h).trans (zZ h)) rfl rfl (by rw [hAl];rfl) rfl rfl hAl.symm rfl λq hq j hj=>?_;rw [hAl] at hq;show ZX _ _ (zo zn (Zh i (ZR c now draw) sd.held) q j);refine Qy (r:=zo zn sd.held) hle1 ?_ hq (λh=>?_) (λh=>?_) (λh=>?_)
   . show min (sd.held.length + 1 - i) (sd.held.length + 1 - (i + 1)) = _;omega
   . rw [show zo zn (Zh i (ZR c now draw) sd.held) q j = zo zn sd.held q j from congrArg (λz=>zn.cell z j) (YZ hle1 h)];exact (zn.sh _ j hj).le
   . subst h;rw [show zo zn (Zh q (ZR c now draw) sd.held) q j = zn.cell (ZR c now draw) j from congrArg (λz=>zn.cell z j) (QF hle1)];have e0 : ZR c now draw = ⟨c.num,c.data,tr.1,if 1099511627776 < now + 20 then 1099511627776 else now + 20⟩:=by unfold ZR;rw [hT]
     rw [e0];iterate 11 (rcases j with _ | j;· first | exact zC rfl | exact zS rfl | exact zy rfl rfl rfl (by first | rfl | exact Nat.zero_add _) (by first | exact Nat.le_refl _ | (simp;done)) λq hq j hj=>YE (E:=eB) (congrArg (λz=>c.data.getD z default) (Nat.zero_add q)))
     exact absurd hj (by omega)
   . rw [show zo zn (Zh i (ZR c now draw) sd.held) q j = zo zn sd.held (q - 1) j from congrArg (λz=>zn.cell z j) (Ya hle1 h)];exact (zn.sh _ j hj).le
theorem acc3_8 (g0 : Nat) (L : List Sed) (a : Nat) (sd : Sed) (now : Int) (c : Cas) (deaf : Bool) (draw : Int) (hI : AcJ L a sd now c draw) (R : List Sed × Bool × Int) (hR : R = (L.set a (if deaf = true then za sd (c.num + 1) else qM sd (ZR c now draw) (ZN c.num sd.held 0).1),!deaf,0)) (a3 : a = 8) :
 Sem Try.prog Try.f11.ntmps 0 (ZK 11 (Try.f11.body.getD Code.ret)) (SB L a sd now c deaf draw ()).fr (SB L a sd now c deaf draw ()).H (SB L a sd now c deaf draw ()).nx (qN T Try.f11.results.toList λx H _=>FinN (some R.1.length) (qE R) (ZL ZF 78 R.1) x H):=by
 obtain ⟨ha,hn,hk,hh,hnum,hd,hnow,hdr⟩:=hI;unfold SB;subst a3;have w1 : IntKind.i64.wrap (c.num + 1) = c.num + 1:=IntWalk.i64_in _ (by omega);have w2 : IntKind.i64.wrap (now + 20) = now + 20:=IntWalk.i64_in _ (by omega);cases deaf with
 | true=>
   refine zK (wd:=1024) (Q:=Zt (qX g0)) (by decide) zM (zb (zX g0)) zN ?_;repeat' (first | (simp only [w1]) | (apply And.intro<;>intro hc<;>(first | exact Bool.noConfusion hc | (exfalso;first | exact absurd rfl hc | omega) | (simp only [zg] at hc<;>first | exact absurd rfl hc | (exfalso;first | exact absurd rfl hc | omega) | skip) | skip)) | (refine And.intro ze ?_) | (apply And.intro) | (intro s hs;skip) | (refine Exists.intro _ (And.intro ⟨rfl,rfl,rfl⟩ ?_)))
   . exact rfl
   . conv=>whnf
     refine zw (s:=sd) (d:=2) (hR.trans ?_) ha rfl (λp h j=>zZ h) rfl rfl rfl rfl rfl rfl rfl λq hq j hj=>(zn.sh _ j hj).le;rw [if_pos rfl,show za sd (c.num + 1) = sd from if_pos hc];rfl
   . exact ⟨rfl,zl _⟩
   . exact Eq.mpr (congrArg KpI (zL zR _)) hk
   . conv=>whnf
     have q : sd.held.filter (Zj (some (c.num + 1))) = s:=(hs.trans (by rw [zL zR])).symm;clear hs;refine zw (s:=⟨sd.id,c.num + 1,s⟩) (d:=5141) (hR.trans ?_) ha rfl (λp h j=>(zq h).trans ((zq h).trans (zZ h))) rfl rfl rfl rfl rfl rfl rfl λq hq j hj=>(zn.sh _ j hj).le;rw [if_pos rfl,show za sd (c.num + 1) = ⟨sd.id,c.num + 1,s⟩ from (if_neg hc).trans (by rw [q])];rfl
 | false=>
   obtain ⟨⟨i,b⟩,hP⟩ : ∃ P,ZN c.num sd.held 0 = P:=⟨_,rfl⟩;have hle:=QE (id:=c.num) (L:=sd.held) (k:=0);rw [hP,Nat.zero_add] at hle;dsimp only at hle;obtain ⟨hle1,_,_⟩:=hle;have hR2 : R = (L.set 8 (qM sd (ZR c now draw) i),true,0):=by rw [hR,hP];rfl
   clear hR;have w3 : IntKind.i64.wrap ((i : Int) + 1) = ((i + 1 : Nat) : Int):=(IntWalk.i64_in _ (by omega)).trans (by omega);obtain ⟨tr,hT⟩ : ∃ r,zAB 2 3 2 now draw = r:=⟨_,rfl⟩;refine zK (wd:=1) (Q:=Zt (qX g0)) (by decide) zM (zb (zX g0)) zN ?_;repeat' (first | (simp only [w2]) | (apply And.intro<;>intro hc<;>(first | exact Bool.noConfusion hc | (exfalso;first | exact absurd rfl hc | omega) | (simp only [zg] at hc<;>first | exact absurd rfl hc | (exfalso;first | exact absurd rfl hc | omega) | skip) | skip)) | (refine And.intro ze ?_) | (apply And.intro) | (intro s hs;skip) | (refine Exists.intro _ (And.intro ⟨rfl,rfl,rfl⟩ ?_)))
   refine zK (wd:=1) (Q:=Zt (qX g0)) (by decide) zM (zb (zX g0)) zN ?_;repeat' (first | (simp only [w2]) | (apply And.intro<;>intro hc<;>(first | exact Bool.noConfusion hc | (exfalso;first | exact absurd rfl hc | omega) | (simp only [zg] at hc<;>first | exact absurd rfl hc | (exfalso;first | exact absurd rfl hc | omega) | skip) | skip)) | (refine And.intro ze ?_) | (apply And.intro) | (intro s hs;(have q : tr = s:=hT.symm.trans hs.symm;clear hs;subst q)) | (refine Exists.intro _ (And.intro ⟨rfl,rfl,rfl⟩ ?_)))
   refine zK (wd:=1) (Q:=Zt (qX g0)) (by decide) zM (zb (zX g0)) zN ?_;repeat' (first | (simp only [w2]) | (apply And.intro<;>intro hc<;>(first | exact Bool.noConfusion hc | (exfalso;first | exact absurd rfl hc | omega) | (simp only [zg] at hc<;>first | exact absurd rfl hc | (exfalso;first | exact absurd rfl hc | omega) | skip) | skip)) | (refine And.intro ze ?_) | (apply And.intro) | (intro s hs;skip) | (refine Exists.intro _ (And.intro ⟨rfl,rfl,rfl⟩ ?_)))
   refine zK (wd:=1) (Q:=Zt (qX g0)) (by decide) zM (zb (zX g0)) zN ?_;repeat' (first | (simp only [w2,w3]) | (apply And.intro<;>intro hc<;>(first | exact Bool.noConfusion hc | (exfalso;first | exact absurd rfl hc | omega) | (simp only [zg] at hc<;>first | exact absurd rfl hc | (exfalso;first | exact absurd rfl hc | omega) | skip) | skip)) | (refine And.intro ze ?_) | (apply And.intro) | (intro s hs;(have q:=qq hs (zL zR _) hP;clear hs;subst q)) | (refine Exists.intro _ (And.intro ⟨rfl,rfl,rfl⟩ ?_)))
   . exact λ_ _=>⟨rfl,zl _⟩
   . exact Eq.mpr (congrArg (λz : List Hel=>z.length <= 9223372036854775807) (zL zR _)) (by omega)
   refine zK (wd:=1) (Q:=Zt (qX g0)) (by decide) zM (zb (zX g0)) zN ?_;repeat' (first | (simp only [w2,w3]) | (apply And.intro<;>intro hc<;>(first | exact Bool.noConfusion hc | (exfalso;first | exact absurd rfl hc | omega) | (simp only [zg] at hc<;>first | exact absurd rfl hc | (exfalso;first | exact absurd rfl hc | omega) | skip) | skip)) | (refine And.intro ze ?_) | (apply And.intro) | (intro s hs;skip) | (refine Exists.intro _ (And.intro ⟨rfl,rfl,rfl⟩ ?_)))
   refine zK (wd:=1) (Q:=Zt (qX g0)) (by decide) zM (zb (zX g0)) zN ?_;repeat' (first | (simp only [w2,w3]) | (apply And.intro<;>intro hc<;>(first | exact Bool.noConfusion hc | (exfalso;first | exact absurd rfl hc | omega) | (simp only [zg] at hc<;>first | exact absurd rfl hc | (exfalso;first | exact absurd rfl hc | omega) | skip) | skip)) | (refine And.intro ze ?_) | (apply And.intro) | (intro s hs;skip) | (refine Exists.intro _ (And.intro ⟨rfl,rfl,rfl⟩ ?_)))
   refine QP (wd:=1) (Q:=Zt (qX g0)) (by decide) zM (zb (zX g0)) zN ?_;repeat' (first | (simp only [w2,w3]) | (apply And.intro<;>intro hc<;>(first | exact Bool.noConfusion hc | (exfalso;first | exact absurd rfl hc | omega) | (simp only [zg] at hc<;>first | exact absurd rfl hc | (exfalso;first | exact absurd rfl hc | omega) | skip) | skip)) | (refine And.intro ze ?_) | (apply And.intro) | (intro s hs;skip) | (refine Exists.intro _ (And.intro ⟨rfl,rfl,rfl⟩ ?_)))
   conv=>whnf
   have hAl : (qM sd (ZR c now draw) i).held.length = sd.held.length + 1:=qf hle1;refine zw (s:=qM sd (ZR c now draw) i) (d:=44) hR2 ha rfl (λp h j=>(zq h).trans (zZ h)) rfl rfl (by rw [hAl];rfl) rfl rfl hAl.symm rfl λq hq j hj=>?_;rw [hAl] at hq;show ZX _ _ (zo zn (Zh i (ZR c now draw) sd.held) q j);refine Qy (r:=zo zn sd.held) hle1 ?_ hq (λh=>?_) (λh=>?_) (λh=>?_)
   . show min (sd.held.length + 1 - i) (sd.held.length + 1 - (i + 1)) = _;omega
   . rw [show zo zn (Zh i (ZR c now draw) sd.held) q j = zo zn sd.held q j from congrArg (λz=>zn.cell z j) (YZ hle1 h)];exact (zn.sh _ j hj).le
   . subst h;rw [show zo zn (Zh q (ZR c now draw) sd.held) q j = zn.cell (ZR c now draw) j from congrArg (λz=>zn.cell z j) (QF hle1)];have e0 : ZR c now draw = ⟨c.num,c.data,tr.1,if 1099511627776 < now + 20 then 1099511627776 else now + 20⟩:=by unfold ZR;rw [hT]
     rw [e0];iterate 11 (rcases j with _ | j;· first | exact zC rfl | exact zS rfl | exact zy rfl rfl rfl (by first | rfl | exact Nat.zero_add _) (by first | exact Nat.le_refl _ | (simp;done)) λq hq j hj=>YE (E:=eB) (congrArg (λz=>c.data.getD z default) (Nat.zero_add q)))
     exact absurd hj (by omega)
   . rw [show zo zn (Zh i (ZR c now draw) sd.held) q j = zo zn sd.held (q - 1) j from congrArg (λz=>zn.cell z j) (Ya hle1 h)];exact (zn.sh _ j hj).le
theorem acc3 (g0 : Nat) (L : List Sed) (a : Nat) (sd : Sed) (now : Int) (c : Cas) (deaf : Bool) (draw : Int) (hI : AcJ L a sd now c draw) (R : List Sed × Bool × Int) (hR : R = (L.set a (if deaf = true then za sd (c.num + 1) else qM sd (ZR c now draw) (ZN c.num sd.held 0).1),!deaf,0)) :
 Sem Try.prog Try.f11.ntmps 0 (ZK 11 (Try.f11.body.getD Code.ret)) (SB L a sd now c deaf draw ()).fr (SB L a sd now c deaf draw ()).H (SB L a sd now c deaf draw ()).nx (qN T Try.f11.results.toList λx H _=>FinN (some R.1.length) (qE R) (ZL ZF 78 R.1) x H):=by
 have h : a = 0 \/ a = 1 \/ a = 2 \/ a = 3 \/ a = 4 \/ a = 5 \/ a = 6 \/ a = 7 \/ a = 8:=by have:=hI.lt;have:=hI.n;omega
 rcases h with h | h | h | h | h | h | h | h | h
 . exact acc3_0 g0 L a sd now c deaf draw hI R hR h
 . exact acc3_1 g0 L a sd now c deaf draw hI R hR h
 . exact acc3_2 g0 L a sd now c deaf draw hI R hR h
 . exact acc3_3 g0 L a sd now c deaf draw hI R hR h
 . exact acc3_4 g0 L a sd now c deaf draw hI R hR h
 . exact acc3_5 g0 L a sd now c deaf draw hI R hR h
 . exact acc3_6 g0 L a sd now c deaf draw hI R hR h
 . exact acc3_7 g0 L a sd now c deaf draw hI R hR h
 . exact acc3_8 g0 L a sd now c deaf draw hI R hR h
theorem acc2_0 (g0 : Nat) (L : List Sed) (a : Nat) (now : Int) (c : Cas) (deaf : Bool) (draw : Int) (hI : AcI L a now c draw) (R : List Sed × Bool × Int) (hR : R = (L.set a (ZZ (L.getD a default) now c deaf draw).1,(ZZ (L.getD a default) now c deaf draw).2,0)) (a3 : a = 0) :
 Sem Try.prog Try.f11.ntmps 0 (ZK 7 (Try.f11.body.getD Code.ret)) (SA L a now c deaf draw ()).fr (SA L a now c deaf draw ()).H (SA L a now c deaf draw ()).nx (qN T Try.f11.results.toList λx H _=>FinN (some R.1.length) (qE R) (ZL ZF 78 R.1) x H):=by
 obtain ⟨ha,hn,hk,hh,hmn,hnum,hd,hnow,hdr⟩:=hI;unfold SA;rw [zBA];obtain ⟨sd,es⟩ : ∃ s,L.getD a default = s:=⟨_,rfl⟩;rw [es] at hk hh hmn hR ⊢;subst a3;refine zK (wd:=1) (Q:=Zt (qX g0)) (by decide) zM (zb (zX g0)) zN ?_;repeat' (first | (apply And.intro<;>intro hc<;>(first | exact Bool.noConfusion hc | (exfalso;first | exact absurd rfl hc | omega) | (simp only [zg] at hc<;>first | exact absurd rfl hc | (exfalso;first | exact absurd rfl hc | omega) | skip) | skip)) | (refine And.intro ze ?_) | (apply And.intro) | (intro s hs;skip) | (refine Exists.intro _ (And.intro ⟨rfl,rfl,rfl⟩ ?_)))
 refine zK (wd:=1) (Q:=Zt (qX g0)) (by decide) zM (zb (zX g0)) zN ?_;repeat' (first | (apply And.intro<;>intro hc<;>(first | exact Bool.noConfusion hc | (exfalso;first | exact absurd rfl hc | omega) | (simp only [zg] at hc<;>first | exact absurd rfl hc | (exfalso;first | exact absurd rfl hc | omega) | skip) | skip)) | (refine And.intro ze ?_) | (apply And.intro) | (intro s hs;skip) | (refine Exists.intro _ (And.intro ⟨rfl,rfl,rfl⟩ ?_)))
 . refine zw (s:=sd) (d:=2) (hR.trans ?_) ha rfl (λp h j=>zZ h) rfl rfl rfl rfl rfl rfl rfl λq hq j hj=>(zn.sh _ j hj).le;unfold ZZ;rw [if_pos hc]
 have hge:=hc;have w1 : IntKind.i64.wrap (c.num - 31) = c.num - 31:=IntWalk.i64_in _ (by omega);obtain ⟨⟨i,b⟩,hP⟩ : ∃ P,ZN c.num sd.held 0 = P:=⟨_,rfl⟩;have hle:=QE (id:=c.num) (L:=sd.held) (k:=0);rw [hP,Nat.zero_add] at hle;dsimp only at hle;obtain ⟨hle1,hle2,_⟩:=hle;cases b with
 | true=>
   have hil:=hle2 rfl;clear hle2;have hR2 : R = (L.set 0 (ZO sd i),false,0):=by
    rw [hR];unfold ZZ;rw [if_neg (by omega),hP];rfl
   refine zK (wd:=1) (Q:=Zt (qX g0)) (by decide) zM (zb (zX g0)) zN ?_;repeat' (first | (apply And.intro<;>intro hc<;>(first | exact Bool.noConfusion hc | (exfalso;first | exact absurd rfl hc | omega) | (simp only [zg] at hc<;>first | exact absurd rfl hc | (exfalso;first | exact absurd rfl hc | omega) | skip) | skip)) | (refine And.intro ze ?_) | (apply And.intro) | (intro s hs;(first | (have q:=qq hs (zL zR _) hP;clear hs;subst q) | (have q:=zAM hs (Nat.zero_add i);clear hs;subst q))) | (refine Exists.intro _ (And.intro ⟨rfl,rfl,rfl⟩ ?_)))
   . exact λ_ _=>⟨rfl,zl _⟩
   . exact Eq.mpr (congrArg (λz : List Hel=>z.length <= 9223372036854775807) (zL zR _)) (by omega)
   conv=>whnf
   have hLh : (ZO sd i).held.length = sd.held.length:=List.length_set;refine zw (s:=ZO sd i) (d:=2) hR2 ha rfl (λp h j=>zZ h) rfl rfl (by rw [hLh];rfl) rfl rfl hLh.symm rfl λq hq j hj=>zAO hil hj
 | false=>
   clear hle2;refine zK (wd:=1) (Q:=Zt (qX g0)) (by decide) zM (zb (zX g0)) zN ?_;repeat' (first | (apply And.intro<;>intro hc<;>(first | exact Bool.noConfusion hc | (exfalso;first | exact absurd rfl hc | omega) | (simp only [zg] at hc<;>first | exact absurd rfl hc | (exfalso;first | exact absurd rfl hc | omega) | skip) | skip)) | (refine And.intro ze ?_) | (apply And.intro) | (intro s hs;(first | (have q:=qq hs (zL zR _) hP;clear hs;subst q))) | (refine Exists.intro _ (And.intro ⟨rfl,rfl,rfl⟩ ?_)))
   . exact λ_ _=>⟨rfl,zl _⟩
   . exact Eq.mpr (congrArg (λz : List Hel=>z.length <= 9223372036854775807) (zL zR _)) (by omega)
   change Sem _ _ _ _ _ _ _ _;refine Zf (wd:=1024) (Q:=Zt (qX g0)) (by decide) zM (zb (zX g0)) (zT (zX g0)) zN (SB L 0 (za sd (c.num - 31)) now c deaf draw) (by intro _;rfl) ?_ ?_
   . repeat' (first | (simp only [w1]) | (apply And.intro<;>intro hc<;>(first | exact Bool.noConfusion hc | (exfalso;first | exact absurd rfl hc | omega) | (simp only [zg] at hc<;>first | exact absurd rfl hc | (exfalso;first | exact absurd rfl hc | omega) | skip) | skip)) | (refine And.intro ze ?_) | (apply And.intro) | (intro s hs;skip) | (refine Exists.intro _ (And.intro ⟨rfl,rfl,rfl⟩ ?_)))
     . exact rfl
     . conv=>whnf
       rw [show za sd (c.num - 31) = sd from if_pos hc];exact ⟨(),[],rfl,⟨zA rfl,zG rfl,zA rfl,zH rfl,zE (zD rfl rfl),zH rfl,trivial⟩,⟨⟨rfl,zI λj hj=>(Zr.sh _ j hj).le⟩,⟨rfl,⟨rfl,rfl,rfl,rfl,λp hp j hj=>Zg hj rfl⟩⟩,⟨rfl,zB⟩,trivial⟩⟩
     . exact ⟨rfl,zl _⟩
     . exact Eq.mpr (congrArg KpI (zL zR _)) hk
     . conv=>whnf
       have q : sd.held.filter (Zj (some (c.num - 31))) = s:=(hs.trans (by rw [zL zR])).symm;clear hs;rw [show za sd (c.num - 31) = ⟨sd.id,c.num - 31,s⟩ from (if_neg hc).trans (by rw [q])];refine ⟨(),[(2,some 4141)],rfl,⟨zA rfl,zG rfl,zA rfl,zH rfl,zE (zD rfl rfl),zH rfl,trivial⟩,⟨⟨rfl,zI λj hj=>(Zr.sh _ j hj).le⟩,⟨rfl,⟨rfl,rfl,rfl,rfl,λp hp j hj=>?_⟩⟩,⟨rfl,zB⟩,trivial⟩⟩;have hj : j < 3:=hj;refine zAN hj (λh=>(zq h).trans ((zq h).trans (zZ h))) λh=>?_;subst h;rcases j with _ | _ | _ | j
       . exact zC rfl
       . exact zC rfl
       . exact zD rfl rfl
       . omega
   . intro _;refine acc3 g0 L 0 (za sd (c.num - 31)) now c deaf draw ⟨ha,hn,zAP hk,zAQ hh,hnum,hd,hnow,hdr⟩ R ?_;rw [hR];unfold ZZ;rw [if_neg hge,hP];cases deaf<;>rfl
theorem acc2_1 (g0 : Nat) (L : List Sed) (a : Nat) (now : Int) (c : Cas) (deaf : Bool) (draw : Int) (hI : AcI L a now c draw) (R : List Sed × Bool × Int) (hR : R = (L.set a (ZZ (L.getD a default) now c deaf draw).1,(ZZ (L.getD a default) now c deaf draw).2,0)) (a3 : a = 1) :
 Sem Try.prog Try.f11.ntmps 0 (ZK 7 (Try.f11.body.getD Code.ret)) (SA L a now c deaf draw ()).fr (SA L a now c deaf draw ()).H (SA L a now c deaf draw ()).nx (qN T Try.f11.results.toList λx H _=>FinN (some R.1.length) (qE R) (ZL ZF 78 R.1) x H):=by
 obtain ⟨ha,hn,hk,hh,hmn,hnum,hd,hnow,hdr⟩:=hI;unfold SA;rw [zBA];obtain ⟨sd,es⟩ : ∃ s,L.getD a default = s:=⟨_,rfl⟩;rw [es] at hk hh hmn hR ⊢;subst a3;refine zK (wd:=1) (Q:=Zt (qX g0)) (by decide) zM (zb (zX g0)) zN ?_;repeat' (first | (apply And.intro<;>intro hc<;>(first | exact Bool.noConfusion hc | (exfalso;first | exact absurd rfl hc | omega) | (simp only [zg] at hc<;>first | exact absurd rfl hc | (exfalso;first | exact absurd rfl hc | omega) | skip) | skip)) | (refine And.intro ze ?_) | (apply And.intro) | (intro s hs;skip) | (refine Exists.intro _ (And.intro ⟨rfl,rfl,rfl⟩ ?_)))
 refine zK (wd:=1) (Q:=Zt (qX g0)) (by decide) zM (zb (zX g0)) zN ?_;repeat' (first | (apply And.intro<;>intro hc<;>(first | exact Bool.noConfusion hc | (exfalso;first | exact absurd rfl hc | omega) | (simp only [zg] at hc<;>first | exact absurd rfl hc | (exfalso;first | exact absurd rfl hc | omega) | skip) | skip)) | (refine And.intro ze ?_) | (apply And.intro) | (intro s hs;skip) | (refine Exists.intro _ (And.intro ⟨rfl,rfl,rfl⟩ ?_)))
 . refine zw (s:=sd) (d:=2) (hR.trans ?_) ha rfl (λp h j=>zZ h) rfl rfl rfl rfl rfl rfl rfl λq hq j hj=>(zn.sh _ j hj).le;unfold ZZ;rw [if_pos hc]
 have hge:=hc;have w1 : IntKind.i64.wrap (c.num - 31) = c.num - 31:=IntWalk.i64_in _ (by omega);obtain ⟨⟨i,b⟩,hP⟩ : ∃ P,ZN c.num sd.held 0 = P:=⟨_,rfl⟩;have hle:=QE (id:=c.num) (L:=sd.held) (k:=0);rw [hP,Nat.zero_add] at hle;dsimp only at hle;obtain ⟨hle1,hle2,_⟩:=hle;cases b with
 | true=>
   have hil:=hle2 rfl;clear hle2;have hR2 : R = (L.set 1 (ZO sd i),false,0):=by
    rw [hR];unfold ZZ;rw [if_neg (by omega),hP];rfl
   refine zK (wd:=1) (Q:=Zt (qX g0)) (by decide) zM (zb (zX g0)) zN ?_;repeat' (first | (apply And.intro<;>intro hc<;>(first | exact Bool.noConfusion hc | (exfalso;first | exact absurd rfl hc | omega) | (simp only [zg] at hc<;>first | exact absurd rfl hc | (exfalso;first | exact absurd rfl hc | omega) | skip) | skip)) | (refine And.intro ze ?_) | (apply And.intro) | (intro s hs;(first | (have q:=qq hs (zL zR _) hP;clear hs;subst q) | (have q:=zAM hs (Nat.zero_add i);clear hs;subst q))) | (refine Exists.intro _ (And.intro ⟨rfl,rfl,rfl⟩ ?_)))
   . exact λ_ _=>⟨rfl,zl _⟩
   . exact Eq.mpr (congrArg (λz : List Hel=>z.length <= 9223372036854775807) (zL zR _)) (by omega)
   conv=>whnf
   have hLh : (ZO sd i).held.length = sd.held.length:=List.length_set;refine zw (s:=ZO sd i) (d:=2) hR2 ha rfl (λp h j=>zZ h) rfl rfl (by rw [hLh];rfl) rfl rfl hLh.symm rfl λq hq j hj=>zAO hil hj
 | false=>
   clear hle2;refine zK (wd:=1) (Q:=Zt (qX g0)) (by decide) zM (zb (zX g0)) zN ?_;repeat' (first | (apply And.intro<;>intro hc<;>(first | exact Bool.noConfusion hc | (exfalso;first | exact absurd rfl hc | omega) | (simp only [zg] at hc<;>first | exact absurd rfl hc | (exfalso;first | exact absurd rfl hc | omega) | skip) | skip)) | (refine And.intro ze ?_) | (apply And.intro) | (intro s hs;(first | (have q:=qq hs (zL zR _) hP;clear hs;subst q))) | (refine Exists.intro _ (And.intro ⟨rfl,rfl,rfl⟩ ?_)))
   . exact λ_ _=>⟨rfl,zl _⟩
   . exact Eq.mpr (congrArg (λz : List Hel=>z.length <= 9223372036854775807) (zL zR _)) (by omega)
   change Sem _ _ _ _ _ _ _ _;refine Zf (wd:=1024) (Q:=Zt (qX g0)) (by decide) zM (zb (zX g0)) (zT (zX g0)) zN (SB L 1 (za sd (c.num - 31)) now c deaf draw) (by intro _;rfl) ?_ ?_
   . repeat' (first | (simp only [w1]) | (apply And.intro<;>intro hc<;>(first | exact Bool.noConfusion hc | (exfalso;first | exact absurd rfl hc | omega) | (simp only [zg] at hc<;>first | exact absurd rfl hc | (exfalso;first | exact absurd rfl hc | omega) | skip) | skip)) | (refine And.intro ze ?_) | (apply And.intro) | (intro s hs;skip) | (refine Exists.intro _ (And.intro ⟨rfl,rfl,rfl⟩ ?_)))
     . exact rfl
     . conv=>whnf
       rw [show za sd (c.num - 31) = sd from if_pos hc];exact ⟨(),[],rfl,⟨zA rfl,zG rfl,zA rfl,zH rfl,zE (zD rfl rfl),zH rfl,trivial⟩,⟨⟨rfl,zI λj hj=>(Zr.sh _ j hj).le⟩,⟨rfl,⟨rfl,rfl,rfl,rfl,λp hp j hj=>Zg hj rfl⟩⟩,⟨rfl,zB⟩,trivial⟩⟩
     . exact ⟨rfl,zl _⟩
     . exact Eq.mpr (congrArg KpI (zL zR _)) hk
     . conv=>whnf
       have q : sd.held.filter (Zj (some (c.num - 31))) = s:=(hs.trans (by rw [zL zR])).symm;clear hs;rw [show za sd (c.num - 31) = ⟨sd.id,c.num - 31,s⟩ from (if_neg hc).trans (by rw [q])];refine ⟨(),[(2,some 4141)],rfl,⟨zA rfl,zG rfl,zA rfl,zH rfl,zE (zD rfl rfl),zH rfl,trivial⟩,⟨⟨rfl,zI λj hj=>(Zr.sh _ j hj).le⟩,⟨rfl,⟨rfl,rfl,rfl,rfl,λp hp j hj=>?_⟩⟩,⟨rfl,zB⟩,trivial⟩⟩;have hj : j < 3:=hj;refine zAN hj (λh=>(zq h).trans ((zq h).trans (zZ h))) λh=>?_;subst h;rcases j with _ | _ | _ | j
       . exact zC rfl
       . exact zC rfl
       . exact zD rfl rfl
       . omega
   . intro _;refine acc3 g0 L 1 (za sd (c.num - 31)) now c deaf draw ⟨ha,hn,zAP hk,zAQ hh,hnum,hd,hnow,hdr⟩ R ?_;rw [hR];unfold ZZ;rw [if_neg hge,hP];cases deaf<;>rfl
theorem acc2_2 (g0 : Nat) (L : List Sed) (a : Nat) (now : Int) (c : Cas) (deaf : Bool) (draw : Int) (hI : AcI L a now c draw) (R : List Sed × Bool × Int) (hR : R = (L.set a (ZZ (L.getD a default) now c deaf draw).1,(ZZ (L.getD a default) now c deaf draw).2,0)) (a3 : a = 2) :
 Sem Try.prog Try.f11.ntmps 0 (ZK 7 (Try.f11.body.getD Code.ret)) (SA L a now c deaf draw ()).fr (SA L a now c deaf draw ()).H (SA L a now c deaf draw ()).nx (qN T Try.f11.results.toList λx H _=>FinN (some R.1.length) (qE R) (ZL ZF 78 R.1) x H):=by
 obtain ⟨ha,hn,hk,hh,hmn,hnum,hd,hnow,hdr⟩:=hI;unfold SA;rw [zBA];obtain ⟨sd,es⟩ : ∃ s,L.getD a default = s:=⟨_,rfl⟩;rw [es] at hk hh hmn hR ⊢;subst a3;refine zK (wd:=1) (Q:=Zt (qX g0)) (by decide) zM (zb (zX g0)) zN ?_;repeat' (first | (apply And.intro<;>intro hc<;>(first | exact Bool.noConfusion hc | (exfalso;first | exact absurd rfl hc | omega) | (simp only [zg] at hc<;>first | exact absurd rfl hc | (exfalso;first | exact absurd rfl hc | omega) | skip) | skip)) | (refine And.intro ze ?_) | (apply And.intro) | (intro s hs;skip) | (refine Exists.intro _ (And.intro ⟨rfl,rfl,rfl⟩ ?_)))
 refine zK (wd:=1) (Q:=Zt (qX g0)) (by decide) zM (zb (zX g0)) zN ?_;repeat' (first | (apply And.intro<;>intro hc<;>(first | exact Bool.noConfusion hc | (exfalso;first | exact absurd rfl hc | omega) | (simp only [zg] at hc<;>first | exact absurd rfl hc | (exfalso;first | exact absurd rfl hc | omega) | skip) | skip)) | (refine And.intro ze ?_) | (apply And.intro) | (intro s hs;skip) | (refine Exists.intro _ (And.intro ⟨rfl,rfl,rfl⟩ ?_)))
 . refine zw (s:=sd) (d:=2) (hR.trans ?_) ha rfl (λp h j=>zZ h) rfl rfl rfl rfl rfl rfl rfl λq hq j hj=>(zn.sh _ j hj).le;unfold ZZ;rw [if_pos hc]
 have hge:=hc;have w1 : IntKind.i64.wrap (c.num - 31) = c.num - 31:=IntWalk.i64_in _ (by omega);obtain ⟨⟨i,b⟩,hP⟩ : ∃ P,ZN c.num sd.held 0 = P:=⟨_,rfl⟩;have hle:=QE (id:=c.num) (L:=sd.held) (k:=0);rw [hP,Nat.zero_add] at hle;dsimp only at hle;obtain ⟨hle1,hle2,_⟩:=hle;cases b with
 | true=>
   have hil:=hle2 rfl;clear hle2;have hR2 : R = (L.set 2 (ZO sd i),false,0):=by
    rw [hR];unfold ZZ;rw [if_neg (by omega),hP];rfl
   refine zK (wd:=1) (Q:=Zt (qX g0)) (by decide) zM (zb (zX g0)) zN ?_;repeat' (first | (apply And.intro<;>intro hc<;>(first | exact Bool.noConfusion hc | (exfalso;first | exact absurd rfl hc | omega) | (simp only [zg] at hc<;>first | exact absurd rfl hc | (exfalso;first | exact absurd rfl hc | omega) | skip) | skip)) | (refine And.intro ze ?_) | (apply And.intro) | (intro s hs;(first | (have q:=qq hs (zL zR _) hP;clear hs;subst q) | (have q:=zAM hs (Nat.zero_add i);clear hs;subst q))) | (refine Exists.intro _ (And.intro ⟨rfl,rfl,rfl⟩ ?_)))
   . exact λ_ _=>⟨rfl,zl _⟩
   . exact Eq.mpr (congrArg (λz : List Hel=>z.length <= 9223372036854775807) (zL zR _)) (by omega)
   conv=>whnf
   have hLh : (ZO sd i).held.length = sd.held.length:=List.length_set;refine zw (s:=ZO sd i) (d:=2) hR2 ha rfl (λp h j=>zZ h) rfl rfl (by rw [hLh];rfl) rfl rfl hLh.symm rfl λq hq j hj=>zAO hil hj
 | false=>
   clear hle2;refine zK (wd:=1) (Q:=Zt (qX g0)) (by decide) zM (zb (zX g0)) zN ?_;repeat' (first | (apply And.intro<;>intro hc<;>(first | exact Bool.noConfusion hc | (exfalso;first | exact absurd rfl hc | omega) | (simp only [zg] at hc<;>first | exact absurd rfl hc | (exfalso;first | exact absurd rfl hc | omega) | skip) | skip)) | (refine And.intro ze ?_) | (apply And.intro) | (intro s hs;(first | (have q:=qq hs (zL zR _) hP;clear hs;subst q))) | (refine Exists.intro _ (And.intro ⟨rfl,rfl,rfl⟩ ?_)))
   . exact λ_ _=>⟨rfl,zl _⟩
   . exact Eq.mpr (congrArg (λz : List Hel=>z.length <= 9223372036854775807) (zL zR _)) (by omega)
   change Sem _ _ _ _ _ _ _ _;refine Zf (wd:=1024) (Q:=Zt (qX g0)) (by decide) zM (zb (zX g0)) (zT (zX g0)) zN (SB L 2 (za sd (c.num - 31)) now c deaf draw) (by intro _;rfl) ?_ ?_
   . repeat' (first | (simp only [w1]) | (apply And.intro<;>intro hc<;>(first | exact Bool.noConfusion hc | (exfalso;first | exact absurd rfl hc | omega) | (simp only [zg] at hc<;>first | exact absurd rfl hc | (exfalso;first | exact absurd rfl hc | omega) | skip) | skip)) | (refine And.intro ze ?_) | (apply And.intro) | (intro s hs;skip) | (refine Exists.intro _ (And.intro ⟨rfl,rfl,rfl⟩ ?_)))
     . exact rfl
     . conv=>whnf
       rw [show za sd (c.num - 31) = sd from if_pos hc];exact ⟨(),[],rfl,⟨zA rfl,zG rfl,zA rfl,zH rfl,zE (zD rfl rfl),zH rfl,trivial⟩,⟨⟨rfl,zI λj hj=>(Zr.sh _ j hj).le⟩,⟨rfl,⟨rfl,rfl,rfl,rfl,λp hp j hj=>Zg hj rfl⟩⟩,⟨rfl,zB⟩,trivial⟩⟩
     . exact ⟨rfl,zl _⟩
     . exact Eq.mpr (congrArg KpI (zL zR _)) hk
     . conv=>whnf
       have q : sd.held.filter (Zj (some (c.num - 31))) = s:=(hs.trans (by rw [zL zR])).symm;clear hs;rw [show za sd (c.num - 31) = ⟨sd.id,c.num - 31,s⟩ from (if_neg hc).trans (by rw [q])];refine ⟨(),[(2,some 4141)],rfl,⟨zA rfl,zG rfl,zA rfl,zH rfl,zE (zD rfl rfl),zH rfl,trivial⟩,⟨⟨rfl,zI λj hj=>(Zr.sh _ j hj).le⟩,⟨rfl,⟨rfl,rfl,rfl,rfl,λp hp j hj=>?_⟩⟩,⟨rfl,zB⟩,trivial⟩⟩;have hj : j < 3:=hj;refine zAN hj (λh=>(zq h).trans ((zq h).trans (zZ h))) λh=>?_;subst h;rcases j with _ | _ | _ | j
       . exact zC rfl
       . exact zC rfl
       . exact zD rfl rfl
       . omega
   . intro _;refine acc3 g0 L 2 (za sd (c.num - 31)) now c deaf draw ⟨ha,hn,zAP hk,zAQ hh,hnum,hd,hnow,hdr⟩ R ?_;rw [hR];unfold ZZ;rw [if_neg hge,hP];cases deaf<;>rfl
theorem acc2_3 (g0 : Nat) (L : List Sed) (a : Nat) (now : Int) (c : Cas) (deaf : Bool) (draw : Int) (hI : AcI L a now c draw) (R : List Sed × Bool × Int) (hR : R = (L.set a (ZZ (L.getD a default) now c deaf draw).1,(ZZ (L.getD a default) now c deaf draw).2,0)) (a3 : a = 3) :
 Sem Try.prog Try.f11.ntmps 0 (ZK 7 (Try.f11.body.getD Code.ret)) (SA L a now c deaf draw ()).fr (SA L a now c deaf draw ()).H (SA L a now c deaf draw ()).nx (qN T Try.f11.results.toList λx H _=>FinN (some R.1.length) (qE R) (ZL ZF 78 R.1) x H):=by
 obtain ⟨ha,hn,hk,hh,hmn,hnum,hd,hnow,hdr⟩:=hI;unfold SA;rw [zBA];obtain ⟨sd,es⟩ : ∃ s,L.getD a default = s:=⟨_,rfl⟩;rw [es] at hk hh hmn hR ⊢;subst a3;refine zK (wd:=1) (Q:=Zt (qX g0)) (by decide) zM (zb (zX g0)) zN ?_;repeat' (first | (apply And.intro<;>intro hc<;>(first | exact Bool.noConfusion hc | (exfalso;first | exact absurd rfl hc | omega) | (simp only [zg] at hc<;>first | exact absurd rfl hc | (exfalso;first | exact absurd rfl hc | omega) | skip) | skip)) | (refine And.intro ze ?_) | (apply And.intro) | (intro s hs;skip) | (refine Exists.intro _ (And.intro ⟨rfl,rfl,rfl⟩ ?_)))
 refine zK (wd:=1) (Q:=Zt (qX g0)) (by decide) zM (zb (zX g0)) zN ?_;repeat' (first | (apply And.intro<;>intro hc<;>(first | exact Bool.noConfusion hc | (exfalso;first | exact absurd rfl hc | omega) | (simp only [zg] at hc<;>first | exact absurd rfl hc | (exfalso;first | exact absurd rfl hc | omega) | skip) | skip)) | (refine And.intro ze ?_) | (apply And.intro) | (intro s hs;skip) | (refine Exists.intro _ (And.intro ⟨rfl,rfl,rfl⟩ ?_)))
 . refine zw (s:=sd) (d:=2) (hR.trans ?_) ha rfl (λp h j=>zZ h) rfl rfl rfl rfl rfl rfl rfl λq hq j hj=>(zn.sh _ j hj).le;unfold ZZ;rw [if_pos hc]
 have hge:=hc;have w1 : IntKind.i64.wrap (c.num - 31) = c.num - 31:=IntWalk.i64_in _ (by omega);obtain ⟨⟨i,b⟩,hP⟩ : ∃ P,ZN c.num sd.held 0 = P:=⟨_,rfl⟩;have hle:=QE (id:=c.num) (L:=sd.held) (k:=0);rw [hP,Nat.zero_add] at hle;dsimp only at hle;obtain ⟨hle1,hle2,_⟩:=hle;cases b with
 | true=>
   have hil:=hle2 rfl;clear hle2;have hR2 : R = (L.set 3 (ZO sd i),false,0):=by
    rw [hR];unfold ZZ;rw [if_neg (by omega),hP];rfl
   refine zK (wd:=1) (Q:=Zt (qX g0)) (by decide) zM (zb (zX g0)) zN ?_;repeat' (first | (apply And.intro<;>intro hc<;>(first | exact Bool.noConfusion hc | (exfalso;first | exact absurd rfl hc | omega) | (simp only [zg] at hc<;>first | exact absurd rfl hc | (exfalso;first | exact absurd rfl hc | omega) | skip) | skip)) | (refine And.intro ze ?_) | (apply And.intro) | (intro s hs;(first | (have q:=qq hs (zL zR _) hP;clear hs;subst q) | (have q:=zAM hs (Nat.zero_add i);clear hs;subst q))) | (refine Exists.intro _ (And.intro ⟨rfl,rfl,rfl⟩ ?_)))
   . exact λ_ _=>⟨rfl,zl _⟩
   . exact Eq.mpr (congrArg (λz : List Hel=>z.length <= 9223372036854775807) (zL zR _)) (by omega)
   conv=>whnf
   have hLh : (ZO sd i).held.length = sd.held.length:=List.length_set;refine zw (s:=ZO sd i) (d:=2) hR2 ha rfl (λp h j=>zZ h) rfl rfl (by rw [hLh];rfl) rfl rfl hLh.symm rfl λq hq j hj=>zAO hil hj
 | false=>
   clear hle2;refine zK (wd:=1) (Q:=Zt (qX g0)) (by decide) zM (zb (zX g0)) zN ?_;repeat' (first | (apply And.intro<;>intro hc<;>(first | exact Bool.noConfusion hc | (exfalso;first | exact absurd rfl hc | omega) | (simp only [zg] at hc<;>first | exact absurd rfl hc | (exfalso;first | exact absurd rfl hc | omega) | skip) | skip)) | (refine And.intro ze ?_) | (apply And.intro) | (intro s hs;(first | (have q:=qq hs (zL zR _) hP;clear hs;subst q))) | (refine Exists.intro _ (And.intro ⟨rfl,rfl,rfl⟩ ?_)))
   . exact λ_ _=>⟨rfl,zl _⟩
   . exact Eq.mpr (congrArg (λz : List Hel=>z.length <= 9223372036854775807) (zL zR _)) (by omega)
   change Sem _ _ _ _ _ _ _ _;refine Zf (wd:=1024) (Q:=Zt (qX g0)) (by decide) zM (zb (zX g0)) (zT (zX g0)) zN (SB L 3 (za sd (c.num - 31)) now c deaf draw) (by intro _;rfl) ?_ ?_
   . repeat' (first | (simp only [w1]) | (apply And.intro<;>intro hc<;>(first | exact Bool.noConfusion hc | (exfalso;first | exact absurd rfl hc | omega) | (simp only [zg] at hc<;>first | exact absurd rfl hc | (exfalso;first | exact absurd rfl hc | omega) | skip) | skip)) | (refine And.intro ze ?_) | (apply And.intro) | (intro s hs;skip) | (refine Exists.intro _ (And.intro ⟨rfl,rfl,rfl⟩ ?_)))
     . exact rfl
     . conv=>whnf
       rw [show za sd (c.num - 31) = sd from if_pos hc];exact ⟨(),[],rfl,⟨zA rfl,zG rfl,zA rfl,zH rfl,zE (zD rfl rfl),zH rfl,trivial⟩,⟨⟨rfl,zI λj hj=>(Zr.sh _ j hj).le⟩,⟨rfl,⟨rfl,rfl,rfl,rfl,λp hp j hj=>Zg hj rfl⟩⟩,⟨rfl,zB⟩,trivial⟩⟩
     . exact ⟨rfl,zl _⟩
     . exact Eq.mpr (congrArg KpI (zL zR _)) hk
     . conv=>whnf
       have q : sd.held.filter (Zj (some (c.num - 31))) = s:=(hs.trans (by rw [zL zR])).symm;clear hs;rw [show za sd (c.num - 31) = ⟨sd.id,c.num - 31,s⟩ from (if_neg hc).trans (by rw [q])];refine ⟨(),[(2,some 4141)],rfl,⟨zA rfl,zG rfl,zA rfl,zH rfl,zE (zD rfl rfl),zH rfl,trivial⟩,⟨⟨rfl,zI λj hj=>(Zr.sh _ j hj).le⟩,⟨rfl,⟨rfl,rfl,rfl,rfl,λp hp j hj=>?_⟩⟩,⟨rfl,zB⟩,trivial⟩⟩;have hj : j < 3:=hj;refine zAN hj (λh=>(zq h).trans ((zq h).trans (zZ h))) λh=>?_;subst h;rcases j with _ | _ | _ | j
       . exact zC rfl
       . exact zC rfl
       . exact zD rfl rfl
       . omega
   . intro _;refine acc3 g0 L 3 (za sd (c.num - 31)) now c deaf draw ⟨ha,hn,zAP hk,zAQ hh,hnum,hd,hnow,hdr⟩ R ?_;rw [hR];unfold ZZ;rw [if_neg hge,hP];cases deaf<;>rfl
theorem acc2_4 (g0 : Nat) (L : List Sed) (a : Nat) (now : Int) (c : Cas) (deaf : Bool) (draw : Int) (hI : AcI L a now c draw) (R : List Sed × Bool × Int) (hR : R = (L.set a (ZZ (L.getD a default) now c deaf draw).1,(ZZ (L.getD a default) now c deaf draw).2,0)) (a3 : a = 4) :
 Sem Try.prog Try.f11.ntmps 0 (ZK 7 (Try.f11.body.getD Code.ret)) (SA L a now c deaf draw ()).fr (SA L a now c deaf draw ()).H (SA L a now c deaf draw ()).nx (qN T Try.f11.results.toList λx H _=>FinN (some R.1.length) (qE R) (ZL ZF 78 R.1) x H):=by
 obtain ⟨ha,hn,hk,hh,hmn,hnum,hd,hnow,hdr⟩:=hI;unfold SA;rw [zBA];obtain ⟨sd,es⟩ : ∃ s,L.getD a default = s:=⟨_,rfl⟩;rw [es] at hk hh hmn hR ⊢;subst a3;refine zK (wd:=1) (Q:=Zt (qX g0)) (by decide) zM (zb (zX g0)) zN ?_;repeat' (first | (apply And.intro<;>intro hc<;>(first | exact Bool.noConfusion hc | (exfalso;first | exact absurd rfl hc | omega) | (simp only [zg] at hc<;>first | exact absurd rfl hc | (exfalso;first | exact absurd rfl hc | omega) | skip) | skip)) | (refine And.intro ze ?_) | (apply And.intro) | (intro s hs;skip) | (refine Exists.intro _ (And.intro ⟨rfl,rfl,rfl⟩ ?_)))
 refine zK (wd:=1) (Q:=Zt (qX g0)) (by decide) zM (zb (zX g0)) zN ?_;repeat' (first | (apply And.intro<;>intro hc<;>(first | exact Bool.noConfusion hc | (exfalso;first | exact absurd rfl hc | omega) | (simp only [zg] at hc<;>first | exact absurd rfl hc | (exfalso;first | exact absurd rfl hc | omega) | skip) | skip)) | (refine And.intro ze ?_) | (apply And.intro) | (intro s hs;skip) | (refine Exists.intro _ (And.intro ⟨rfl,rfl,rfl⟩ ?_)))
 . refine zw (s:=sd) (d:=2) (hR.trans ?_) ha rfl (λp h j=>zZ h) rfl rfl rfl rfl rfl rfl rfl λq hq j hj=>(zn.sh _ j hj).le;unfold ZZ;rw [if_pos hc]
 have hge:=hc;have w1 : IntKind.i64.wrap (c.num - 31) = c.num - 31:=IntWalk.i64_in _ (by omega);obtain ⟨⟨i,b⟩,hP⟩ : ∃ P,ZN c.num sd.held 0 = P:=⟨_,rfl⟩;have hle:=QE (id:=c.num) (L:=sd.held) (k:=0);rw [hP,Nat.zero_add] at hle;dsimp only at hle;obtain ⟨hle1,hle2,_⟩:=hle;cases b with
 | true=>
   have hil:=hle2 rfl;clear hle2;have hR2 : R = (L.set 4 (ZO sd i),false,0):=by
    rw [hR];unfold ZZ;rw [if_neg (by omega),hP];rfl
   refine zK (wd:=1) (Q:=Zt (qX g0)) (by decide) zM (zb (zX g0)) zN ?_;repeat' (first | (apply And.intro<;>intro hc<;>(first | exact Bool.noConfusion hc | (exfalso;first | exact absurd rfl hc | omega) | (simp only [zg] at hc<;>first | exact absurd rfl hc | (exfalso;first | exact absurd rfl hc | omega) | skip) | skip)) | (refine And.intro ze ?_) | (apply And.intro) | (intro s hs;(first | (have q:=qq hs (zL zR _) hP;clear hs;subst q) | (have q:=zAM hs (Nat.zero_add i);clear hs;subst q))) | (refine Exists.intro _ (And.intro ⟨rfl,rfl,rfl⟩ ?_)))
   . exact λ_ _=>⟨rfl,zl _⟩
   . exact Eq.mpr (congrArg (λz : List Hel=>z.length <= 9223372036854775807) (zL zR _)) (by omega)
   conv=>whnf
   have hLh : (ZO sd i).held.length = sd.held.length:=List.length_set;refine zw (s:=ZO sd i) (d:=2) hR2 ha rfl (λp h j=>zZ h) rfl rfl (by rw [hLh];rfl) rfl rfl hLh.symm rfl λq hq j hj=>zAO hil hj
 | false=>
   clear hle2;refine zK (wd:=1) (Q:=Zt (qX g0)) (by decide) zM (zb (zX g0)) zN ?_;repeat' (first | (apply And.intro<;>intro hc<;>(first | exact Bool.noConfusion hc | (exfalso;first | exact absurd rfl hc | omega) | (simp only [zg] at hc<;>first | exact absurd rfl hc | (exfalso;first | exact absurd rfl hc | omega) | skip) | skip)) | (refine And.intro ze ?_) | (apply And.intro) | (intro s hs;(first | (have q:=qq hs (zL zR _) hP;clear hs;subst q))) | (refine Exists.intro _ (And.intro ⟨rfl,rfl,rfl⟩ ?_)))
   . exact λ_ _=>⟨rfl,zl _⟩
   . exact Eq.mpr (congrArg (λz : List Hel=>z.length <= 9223372036854775807) (zL zR _)) (by omega)
   change Sem _ _ _ _ _ _ _ _;refine Zf (wd:=1024) (Q:=Zt (qX g0)) (by decide) zM (zb (zX g0)) (zT (zX g0)) zN (SB L 4 (za sd (c.num - 31)) now c deaf draw) (by intro _;rfl) ?_ ?_
   . repeat' (first | (simp only [w1]) | (apply And.intro<;>intro hc<;>(first | exact Bool.noConfusion hc | (exfalso;first | exact absurd rfl hc | omega) | (simp only [zg] at hc<;>first | exact absurd rfl hc | (exfalso;first | exact absurd rfl hc | omega) | skip) | skip)) | (refine And.intro ze ?_) | (apply And.intro) | (intro s hs;skip) | (refine Exists.intro _ (And.intro ⟨rfl,rfl,rfl⟩ ?_)))
     . exact rfl
     . conv=>whnf
       rw [show za sd (c.num - 31) = sd from if_pos hc];exact ⟨(),[],rfl,⟨zA rfl,zG rfl,zA rfl,zH rfl,zE (zD rfl rfl),zH rfl,trivial⟩,⟨⟨rfl,zI λj hj=>(Zr.sh _ j hj).le⟩,⟨rfl,⟨rfl,rfl,rfl,rfl,λp hp j hj=>Zg hj rfl⟩⟩,⟨rfl,zB⟩,trivial⟩⟩
     . exact ⟨rfl,zl _⟩
     . exact Eq.mpr (congrArg KpI (zL zR _)) hk
     . conv=>whnf
       have q : sd.held.filter (Zj (some (c.num - 31))) = s:=(hs.trans (by rw [zL zR])).symm;clear hs;rw [show za sd (c.num - 31) = ⟨sd.id,c.num - 31,s⟩ from (if_neg hc).trans (by rw [q])];refine ⟨(),[(2,some 4141)],rfl,⟨zA rfl,zG rfl,zA rfl,zH rfl,zE (zD rfl rfl),zH rfl,trivial⟩,⟨⟨rfl,zI λj hj=>(Zr.sh _ j hj).le⟩,⟨rfl,⟨rfl,rfl,rfl,rfl,λp hp j hj=>?_⟩⟩,⟨rfl,zB⟩,trivial⟩⟩;have hj : j < 3:=hj;refine zAN hj (λh=>(zq h).trans ((zq h).trans (zZ h))) λh=>?_;subst h;rcases j with _ | _ | _ | j
       . exact zC rfl
       . exact zC rfl
       . exact zD rfl rfl
       . omega
   . intro _;refine acc3 g0 L 4 (za sd (c.num - 31)) now c deaf draw ⟨ha,hn,zAP hk,zAQ hh,hnum,hd,hnow,hdr⟩ R ?_;rw [hR];unfold ZZ;rw [if_neg hge,hP];cases deaf<;>rfl
theorem acc2_5 (g0 : Nat) (L : List Sed) (a : Nat) (now : Int) (c : Cas) (deaf : Bool) (draw : Int) (hI : AcI L a now c draw) (R : List Sed × Bool × Int) (hR : R = (L.set a (ZZ (L.getD a default) now c deaf draw).1,(ZZ (L.getD a default) now c deaf draw).2,0)) (a3 : a = 5) :
 Sem Try.prog Try.f11.ntmps 0 (ZK 7 (Try.f11.body.getD Code.ret)) (SA L a now c deaf draw ()).fr (SA L a now c deaf draw ()).H (SA L a now c deaf draw ()).nx (qN T Try.f11.results.toList λx H _=>FinN (some R.1.length) (qE R) (ZL ZF 78 R.1) x H):=by
 obtain ⟨ha,hn,hk,hh,hmn,hnum,hd,hnow,hdr⟩:=hI;unfold SA;rw [zBA];obtain ⟨sd,es⟩ : ∃ s,L.getD a default = s:=⟨_,rfl⟩;rw [es] at hk hh hmn hR ⊢;subst a3;refine zK (wd:=1) (Q:=Zt (qX g0)) (by decide) zM (zb (zX g0)) zN ?_;repeat' (first | (apply And.intro<;>intro hc<;>(first | exact Bool.noConfusion hc | (exfalso;first | exact absurd rfl hc | omega) | (simp only [zg] at hc<;>first | exact absurd rfl hc | (exfalso;first | exact absurd rfl hc | omega) | skip) | skip)) | (refine And.intro ze ?_) | (apply And.intro) | (intro s hs;skip) | (refine Exists.intro _ (And.intro ⟨rfl,rfl,rfl⟩ ?_)))
 refine zK (wd:=1) (Q:=Zt (qX g0)) (by decide) zM (zb (zX g0)) zN ?_;repeat' (first | (apply And.intro<;>intro hc<;>(first | exact Bool.noConfusion hc | (exfalso;first | exact absurd rfl hc | omega) | (simp only [zg] at hc<;>first | exact absurd rfl hc | (exfalso;first | exact absurd rfl hc | omega) | skip) | skip)) | (refine And.intro ze ?_) | (apply And.intro) | (intro s hs;skip) | (refine Exists.intro _ (And.intro ⟨rfl,rfl,rfl⟩ ?_)))
 . refine zw (s:=sd) (d:=2) (hR.trans ?_) ha rfl (λp h j=>zZ h) rfl rfl rfl rfl rfl rfl rfl λq hq j hj=>(zn.sh _ j hj).le;unfold ZZ;rw [if_pos hc]
 have hge:=hc;have w1 : IntKind.i64.wrap (c.num - 31) = c.num - 31:=IntWalk.i64_in _ (by omega);obtain ⟨⟨i,b⟩,hP⟩ : ∃ P,ZN c.num sd.held 0 = P:=⟨_,rfl⟩;have hle:=QE (id:=c.num) (L:=sd.held) (k:=0);rw [hP,Nat.zero_add] at hle;dsimp only at hle;obtain ⟨hle1,hle2,_⟩:=hle;cases b with
 | true=>
   have hil:=hle2 rfl;clear hle2;have hR2 : R = (L.set 5 (ZO sd i),false,0):=by
    rw [hR];unfold ZZ;rw [if_neg (by omega),hP];rfl
   refine zK (wd:=1) (Q:=Zt (qX g0)) (by decide) zM (zb (zX g0)) zN ?_;repeat' (first | (apply And.intro<;>intro hc<;>(first | exact Bool.noConfusion hc | (exfalso;first | exact absurd rfl hc | omega) | (simp only [zg] at hc<;>first | exact absurd rfl hc | (exfalso;first | exact absurd rfl hc | omega) | skip) | skip)) | (refine And.intro ze ?_) | (apply And.intro) | (intro s hs;(first | (have q:=qq hs (zL zR _) hP;clear hs;subst q) | (have q:=zAM hs (Nat.zero_add i);clear hs;subst q))) | (refine Exists.intro _ (And.intro ⟨rfl,rfl,rfl⟩ ?_)))
   . exact λ_ _=>⟨rfl,zl _⟩
   . exact Eq.mpr (congrArg (λz : List Hel=>z.length <= 9223372036854775807) (zL zR _)) (by omega)
   conv=>whnf
   have hLh : (ZO sd i).held.length = sd.held.length:=List.length_set;refine zw (s:=ZO sd i) (d:=2) hR2 ha rfl (λp h j=>zZ h) rfl rfl (by rw [hLh];rfl) rfl rfl hLh.symm rfl λq hq j hj=>zAO hil hj
 | false=>
   clear hle2;refine zK (wd:=1) (Q:=Zt (qX g0)) (by decide) zM (zb (zX g0)) zN ?_;repeat' (first | (apply And.intro<;>intro hc<;>(first | exact Bool.noConfusion hc | (exfalso;first | exact absurd rfl hc | omega) | (simp only [zg] at hc<;>first | exact absurd rfl hc | (exfalso;first | exact absurd rfl hc | omega) | skip) | skip)) | (refine And.intro ze ?_) | (apply And.intro) | (intro s hs;(first | (have q:=qq hs (zL zR _) hP;clear hs;subst q))) | (refine Exists.intro _ (And.intro ⟨rfl,rfl,rfl⟩ ?_)))
   . exact λ_ _=>⟨rfl,zl _⟩
   . exact Eq.mpr (congrArg (λz : List Hel=>z.length <= 9223372036854775807) (zL zR _)) (by omega)
   change Sem _ _ _ _ _ _ _ _;refine Zf (wd:=1024) (Q:=Zt (qX g0)) (by decide) zM (zb (zX g0)) (zT (zX g0)) zN (SB L 5 (za sd (c.num - 31)) now c deaf draw) (by intro _;rfl) ?_ ?_
   . repeat' (first | (simp only [w1]) | (apply And.intro<;>intro hc<;>(first | exact Bool.noConfusion hc | (exfalso;first | exact absurd rfl hc | omega) | (simp only [zg] at hc<;>first | exact absurd rfl hc | (exfalso;first | exact absurd rfl hc | omega) | skip) | skip)) | (refine And.intro ze ?_) | (apply And.intro) | (intro s hs;skip) | (refine Exists.intro _ (And.intro ⟨rfl,rfl,rfl⟩ ?_)))
     . exact rfl
     . conv=>whnf
       rw [show za sd (c.num - 31) = sd from if_pos hc];exact ⟨(),[],rfl,⟨zA rfl,zG rfl,zA rfl,zH rfl,zE (zD rfl rfl),zH rfl,trivial⟩,⟨⟨rfl,zI λj hj=>(Zr.sh _ j hj).le⟩,⟨rfl,⟨rfl,rfl,rfl,rfl,λp hp j hj=>Zg hj rfl⟩⟩,⟨rfl,zB⟩,trivial⟩⟩
     . exact ⟨rfl,zl _⟩
     . exact Eq.mpr (congrArg KpI (zL zR _)) hk
     . conv=>whnf
       have q : sd.held.filter (Zj (some (c.num - 31))) = s:=(hs.trans (by rw [zL zR])).symm;clear hs;rw [show za sd (c.num - 31) = ⟨sd.id,c.num - 31,s⟩ from (if_neg hc).trans (by rw [q])];refine ⟨(),[(2,some 4141)],rfl,⟨zA rfl,zG rfl,zA rfl,zH rfl,zE (zD rfl rfl),zH rfl,trivial⟩,⟨⟨rfl,zI λj hj=>(Zr.sh _ j hj).le⟩,⟨rfl,⟨rfl,rfl,rfl,rfl,λp hp j hj=>?_⟩⟩,⟨rfl,zB⟩,trivial⟩⟩;have hj : j < 3:=hj;refine zAN hj (λh=>(zq h).trans ((zq h).trans (zZ h))) λh=>?_;subst h;rcases j with _ | _ | _ | j
       . exact zC rfl
       . exact zC rfl
       . exact zD rfl rfl
       . omega
   . intro _;refine acc3 g0 L 5 (za sd (c.num - 31)) now c deaf draw ⟨ha,hn,zAP hk,zAQ hh,hnum,hd,hnow,hdr⟩ R ?_;rw [hR];unfold ZZ;rw [if_neg hge,hP];cases deaf<;>rfl
theorem acc2_6 (g0 : Nat) (L : List Sed) (a : Nat) (now : Int) (c : Cas) (deaf : Bool) (draw : Int) (hI : AcI L a now c draw) (R : List Sed × Bool × Int) (hR : R = (L.set a (ZZ (L.getD a default) now c deaf draw).1,(ZZ (L.getD a default) now c deaf draw).2,0)) (a3 : a = 6) :
 Sem Try.prog Try.f11.ntmps 0 (ZK 7 (Try.f11.body.getD Code.ret)) (SA L a now c deaf draw ()).fr (SA L a now c deaf draw ()).H (SA L a now c deaf draw ()).nx (qN T Try.f11.results.toList λx H _=>FinN (some R.1.length) (qE R) (ZL ZF 78 R.1) x H):=by
 obtain ⟨ha,hn,hk,hh,hmn,hnum,hd,hnow,hdr⟩:=hI;unfold SA;rw [zBA];obtain ⟨sd,es⟩ : ∃ s,L.getD a default = s:=⟨_,rfl⟩;rw [es] at hk hh hmn hR ⊢;subst a3;refine zK (wd:=1) (Q:=Zt (qX g0)) (by decide) zM (zb (zX g0)) zN ?_;repeat' (first | (apply And.intro<;>intro hc<;>(first | exact Bool.noConfusion hc | (exfalso;first | exact absurd rfl hc | omega) | (simp only [zg] at hc<;>first | exact absurd rfl hc | (exfalso;first | exact absurd rfl hc | omega) | skip) | skip)) | (refine And.intro ze ?_) | (apply And.intro) | (intro s hs;skip) | (refine Exists.intro _ (And.intro ⟨rfl,rfl,rfl⟩ ?_)))
 refine zK (wd:=1) (Q:=Zt (qX g0)) (by decide) zM (zb (zX g0)) zN ?_;repeat' (first | (apply And.intro<;>intro hc<;>(first | exact Bool.noConfusion hc | (exfalso;first | exact absurd rfl hc | omega) | (simp only [zg] at hc<;>first | exact absurd rfl hc | (exfalso;first | exact absurd rfl hc | omega) | skip) | skip)) | (refine And.intro ze ?_) | (apply And.intro) | (intro s hs;skip) | (refine Exists.intro _ (And.intro ⟨rfl,rfl,rfl⟩ ?_)))
 . refine zw (s:=sd) (d:=2) (hR.trans ?_) ha rfl (λp h j=>zZ h) rfl rfl rfl rfl rfl rfl rfl λq hq j hj=>(zn.sh _ j hj).le;unfold ZZ;rw [if_pos hc]
 have hge:=hc;have w1 : IntKind.i64.wrap (c.num - 31) = c.num - 31:=IntWalk.i64_in _ (by omega);obtain ⟨⟨i,b⟩,hP⟩ : ∃ P,ZN c.num sd.held 0 = P:=⟨_,rfl⟩;have hle:=QE (id:=c.num) (L:=sd.held) (k:=0);rw [hP,Nat.zero_add] at hle;dsimp only at hle;obtain ⟨hle1,hle2,_⟩:=hle;cases b with
 | true=>
   have hil:=hle2 rfl;clear hle2;have hR2 : R = (L.set 6 (ZO sd i),false,0):=by
    rw [hR];unfold ZZ;rw [if_neg (by omega),hP];rfl
   refine zK (wd:=1) (Q:=Zt (qX g0)) (by decide) zM (zb (zX g0)) zN ?_;repeat' (first | (apply And.intro<;>intro hc<;>(first | exact Bool.noConfusion hc | (exfalso;first | exact absurd rfl hc | omega) | (simp only [zg] at hc<;>first | exact absurd rfl hc | (exfalso;first | exact absurd rfl hc | omega) | skip) | skip)) | (refine And.intro ze ?_) | (apply And.intro) | (intro s hs;(first | (have q:=qq hs (zL zR _) hP;clear hs;subst q) | (have q:=zAM hs (Nat.zero_add i);clear hs;subst q))) | (refine Exists.intro _ (And.intro ⟨rfl,rfl,rfl⟩ ?_)))
   . exact λ_ _=>⟨rfl,zl _⟩
   . exact Eq.mpr (congrArg (λz : List Hel=>z.length <= 9223372036854775807) (zL zR _)) (by omega)
   conv=>whnf
   have hLh : (ZO sd i).held.length = sd.held.length:=List.length_set;refine zw (s:=ZO sd i) (d:=2) hR2 ha rfl (λp h j=>zZ h) rfl rfl (by rw [hLh];rfl) rfl rfl hLh.symm rfl λq hq j hj=>zAO hil hj
 | false=>
   clear hle2;refine zK (wd:=1) (Q:=Zt (qX g0)) (by decide) zM (zb (zX g0)) zN ?_;repeat' (first | (apply And.intro<;>intro hc<;>(first | exact Bool.noConfusion hc | (exfalso;first | exact absurd rfl hc | omega) | (simp only [zg] at hc<;>first | exact absurd rfl hc | (exfalso;first | exact absurd rfl hc | omega) | skip) | skip)) | (refine And.intro ze ?_) | (apply And.intro) | (intro s hs;(first | (have q:=qq hs (zL zR _) hP;clear hs;subst q))) | (refine Exists.intro _ (And.intro ⟨rfl,rfl,rfl⟩ ?_)))
   . exact λ_ _=>⟨rfl,zl _⟩
   . exact Eq.mpr (congrArg (λz : List Hel=>z.length <= 9223372036854775807) (zL zR _)) (by omega)
   change Sem _ _ _ _ _ _ _ _;refine Zf (wd:=1024) (Q:=Zt (qX g0)) (by decide) zM (zb (zX g0)) (zT (zX g0)) zN (SB L 6 (za sd (c.num - 31)) now c deaf draw) (by intro _;rfl) ?_ ?_
   . repeat' (first | (simp only [w1]) | (apply And.intro<;>intro hc<;>(first | exact Bool.noConfusion hc | (exfalso;first | exact absurd rfl hc | omega) | (simp only [zg] at hc<;>first | exact absurd rfl hc | (exfalso;first | exact absurd rfl hc | omega) | skip) | skip)) | (refine And.intro ze ?_) | (apply And.intro) | (intro s hs;skip) | (refine Exists.intro _ (And.intro ⟨rfl,rfl,rfl⟩ ?_)))
     . exact rfl
     . conv=>whnf
       rw [show za sd (c.num - 31) = sd from if_pos hc];exact ⟨(),[],rfl,⟨zA rfl,zG rfl,zA rfl,zH rfl,zE (zD rfl rfl),zH rfl,trivial⟩,⟨⟨rfl,zI λj hj=>(Zr.sh _ j hj).le⟩,⟨rfl,⟨rfl,rfl,rfl,rfl,λp hp j hj=>Zg hj rfl⟩⟩,⟨rfl,zB⟩,trivial⟩⟩
     . exact ⟨rfl,zl _⟩
     . exact Eq.mpr (congrArg KpI (zL zR _)) hk
     . conv=>whnf
       have q : sd.held.filter (Zj (some (c.num - 31))) = s:=(hs.trans (by rw [zL zR])).symm;clear hs;rw [show za sd (c.num - 31) = ⟨sd.id,c.num - 31,s⟩ from (if_neg hc).trans (by rw [q])];refine ⟨(),[(2,some 4141)],rfl,⟨zA rfl,zG rfl,zA rfl,zH rfl,zE (zD rfl rfl),zH rfl,trivial⟩,⟨⟨rfl,zI λj hj=>(Zr.sh _ j hj).le⟩,⟨rfl,⟨rfl,rfl,rfl,rfl,λp hp j hj=>?_⟩⟩,⟨rfl,zB⟩,trivial⟩⟩;have hj : j < 3:=hj;refine zAN hj (λh=>(zq h).trans ((zq h).trans (zZ h))) λh=>?_;subst h;rcases j with _ | _ | _ | j
       . exact zC rfl
       . exact zC rfl
       . exact zD rfl rfl
       . omega
   . intro _;refine acc3 g0 L 6 (za sd (c.num - 31)) now c deaf draw ⟨ha,hn,zAP hk,zAQ hh,hnum,hd,hnow,hdr⟩ R ?_;rw [hR];unfold ZZ;rw [if_neg hge,hP];cases deaf<;>rfl
theorem acc2_7 (g0 : Nat) (L : List Sed) (a : Nat) (now : Int) (c : Cas) (deaf : Bool) (draw : Int) (hI : AcI L a now c draw) (R : List Sed × Bool × Int) (hR : R = (L.set a (ZZ (L.getD a default) now c deaf draw).1,(ZZ (L.getD a default) now c deaf draw).2,0)) (a3 : a = 7) :
 Sem Try.prog Try.f11.ntmps 0 (ZK 7 (Try.f11.body.getD Code.ret)) (SA L a now c deaf draw ()).fr (SA L a now c deaf draw ()).H (SA L a now c deaf draw ()).nx (qN T Try.f11.results.toList λx H _=>FinN (some R.1.length) (qE R) (ZL ZF 78 R.1) x H):=by
 obtain ⟨ha,hn,hk,hh,hmn,hnum,hd,hnow,hdr⟩:=hI;unfold SA;rw [zBA];obtain ⟨sd,es⟩ : ∃ s,L.getD a default = s:=⟨_,rfl⟩;rw [es] at hk hh hmn hR ⊢;subst a3;refine zK (wd:=1) (Q:=Zt (qX g0)) (by decide) zM (zb (zX g0)) zN ?_;repeat' (first | (apply And.intro<;>intro hc<;>(first | exact Bool.noConfusion hc | (exfalso;first | exact absurd rfl hc | omega) | (simp only [zg] at hc<;>first | exact absurd rfl hc | (exfalso;first | exact absurd rfl hc | omega) | skip) | skip)) | (refine And.intro ze ?_) | (apply And.intro) | (intro s hs;skip) | (refine Exists.intro _ (And.intro ⟨rfl,rfl,rfl⟩ ?_)))
 refine zK (wd:=1) (Q:=Zt (qX g0)) (by decide) zM (zb (zX g0)) zN ?_;repeat' (first | (apply And.intro<;>intro hc<;>(first | exact Bool.noConfusion hc | (exfalso;first | exact absurd rfl hc | omega) | (simp only [zg] at hc<;>first | exact absurd rfl hc | (exfalso;first | exact absurd rfl hc | omega) | skip) | skip)) | (refine And.intro ze ?_) | (apply And.intro) | (intro s hs;skip) | (refine Exists.intro _ (And.intro ⟨rfl,rfl,rfl⟩ ?_)))
 . refine zw (s:=sd) (d:=2) (hR.trans ?_) ha rfl (λp h j=>zZ h) rfl rfl rfl rfl rfl rfl rfl λq hq j hj=>(zn.sh _ j hj).le;unfold ZZ;rw [if_pos hc]
 have hge:=hc;have w1 : IntKind.i64.wrap (c.num - 31) = c.num - 31:=IntWalk.i64_in _ (by omega);obtain ⟨⟨i,b⟩,hP⟩ : ∃ P,ZN c.num sd.held 0 = P:=⟨_,rfl⟩;have hle:=QE (id:=c.num) (L:=sd.held) (k:=0);rw [hP,Nat.zero_add] at hle;dsimp only at hle;obtain ⟨hle1,hle2,_⟩:=hle;cases b with
 | true=>
   have hil:=hle2 rfl;clear hle2;have hR2 : R = (L.set 7 (ZO sd i),false,0):=by
    rw [hR];unfold ZZ;rw [if_neg (by omega),hP];rfl
   refine zK (wd:=1) (Q:=Zt (qX g0)) (by decide) zM (zb (zX g0)) zN ?_;repeat' (first | (apply And.intro<;>intro hc<;>(first | exact Bool.noConfusion hc | (exfalso;first | exact absurd rfl hc | omega) | (simp only [zg] at hc<;>first | exact absurd rfl hc | (exfalso;first | exact absurd rfl hc | omega) | skip) | skip)) | (refine And.intro ze ?_) | (apply And.intro) | (intro s hs;(first | (have q:=qq hs (zL zR _) hP;clear hs;subst q) | (have q:=zAM hs (Nat.zero_add i);clear hs;subst q))) | (refine Exists.intro _ (And.intro ⟨rfl,rfl,rfl⟩ ?_)))
   . exact λ_ _=>⟨rfl,zl _⟩
   . exact Eq.mpr (congrArg (λz : List Hel=>z.length <= 9223372036854775807) (zL zR _)) (by omega)
   conv=>whnf
   have hLh : (ZO sd i).held.length = sd.held.length:=List.length_set;refine zw (s:=ZO sd i) (d:=2) hR2 ha rfl (λp h j=>zZ h) rfl rfl (by rw [hLh];rfl) rfl rfl hLh.symm rfl λq hq j hj=>zAO hil hj
 | false=>
   clear hle2;refine zK (wd:=1) (Q:=Zt (qX g0)) (by decide) zM (zb (zX g0)) zN ?_;repeat' (first | (apply And.intro<;>intro hc<;>(first | exact Bool.noConfusion hc | (exfalso;first | exact absurd rfl hc | omega) | (simp only [zg] at hc<;>first | exact absurd rfl hc | (exfalso;first | exact absurd rfl hc | omega) | skip) | skip)) | (refine And.intro ze ?_) | (apply And.intro) | (intro s hs;(first | (have q:=qq hs (zL zR _) hP;clear hs;subst q))) | (refine Exists.intro _ (And.intro ⟨rfl,rfl,rfl⟩ ?_)))
   . exact λ_ _=>⟨rfl,zl _⟩
   . exact Eq.mpr (congrArg (λz : List Hel=>z.length <= 9223372036854775807) (zL zR _)) (by omega)
   change Sem _ _ _ _ _ _ _ _;refine Zf (wd:=1024) (Q:=Zt (qX g0)) (by decide) zM (zb (zX g0)) (zT (zX g0)) zN (SB L 7 (za sd (c.num - 31)) now c deaf draw) (by intro _;rfl) ?_ ?_
   . repeat' (first | (simp only [w1]) | (apply And.intro<;>intro hc<;>(first | exact Bool.noConfusion hc | (exfalso;first | exact absurd rfl hc | omega) | (simp only [zg] at hc<;>first | exact absurd rfl hc | (exfalso;first | exact absurd rfl hc | omega) | skip) | skip)) | (refine And.intro ze ?_) | (apply And.intro) | (intro s hs;skip) | (refine Exists.intro _ (And.intro ⟨rfl,rfl,rfl⟩ ?_)))
     . exact rfl
     . conv=>whnf
       rw [show za sd (c.num - 31) = sd from if_pos hc];exact ⟨(),[],rfl,⟨zA rfl,zG rfl,zA rfl,zH rfl,zE (zD rfl rfl),zH rfl,trivial⟩,⟨⟨rfl,zI λj hj=>(Zr.sh _ j hj).le⟩,⟨rfl,⟨rfl,rfl,rfl,rfl,λp hp j hj=>Zg hj rfl⟩⟩,⟨rfl,zB⟩,trivial⟩⟩
     . exact ⟨rfl,zl _⟩
     . exact Eq.mpr (congrArg KpI (zL zR _)) hk
     . conv=>whnf
       have q : sd.held.filter (Zj (some (c.num - 31))) = s:=(hs.trans (by rw [zL zR])).symm;clear hs;rw [show za sd (c.num - 31) = ⟨sd.id,c.num - 31,s⟩ from (if_neg hc).trans (by rw [q])];refine ⟨(),[(2,some 4141)],rfl,⟨zA rfl,zG rfl,zA rfl,zH rfl,zE (zD rfl rfl),zH rfl,trivial⟩,⟨⟨rfl,zI λj hj=>(Zr.sh _ j hj).le⟩,⟨rfl,⟨rfl,rfl,rfl,rfl,λp hp j hj=>?_⟩⟩,⟨rfl,zB⟩,trivial⟩⟩;have hj : j < 3:=hj;refine zAN hj (λh=>(zq h).trans ((zq h).trans (zZ h))) λh=>?_;subst h;rcases j with _ | _ | _ | j
       . exact zC rfl
       . exact zC rfl
       . exact zD rfl rfl
       . omega
   . intro _;refine acc3 g0 L 7 (za sd (c.num - 31)) now c deaf draw ⟨ha,hn,zAP hk,zAQ hh,hnum,hd,hnow,hdr⟩ R ?_;rw [hR];unfold ZZ;rw [if_neg hge,hP];cases deaf<;>rfl
theorem acc2_8 (g0 : Nat) (L : List Sed) (a : Nat) (now : Int) (c : Cas) (deaf : Bool) (draw : Int) (hI : AcI L a now c draw) (R : List Sed × Bool × Int) (hR : R = (L.set a (ZZ (L.getD a default) now c deaf draw).1,(ZZ (L.getD a default) now c deaf draw).2,0)) (a3 : a = 8) :
 Sem Try.prog Try.f11.ntmps 0 (ZK 7 (Try.f11.body.getD Code.ret)) (SA L a now c deaf draw ()).fr (SA L a now c deaf draw ()).H (SA L a now c deaf draw ()).nx (qN T Try.f11.results.toList λx H _=>FinN (some R.1.length) (qE R) (ZL ZF 78 R.1) x H):=by
 obtain ⟨ha,hn,hk,hh,hmn,hnum,hd,hnow,hdr⟩:=hI;unfold SA;rw [zBA];obtain ⟨sd,es⟩ : ∃ s,L.getD a default = s:=⟨_,rfl⟩;rw [es] at hk hh hmn hR ⊢;subst a3;refine zK (wd:=1) (Q:=Zt (qX g0)) (by decide) zM (zb (zX g0)) zN ?_;repeat' (first | (apply And.intro<;>intro hc<;>(first | exact Bool.noConfusion hc | (exfalso;first | exact absurd rfl hc | omega) | (simp only [zg] at hc<;>first | exact absurd rfl hc | (exfalso;first | exact absurd rfl hc | omega) | skip) | skip)) | (refine And.intro ze ?_) | (apply And.intro) | (intro s hs;skip) | (refine Exists.intro _ (And.intro ⟨rfl,rfl,rfl⟩ ?_)))
 refine zK (wd:=1) (Q:=Zt (qX g0)) (by decide) zM (zb (zX g0)) zN ?_;repeat' (first | (apply And.intro<;>intro hc<;>(first | exact Bool.noConfusion hc | (exfalso;first | exact absurd rfl hc | omega) | (simp only [zg] at hc<;>first | exact absurd rfl hc | (exfalso;first | exact absurd rfl hc | omega) | skip) | skip)) | (refine And.intro ze ?_) | (apply And.intro) | (intro s hs;skip) | (refine Exists.intro _ (And.intro ⟨rfl,rfl,rfl⟩ ?_)))
 . refine zw (s:=sd) (d:=2) (hR.trans ?_) ha rfl (λp h j=>zZ h) rfl rfl rfl rfl rfl rfl rfl λq hq j hj=>(zn.sh _ j hj).le;unfold ZZ;rw [if_pos hc]
 have hge:=hc;have w1 : IntKind.i64.wrap (c.num - 31) = c.num - 31:=IntWalk.i64_in _ (by omega);obtain ⟨⟨i,b⟩,hP⟩ : ∃ P,ZN c.num sd.held 0 = P:=⟨_,rfl⟩;have hle:=QE (id:=c.num) (L:=sd.held) (k:=0);rw [hP,Nat.zero_add] at hle;dsimp only at hle;obtain ⟨hle1,hle2,_⟩:=hle;cases b with
 | true=>
   have hil:=hle2 rfl;clear hle2;have hR2 : R = (L.set 8 (ZO sd i),false,0):=by
    rw [hR];unfold ZZ;rw [if_neg (by omega),hP];rfl
   refine zK (wd:=1) (Q:=Zt (qX g0)) (by decide) zM (zb (zX g0)) zN ?_;repeat' (first | (apply And.intro<;>intro hc<;>(first | exact Bool.noConfusion hc | (exfalso;first | exact absurd rfl hc | omega) | (simp only [zg] at hc<;>first | exact absurd rfl hc | (exfalso;first | exact absurd rfl hc | omega) | skip) | skip)) | (refine And.intro ze ?_) | (apply And.intro) | (intro s hs;(first | (have q:=qq hs (zL zR _) hP;clear hs;subst q) | (have q:=zAM hs (Nat.zero_add i);clear hs;subst q))) | (refine Exists.intro _ (And.intro ⟨rfl,rfl,rfl⟩ ?_)))
   . exact λ_ _=>⟨rfl,zl _⟩
   . exact Eq.mpr (congrArg (λz : List Hel=>z.length <= 9223372036854775807) (zL zR _)) (by omega)
   conv=>whnf
   have hLh : (ZO sd i).held.length = sd.held.length:=List.length_set;refine zw (s:=ZO sd i) (d:=2) hR2 ha rfl (λp h j=>zZ h) rfl rfl (by rw [hLh];rfl) rfl rfl hLh.symm rfl λq hq j hj=>zAO hil hj
 | false=>
   clear hle2;refine zK (wd:=1) (Q:=Zt (qX g0)) (by decide) zM (zb (zX g0)) zN ?_;repeat' (first | (apply And.intro<;>intro hc<;>(first | exact Bool.noConfusion hc | (exfalso;first | exact absurd rfl hc | omega) | (simp only [zg] at hc<;>first | exact absurd rfl hc | (exfalso;first | exact absurd rfl hc | omega) | skip) | skip)) | (refine And.intro ze ?_) | (apply And.intro) | (intro s hs;(first | (have q:=qq hs (zL zR _) hP;clear hs;subst q))) | (refine Exists.intro _ (And.intro ⟨rfl,rfl,rfl⟩ ?_)))
   . exact λ_ _=>⟨rfl,zl _⟩
   . exact Eq.mpr (congrArg (λz : List Hel=>z.length <= 9223372036854775807) (zL zR _)) (by omega)
   change Sem _ _ _ _ _ _ _ _;refine Zf (wd:=1024) (Q:=Zt (qX g0)) (by decide) zM (zb (zX g0)) (zT (zX g0)) zN (SB L 8 (za sd (c.num - 31)) now c deaf draw) (by intro _;rfl) ?_ ?_
   . repeat' (first | (simp only [w1]) | (apply And.intro<;>intro hc<;>(first | exact Bool.noConfusion hc | (exfalso;first | exact absurd rfl hc | omega) | (simp only [zg] at hc<;>first | exact absurd rfl hc | (exfalso;first | exact absurd rfl hc | omega) | skip) | skip)) | (refine And.intro ze ?_) | (apply And.intro) | (intro s hs;skip) | (refine Exists.intro _ (And.intro ⟨rfl,rfl,rfl⟩ ?_)))
     . exact rfl
     . conv=>whnf
       rw [show za sd (c.num - 31) = sd from if_pos hc];exact ⟨(),[],rfl,⟨zA rfl,zG rfl,zA rfl,zH rfl,zE (zD rfl rfl),zH rfl,trivial⟩,⟨⟨rfl,zI λj hj=>(Zr.sh _ j hj).le⟩,⟨rfl,⟨rfl,rfl,rfl,rfl,λp hp j hj=>Zg hj rfl⟩⟩,⟨rfl,zB⟩,trivial⟩⟩
     . exact ⟨rfl,zl _⟩
     . exact Eq.mpr (congrArg KpI (zL zR _)) hk
     . conv=>whnf
       have q : sd.held.filter (Zj (some (c.num - 31))) = s:=(hs.trans (by rw [zL zR])).symm;clear hs;rw [show za sd (c.num - 31) = ⟨sd.id,c.num - 31,s⟩ from (if_neg hc).trans (by rw [q])];refine ⟨(),[(2,some 4141)],rfl,⟨zA rfl,zG rfl,zA rfl,zH rfl,zE (zD rfl rfl),zH rfl,trivial⟩,⟨⟨rfl,zI λj hj=>(Zr.sh _ j hj).le⟩,⟨rfl,⟨rfl,rfl,rfl,rfl,λp hp j hj=>?_⟩⟩,⟨rfl,zB⟩,trivial⟩⟩;have hj : j < 3:=hj;refine zAN hj (λh=>(zq h).trans ((zq h).trans (zZ h))) λh=>?_;subst h;rcases j with _ | _ | _ | j
       . exact zC rfl
       . exact zC rfl
       . exact zD rfl rfl
       . omega
   . intro _;refine acc3 g0 L 8 (za sd (c.num - 31)) now c deaf draw ⟨ha,hn,zAP hk,zAQ hh,hnum,hd,hnow,hdr⟩ R ?_;rw [hR];unfold ZZ;rw [if_neg hge,hP];cases deaf<;>rfl
theorem acc2 (g0 : Nat) (L : List Sed) (a : Nat) (now : Int) (c : Cas) (deaf : Bool) (draw : Int) (hI : AcI L a now c draw) (R : List Sed × Bool × Int) (hR : R = (L.set a (ZZ (L.getD a default) now c deaf draw).1,(ZZ (L.getD a default) now c deaf draw).2,0)) :
 Sem Try.prog Try.f11.ntmps 0 (ZK 7 (Try.f11.body.getD Code.ret)) (SA L a now c deaf draw ()).fr (SA L a now c deaf draw ()).H (SA L a now c deaf draw ()).nx (qN T Try.f11.results.toList λx H _=>FinN (some R.1.length) (qE R) (ZL ZF 78 R.1) x H):=by
 have h : a = 0 \/ a = 1 \/ a = 2 \/ a = 3 \/ a = 4 \/ a = 5 \/ a = 6 \/ a = 7 \/ a = 8:=by have:=hI.lt;have:=hI.n;omega
 rcases h with h | h | h | h | h | h | h | h | h
 . exact acc2_0 g0 L a now c deaf draw hI R hR h
 . exact acc2_1 g0 L a now c deaf draw hI R hR h
 . exact acc2_2 g0 L a now c deaf draw hI R hR h
 . exact acc2_3 g0 L a now c deaf draw hI R hR h
 . exact acc2_4 g0 L a now c deaf draw hI R hR h
 . exact acc2_5 g0 L a now c deaf draw hI R hR h
 . exact acc2_6 g0 L a now c deaf draw hI R hR h
 . exact acc2_7 g0 L a now c deaf draw hI R hR h
 . exact acc2_8 g0 L a now c deaf draw hI R hR h
end Go.Proofs.Ytfaibcgakcmhcaa.AX
