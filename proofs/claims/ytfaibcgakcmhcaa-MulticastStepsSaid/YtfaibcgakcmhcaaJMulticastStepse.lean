/- Texts of one's own in one file: Mrn, Mro, Mrq, Mrp, Mrr, Mrs, Tb, Mtb, TkG, Mte, Cmp, Be, Mta, Mtc, Mrf. -/
import Derived.Test.YtfaibcgakcmhcaaJMulticastStepsd
import Derived.Test.YtfaibcgakcmhcaaJMulticastStepsb
import Derived.Test.YtfaibcgakcmhcaaJMulticastStepsc
import Derived.Lib.BytesEntry
import Derived.Laws.Externs
import Derived.WalkKit
import Derived.Laws.BytesArg
set_option linter.unusedVariables false
set_option linter.unusedSimpArgs false
set_option maxHeartbeats 16000000
set_option maxRecDepth 20000
namespace Go.Proofs.Ytfaibcgakcmhcaa.AX
open Go.RowKit
theorem vh_lt {mn : Int} : ∀ {L : List Hel} {last : Int} {i j : Nat},Zb mn last L = true -> i < j -> j < L.length -> (L.getD i default).num < (L.getD j default).num:=by
 intro L;induction L with
 | nil=>intro _ _ _ _ _ h;exact absurd h (Nat.not_lt_zero _)
 | cons a t ih=>
   intro last i j hv hij hj;have hv':=Qk.1 hv;cases j with
   | zero=>exact absurd hij (Nat.not_lt_zero _)
   | succ j=>
     have hj : j < t.length:=by simpa using hj
     rw [qW];cases i with
     | zero=>exact (YD hv'.2.2 _ (zj hj)).1
     | succ i=>rw [qW];exact ih hv'.2.2 (by omega) hj
theorem zBB {mn last n : Int} {L : List Hel} {k : Nat} (hv : Zb mn last L = true) (hk : k < L.length) (h : (L.getD k default).num = n) : ZN n L 0 = (k,true):=by
 obtain ⟨h1,h2⟩:=plc_mem (k:=0) hv (zj hk);rw [h] at h1 h2;rw [Nat.sub_zero] at h2;have h3:=(QE (id:=n) (L:=L) (k:=0)).2.1 h1;rw [Nat.zero_add] at h3;have e : (ZN n L 0).1 = k:=by
  rcases Nat.lt_trichotomy (ZN n L 0).1 k with g | g | g
  . have:=vh_lt hv g hk;rw [h2] at this;omega
  . exact g
  . have:=vh_lt hv g h3;rw [h2] at this;omega
 rw [<- e,<- h1]
theorem zBC {n : Int} : ∀ {L : List Hel} {k : Nat},(∀ p,p < L.length -> (L.getD p default).num ≠ n) -> (ZN n L k).2 = false:=by
 intro L;induction L with
 | nil=>intro _ _;rfl
 | cons a t ih=>
   intro k h;unfold ZN;split
   . exact decide_eq_false (h 0 (by simp))
   . exact ih λp hp=>by have:=h (p + 1) (by simpa using hp);rwa [qW] at this
theorem plc_lt {n : Int} : ∀ {L : List Hel} {k p : Nat},k <= p -> p < (ZN n L k).1 -> (L.getD (p - k) default).num < n:=by
 intro L;induction L with
 | nil=>intro k p h1 h2;exact absurd h2 (by show ¬ p < k;omega)
 | cons a t ih=>
   intro k p h1 h2;unfold ZN at h2;by_cases h : n <= a.num
   . rw [if_pos h] at h2;exact absurd h2 (by show ¬ p < k;omega)
   . rw [if_neg h] at h2;by_cases hp : p = k
     . subst hp;rw [Nat.sub_self];show a.num < n;omega
     . rw [show p - k = (p - (k + 1)) + 1 by omega,qW];exact ih (by omega) h2
theorem plc_at {n : Int} : ∀ {L : List Hel} {k : Nat},(ZN n L k).2 = false -> (ZN n L k).1 - k < L.length -> n < (L.getD ((ZN n L k).1 - k) default).num:=by
 intro L;induction L with
 | nil=>intro k _ h;exact absurd h (Nat.not_lt_zero _)
 | cons a t ih=>
   intro k h1 h2;have hle:=(QE (id:=n) (L:=t) (k:=k + 1)).2.2;unfold ZN at h1 h2 ⊢;by_cases h : n <= a.num
   . rw [if_pos h] at h1 h2 ⊢;rw [Nat.sub_self];have : a.num ≠ n:=of_decide_eq_false h1;show n < a.num;omega
   . rw [if_neg h] at h1 h2 ⊢;rw [show (ZN n t (k + 1)).1 - k = ((ZN n t (k + 1)).1 - (k + 1)) + 1 by omega,qW];exact ih h1 (by rw [List.length_cons] at h2;omega)
theorem fnd_lt {n : Int} : ∀ {L : List Sed} {k p : Nat},k <= p -> p < (Zq n L k).1 -> (L.getD (p - k) default).id < n:=by
 intro L;induction L with
 | nil=>intro k p h1 h2;exact absurd h2 (by show ¬ p < k;omega)
 | cons a t ih=>
   intro k p h1 h2;unfold Zq at h2;by_cases h : n <= a.id
   . rw [if_pos h] at h2;exact absurd h2 (by show ¬ p < k;omega)
   . rw [if_neg h] at h2;by_cases hp : p = k
     . subst hp;rw [Nat.sub_self];show a.id < n;omega
     . rw [show p - k = (p - (k + 1)) + 1 by omega,qW];exact ih (by omega) h2
theorem fnd_at {n : Int} : ∀ {L : List Sed} {k : Nat},(Zq n L k).2 = false -> (Zq n L k).1 - k < L.length -> n < (L.getD ((Zq n L k).1 - k) default).id:=by
 intro L;induction L with
 | nil=>intro k _ h;exact absurd h (Nat.not_lt_zero _)
 | cons a t ih=>
   intro k h1 h2;have hle:=(zAz (id:=n) (L:=t) (k:=k + 1)).2.2;unfold Zq at h1 h2 ⊢;by_cases h : n <= a.id
   . rw [if_pos h] at h1 h2 ⊢;rw [Nat.sub_self];have : a.id ≠ n:=of_decide_eq_false h1;show n < a.id;omega
   . rw [if_neg h] at h1 h2 ⊢;rw [show (Zq n t (k + 1)).1 - k = ((Zq n t (k + 1)).1 - (k + 1)) + 1 by omega,qW];exact ih h1 (by rw [List.length_cons] at h2;omega)
inductive InsI {α : Type} (g : Nat) (x : α) (H : List α) (p : Nat) : Bool -> List α -> Prop
 | no : p <= g -> InsI g x H p false (H.take p)
 | yes : g < p -> InsI g x H p true ((Zh g x H).take (p + 1))
theorem takeA {α : Type} [Inhabited α] {x : List α} {k : Nat} (h : k < x.length) : x.take (k + 1) = x.take k ++ [x.getD k default]:=by
 rw [List.take_add_one,List.getD_eq_getElem?_getD,List.getElem?_eq_getElem h];rfl
theorem ins_no {α : Type} [Inhabited α] {g : Nat} {x : α} {H : List α} {p : Nat} (hp : p < g) (hl : p < H.length) : InsI g x H (p + 1) false (H.take p ++ [H.getD p default]):=by
 rw [<- takeA hl];exact .no hp
theorem ins_at {α : Type} [Inhabited α] {g : Nat} {x : α} {H : List α} (hl : g < H.length) : InsI g x H (g + 1) true ((H.take g ++ [x]) ++ [H.getD g default]):=by
 have e : (H.take g ++ [x]) ++ [H.getD g default] = (Zh g x H).take (g + 1 + 1):=by
  have hl2 : ((H.take g ++ [x]) ++ [H.getD g default]).length = g + 1 + 1:=by
   rw [List.length_append,List.length_append,List.length_take];show min g H.length + 1 + 1 = g + 1 + 1;omega
  have e2 : Zh g x H = ((H.take g ++ [x]) ++ [H.getD g default]) ++ H.drop (g + 1):=by
   unfold Zh;rw [zDv (d:=default) hl];simp only [List.append_assoc,List.cons_append,List.nil_append]
  rw [e2,List.take_append_of_le_length (Nat.le_of_eq hl2.symm),List.take_of_length_le (Nat.le_of_eq hl2)]
 rw [e];exact .yes (by omega)
theorem ins_yes {α : Type} [Inhabited α] {g : Nat} {x : α} {H : List α} {p : Nat} (hg : g < p) (hl : p < H.length) : InsI g x H (p + 1) true ((Zh g x H).take (p + 1) ++ [H.getD p default]):=by
 have e : (Zh g x H).take (p + 1) ++ [H.getD p default] = (Zh g x H).take (p + 1 + 1):=by
  rw [takeA (x:=Zh g x H) (k:=p + 1) (by rw [qf (by omega)];omega),Ya (by omega) (by omega),Nat.add_sub_cancel]
 rw [e];exact .yes (by omega)
theorem zFj {α : Type} {x : α} {H : List α} : H.take H.length ++ [x] = Zh H.length x H:=by
 unfold Zh;rw [List.drop_of_length_le (Nat.le_refl _)]
theorem zFk {α : Type} {g : Nat} {x : α} {H : List α} (hg : g <= H.length) : (Zh g x H).take (H.length + 1) = Zh g x H:=List.take_of_length_le (by rw [qf hg];exact Nat.le_refl _)
theorem ins_len {α : Type} {g : Nat} {x : α} {H : List α} {p : Nat} {b : Bool} {Lo : List α} (h : InsI g x H p b Lo) : Lo.length <= p + 1:=by
 cases h with
 | no h=>rw [List.length_take];omega
 | yes h=>rw [List.length_take];omega
theorem zFl {c : Cas} {L : List Sed} (hv : ZC (Qm c L) = true) (g : (Zq c.id L 0).1 < (Qm c L).length) (h : ((Qm c L).getD (Zq c.id L 0).1 default).id = c.id) : zBY c.id ((Qm c L).map Sed.id) 0 = ((Zq c.id L 0).1 : Int):=by
 rw [zE8 (zDN hv)];obtain ⟨h1,h2⟩:=fnd_mem (k:=0) (zDN hv) (zj g);rw [h] at h1 h2;rw [if_pos h1];rw [Nat.sub_zero] at h2;have h3:=(zAz (id:=c.id) (L:=Qm c L) (k:=0)).2.1 h1;rw [Nat.zero_add] at h3;have inj : ∀ {L : List Sed} {last : Int} {i j : Nat},Zx last L = true -> i < j -> j < L.length -> (L.getD i default).id < (L.getD j default).id:=by
  intro L;induction L with
  | nil=>intro _ _ _ _ _ h;exact absurd h (Nat.not_lt_zero _)
  | cons a t ih=>
    intro last i j hv hij hj;have hv':=Qj.1 hv;cases j with
    | zero=>exact absurd hij (Nat.not_lt_zero _)
    | succ j=>
      have hj : j < t.length:=by simpa using hj
      rw [qW];cases i with
      | zero=>exact (vs_mem hv'.2.2 _ (zj hj)).1
      | succ i=>rw [qW];exact ih hv'.2.2 (by omega) hj
 have e : (Zq c.id (Qm c L) 0).1 = (Zq c.id L 0).1:=by
  rcases Nat.lt_trichotomy (Zq c.id (Qm c L) 0).1 (Zq c.id L 0).1 with q | q | q
  . have:=inj (zDN hv) q g;rw [h2] at this;omega
  . exact q
  . have:=inj (zDN hv) q h3;rw [h2] at this;omega
 rw [e]
def zE4 (t d : Int) : Int:=if 1099511627776 < t + d then 1099511627776 else t + d
theorem rafter_ok (t d : Int) (h : 0 <= t /\ t <= 1099511627776 /\ 0 <= d /\ d <= 1099511627776) : Zc Try.prog 68 [(cI .i64).enc t,(cI .i64).enc d] ((cI .i64).enc (zE4 t d)):=by
 have w : IntKind.i64.wrap (t + d) = t + d:=IntWalk.i64_in _ (by omega);refine zr (wd:=1) (by decide) zM (zb qD) zN Try.func68 rfl _ (by show 2 <= _;decide) _ ?_;repeat' (first | (simp only [w]) | (apply And.intro<;>intro hc<;>(first | exact Bool.noConfusion hc | (exfalso;first | exact absurd rfl hc | omega) | (simp only [zg] at hc<;>first | exact absurd rfl hc | (exfalso;first | exact absurd rfl hc | omega) | skip) | skip)) | (refine And.intro ze ?_) | (apply And.intro) | (intro s hs;skip))
 conv=>whnf
 exact Done.mk (zA (by rw [w];rfl))
abbrev rafterE : Zm:=qy (AC.cons (cI .i64) (AC.cons (cI .i64) AC.nil)) (λa=>0 <= a.1 /\ a.1 <= 1099511627776 /\ 0 <= a.2.1 /\ a.2.1 <= 1099511627776) (λa=>zE4 a.1 a.2.1) (cI .i64).enc
def LRn : CsL:=(40,some zDD) :: (63,some zC3) :: (68,some rafterE) :: (43,some zE7) :: (64,some rfindE) :: (66,some zE6) :: LTk
theorem zt : qU Try.prog LRn:=⟨zu ⟨_,Try.func40,rfl,by kernel_rfl⟩ λa h=>zBZ a.1 h,zu ⟨_,Try.func63,rfl,by kernel_rfl⟩ λa _=>TkR.tkTime_ok a.1,zu ⟨_,Try.func68,rfl,by kernel_rfl⟩ λa h=>rafter_ok a.1 a.2.1 h,zCq,zu ⟨_,Try.func64,rfl,by kernel_rfl⟩ λa h=>rfind_ok a.1 a.2.1 h,zDu,zCn⟩
def rowT (a : Nat) (L : List Sed) (k j : Nat) : CV:=bif Nat.beq k a then .top else zo ZF L k j
theorem zAi {a k j : Nat} {L : List Sed} (h : k ≠ a) : rowT a L k j = zo ZF L k j:=by unfold rowT;rw [zA2 h];rfl
theorem rowT_at {a j : Nat} {L : List Sed} : rowT a L a j = .top:=by unfold rowT;rw [QW];rfl
theorem qn {c : Wc} {a k j : Nat} {L : List Sed} {x : CV} (hj : j < 3) (h : k ≠ a -> x = zo ZF L k j) : ZX c x (rowT a L k j):=by
 by_cases hk : k = a
 . subst hk;rw [rowT_at];exact zDH
 . rw [zAi hk,h hk];exact (ZF.sh _ j hj).le
def SAr (L : List Sed) (a : Nat) (now : Int) (c : Cas) (deaf : Bool) (draw : Int) (_ : Unit) : Hd:=
 ⟨[(1,zO (.int .i64 now)),(3,zO (.bool deaf)),(4,zO (.int .u32 draw)),(7,zO (.ptr 0 0 0 false)),(13,zO (.os 1 0 L.length))],
  [(0,some ⟨32,1,3,true,λ_=>Zr.cell c⟩),(1,some ⟨78,L.length,3,false,QQ 2 (L.getD a default) a L⟩),(2,some (ZL zn 85 (L.getD a default).held))],3⟩
def SBr (L : List Sed) (a : Nat) (s : Sed) (now : Int) (c : Cas) (deaf : Bool) (draw : Int) (_ : Unit) : Hd:=
 ⟨[(1,zO (.int .i64 now)),(3,zO (.bool deaf)),(4,zO (.int .u32 draw)),(7,zO (.ptr 0 0 0 false)),(13,zO (.os 1 0 L.length)),(18,zO (.int .i64 (a : Int))),(19,zO (.ptr 3 0 0 false))],
  [(0,some ⟨32,1,3,true,λ_=>Zr.cell c⟩),(1,some ⟨78,L.length,3,false,rowT a L⟩),(2,some (ZL zn 85 s.held)),(3,some ⟨78,1,3,true,λ_=>sdO 2 s⟩)],4⟩
theorem Yi {d a n : Nat} {s : Sed} {L : List Sed} (hs : s = L.getD a default) (hn : n = L.length) : Yt neI n (λk j=>QQ d s a L (0 + k) j) = L.map Sed.id:=by
 subst hn;apply List.ext_getElem
 . simp [Yt]
 . intro i h1 h2;have hi : i < L.length:=by simpa using h2
   simp only [Yt,List.getElem_map,List.getElem_range];show YY (QQ d s a L (0 + i) 0) = _;rw [Nat.zero_add];have e : YY (QQ d s a L i 0) = (L.getD i default).id:=by
    by_cases h : i = a
    . subst h;rw [zAL,hs];rfl
    . rw [zZ h];rfl
   rw [e,List.getD_eq_getElem?_getD,List.getElem?_eq_getElem hi];rfl
theorem Yj {d a n : Nat} {s : Sed} {L : List Sed} : ∀ i,i < n -> neI.ok (λj=>QQ d s a L (0 + i) j):=λi _=>by
 show isK .u64 (QQ d s a L (0 + i) 0) = true;rw [Nat.zero_add];by_cases h : i = a
 . subst h;rw [zAL];rfl
 . rw [zZ h];rfl
def SLr (L : List Sed) (a : Nat) (s : Sed) (now : Int) (c : Cas) (deaf : Bool) (draw : Int) : Hd:=
 ⟨[(1,zO (.int .i64 now)),(3,zO (.bool deaf)),(4,zO (.int .u32 draw)),(7,zO (.ptr 0 0 0 false)),(13,zO (.os 1 0 L.length)),(18,zO (.int .i64 (a : Int))),(19,zO (.ptr 3 0 0 false))],
  [(0,some ⟨32,1,3,true,λ_=>Zr.cell c⟩),(1,some ⟨78,L.length,3,false,QQ 2 s a L⟩),(2,some (ZL zn 85 s.held)),(3,some ⟨78,1,3,true,λ_=>sdO 2 s⟩)],4⟩
theorem zE5 {c : Wc} {d d' : Nat} {s : Sed} (h : c.src d' = some d) : ∀ j,j < 3 -> ZX c (sdO d s j) (sdO d' s j):=qm ⟨zC rfl,zC rfl,zD h rfl⟩
structure AcR (L : List Sed) (a : Nat) (now : Int) (c : Cas) (draw : Int) : Prop where
 lt : a < L.length
 n : L.length <= 9
 ok : SdOk (L.getD a default)
 num : 0 <= c.num /\ c.num < 1073741824
 d : c.data.length <= 64
 now : 0 <= now /\ now <= 1099511627776
 dr : ZM draw
 f : zBY c.id (L.map Sed.id) 0 = (a : Int)
theorem Yh {f : Nat -> Nat -> CV} {i j : Nat} {g : Nat -> CV} : zBr false f i g i j = g j:=by
 show Zi (Nat.beq i i) (g j) (f i j) = g j;rw [QT,QW];rfl
theorem zFi {c : Wc} {t : TypeId} {Z : List Hel} {x : Hel} {n : Nat} {f : Nat -> Nat -> CV} {g z : Nat -> CV} (hn : n = Z.length) (hf : ∀ k,k < n -> ∀ j,j < 11 -> ZX c (f k j) (zo zn Z k j)) (h : ∀ j,j < 11 -> ZX c (g j) (zn.cell x j)) : LeN c ⟨t,n + 1,11,false,λk j=>Zi (Nat.blt k n) (f k j) (Zi (Nat.beq (0 + (k - n)) 0) (g j) (z j))⟩ (ZL zn t (Z ++ [x])):=by
 subst hn;refine ⟨rfl,by show _ = (Z ++ [x]).length;rw [List.length_append];rfl,rfl,rfl,λk hk j hj=>?_⟩;have hk : k < Z.length + 1:=hk;by_cases hkz : k < Z.length
 . refine ZU (Nat.ble_eq_true_of_le hkz) ?_;have e : zo zn (Z ++ [x]) k j = zo zn Z k j:=congrArg (λz=>zn.cell z j) (by rw [List.getD_eq_getElem?_getD,List.getElem?_append_left hkz,<- List.getD_eq_getElem?_getD]);show ZX c _ (zo zn (Z ++ [x]) k j);rw [e];exact hf k hkz j hj
 . obtain rfl : k = Z.length:=by omega
   refine Zd (Zn _) (ZU (by rw [Nat.sub_self];rfl) ?_);have e : zo zn (Z ++ [x]) Z.length j = zn.cell x j:=congrArg (λz=>zn.cell z j) (by simp [List.getD_eq_getElem?_getD]);show ZX c _ (zo zn (Z ++ [x]) Z.length j);rw [e];exact h j hj
theorem zER {c : Wc} {Z : List Hel} {x : Hel} {n k j : Nat} {B C : CV} (hn : n = Z.length) (hk : k < n + 1) (hj : j < 11) (h : ZX c B (zn.cell x j)) : ZX c (Zi (Nat.blt k n) (zo zn Z k j) (Zi (Nat.beq (0 + (k - n)) 0) B C)) (zo zn (Z ++ [x]) k j):=by
 subst hn;by_cases hkz : k < Z.length
 . refine ZU (Nat.ble_eq_true_of_le hkz) ?_;have e : zo zn (Z ++ [x]) k j = zo zn Z k j:=congrArg (λz=>zn.cell z j) (by rw [List.getD_eq_getElem?_getD,List.getElem?_append_left hkz,<- List.getD_eq_getElem?_getD]);rw [e];exact (zn.sh _ j hj).le
 . obtain rfl : k = Z.length:=by omega
   refine Zd (Zn _) (ZU (by rw [Nat.sub_self];rfl) ?_);have e : zo zn (Z ++ [x]) Z.length j = zn.cell x j:=congrArg (λz=>zn.cell z j) (by simp [List.getD_eq_getElem?_getD]);rw [e];exact h
theorem YK (L : List Sed) (a : Nat) (s s1 : Sed) (now : Int) (c : Cas) (deaf : Bool) (draw : Int) (ha : a < L.length) (hmin : ¬ c.num < s.mn) (hno : (ZN c.num s.held 0).2 = false) (hno1 : (ZN c.num s1.held 0).2 = false) (es1 : za s (c.num - 31) = s1) (hok1 : SdOk s1) (hnum : 0 <= c.num /\ c.num < 1073741824) (hd : c.data.length <= 64) (hnow : 0 <= now /\ now <= 1099511627776) (hdr : ZM draw) (R : List Sed × Bool × Int) (hR : R = (L.set a (ZZ s now c deaf draw).1,(ZZ s now c deaf draw).2,0)) :
 Sem Try.prog Try.f39.ntmps 0 (ZK 11 (Try.f39.body.getD Code.ret)) (SBr L a s1 now c deaf draw ()).fr (SBr L a s1 now c deaf draw ()).H (SBr L a s1 now c deaf draw ()).nx (qN T Try.f39.results.toList λx H _=>FinN (some R.1.length) (qE R) (ZL ZF 78 R.1) x H):=by
 have hk1:=hok1.k;have hn32:=hok1.n;have z0 : 0 + (a : Int).toNat = a:=Nat.zero_add a;unfold SBr;refine QP (wd:=1) (by decide) zM (zb zt) zN ?_;cases deaf with
 | true=>
   have hcl : ql s1 (c.num + 1) = za s1 (c.num + 1):=qw hok1;obtain ⟨s2,es2⟩ : ∃ s2,za s1 (c.num + 1) = s2:=⟨_,rfl⟩;rw [es2] at hcl;have hRe : R = (L.set a s2,false,0):=by
    rw [hR];unfold ZZ;rw [if_neg hmin,if_neg (by rw [hno];simp),if_pos rfl,es1,es2]
   have w33 : IntKind.i64.wrap (c.num + 1) = c.num + 1:=IntWalk.i64_in _ (by omega);repeat' (first | (simp only [w33,z0]) | (apply And.intro<;>intro hc<;>(first | exact Bool.noConfusion hc | (exfalso;first | exact absurd rfl hc | omega) | (simp only [zg] at hc<;>first | exact absurd rfl hc | (exfalso;first | exact absurd rfl hc | omega) | skip) | skip)) | (refine And.intro ze ?_) | (apply And.intro) | (intro s hs;(have q:=qp hs (YB rfl rfl (zL zR _)) hcl;clear hs;subst q)) | (refine Exists.intro _ (And.intro ⟨rfl,rfl,rfl⟩ ?_)))
   . exact ⟨rfl,rfl,λ_ _=>⟨rfl,zl _⟩⟩
   . exact Eq.mpr (congrArg KpI (zL zR _)) hk1
   conv=>whnf
   refine zw (s:=s2) (d:=11) hRe ha rfl (λp h j=>(zq h).trans (zAi h)) (Yh.trans rfl) (Yh.trans rfl) (Yh.trans rfl) rfl rfl rfl rfl λq hq j hj=>(zn.sh _ j hj).le
 | false=>
   obtain ⟨T,eT⟩ : ∃ T,zAB 2 3 2 now draw = T:=⟨_,rfl⟩;obtain ⟨x,ex⟩ : ∃ x : Hel,(⟨c.num,c.data,T.1,zE4 now 20⟩ : Hel) = x:=⟨_,rfl⟩;have exn : ZR c now draw = x:=by rw [<- ex];unfold ZR zE4;rw [eT]
   have hRe : R = (L.set a (qM s1 x (ZN c.num s1.held 0).1),true,0):=by
    rw [hR];unfold ZZ;rw [if_neg hmin,if_neg (by rw [hno];simp),if_neg (by simp),es1,exn]
   repeat' (first | (simp only [z0]) | (apply And.intro<;>intro hc<;>(first | exact Bool.noConfusion hc | (exfalso;first | exact absurd rfl hc | omega) | (simp only [zg] at hc<;>first | exact absurd rfl hc | (exfalso;first | exact absurd rfl hc | omega) | skip) | skip)) | (refine And.intro ze ?_) | (apply And.intro) | (intro s hs;(first | (have q : T = s:=eT.symm.trans hs.symm;clear hs;subst q) | subst hs)) | (refine Exists.intro _ (And.intro ⟨rfl,rfl,rfl⟩ ?_)))
   conv=>whnf
   refine zQ (zT zt) (λu : {u : Nat × Bool × List Hel // u.1 <= s1.held.length /\ InsI (ZN c.num s1.held 0).1 x s1.held u.1 u.2.1 u.2.2}=>(⟨[(13,zO (.os 1 0 L.length)),(18,zO (.int .i64 (a : Int))),(19,zO (.ptr 3 0 0 false)),(23,zO (.ptr 4 0 0 false)),(24,zO (.os 5 0 u.1.2.2.length)),(25,zO (.bool u.1.2.1)),(191,zO (.os 2 0 s1.held.length)),(192,zO (.int .i64 (s1.held.length : Int))),(193,zO (.int .i64 (u.1.1 : Int)))],[(1,some ⟨78,L.length,3,false,rowT a L⟩),(2,some (ZL zn 85 s1.held)),(3,some ⟨78,1,3,true,λ_=>sdO 2 s1⟩),(4,some ⟨85,1,11,true,λ_=>zn.cell x⟩),(5,some (ZL zn 85 u.1.2.2))],6⟩ : Hd)) (λu=>s1.held.length - u.1.1) (λ_=>rfl) ?_ ⟨(0,false,[]),Nat.zero_le _,.no (Nat.zero_le _)⟩ [(4,some 23),(5,none)] ⟨rfl,⟨zE (zD rfl rfl),zA rfl,zH rfl,zH rfl,zE (ZP rfl),zG rfl,zE (zD rfl rfl),zA rfl,zA rfl,trivial⟩,⟨⟨rfl,⟨rfl,rfl,rfl,rfl,λp hp j hj=>qn hj λh=>zAi h⟩⟩,⟨rfl,zB⟩,⟨rfl,zI (zE5 rfl)⟩,⟨rfl,zI (zAy ⟨zC (by rw [<- ex]),zy rfl rfl rfl (by rw [<- ex]) (Nat.le_of_eq (Nat.zero_add _)) (λq hq j hj=>zC (by rw [<- ex];exact congrArg (λz=>c.data.getD z default) (Nat.zero_add q))),zC (by rw [<- ex]),zC (by rw [<- ex]),zC (by rw [<- ex]),zC (by rw [<- ex]),zC (by rw [<- ex]),zC (by rw [<- ex]),zC (by rw [<- ex]),zS (by rw [<- ex]),zC (by rw [<- ex])⟩)⟩,⟨rfl,rfl,rfl,Nat.le_of_ble_eq_true rfl⟩,trivial⟩⟩;have exx : x.num = c.num:=by rw [<- ex]
   obtain ⟨g,eg⟩ : ∃ g,(ZN c.num s1.held 0).1 = g:=⟨_,rfl⟩;have hgl : g <= s1.held.length:=by rw [<- eg];have:=(QE (id:=c.num) (L:=s1.held) (k:=0)).1;omega
   have hlt : ∀ p,p < g -> (s1.held.getD p default).num < c.num:=λp hp=>by
    have:=plc_lt (n:=c.num) (L:=s1.held) (k:=0) (p:=p) (Nat.zero_le _) (by rw [eg];exact hp);rwa [Nat.sub_zero] at this
   have hat : g < s1.held.length -> c.num < (s1.held.getD g default).num:=λhp=>by
    have:=plc_at (n:=c.num) (L:=s1.held) (k:=0) hno1 (by rw [eg];exact hp);rwa [eg,Nat.sub_zero] at this
   rw [eg] at hRe ⊢;rintro ⟨⟨p,dn,Lo⟩,hp,hIn⟩;dsimp only at hp hIn ⊢;by_cases hpl : p < s1.held.length
   . have w5 : IntKind.i64.wrap ((p : Int) + 1) = ((p + 1 : Nat) : Int):=(IntWalk.i64_in _ (by omega)).trans (by omega);have z1 : 0 + (p : Int).toNat = p:=Nat.zero_add p;obtain ⟨h,eh⟩ : ∃ h,s1.held.getD p default = h:=⟨_,rfl⟩;have eck : zo zn s1.held p = zn.cell h:=congrArg zn.cell eh;have hLl:=ins_len hIn;cases hIn with
     | no hpg=>
       by_cases hpq : p < g
       . have hlt1:=hlt p hpq;rw [eh] at hlt1;have hnx:=ins_no (x:=x) hpq hpl;rw [eh] at hnx;repeat' (first | (simp only [z1,eck]) | (apply And.intro<;>intro hc<;>(first | exact Bool.noConfusion hc | (exfalso;first | exact absurd rfl hc | omega) | (simp only [zg] at hc<;>first | exact absurd rfl hc | (exfalso;first | exact absurd rfl hc | omega) | skip) | skip)) | (refine And.intro ze ?_) | (apply And.intro) | (intro s hs;skip) | (refine Exists.intro _ (And.intro ⟨rfl,rfl,rfl⟩ ?_)))
         conv=>whnf
         exact ⟨⟨(p + 1,false,s1.held.take p ++ [h]),hpl,hnx⟩,[(5,some 23)],by dsimp only;omega,rfl,⟨zE (zD rfl rfl),zA rfl,zH rfl,zH rfl,zE (zD rfl (by rw [List.length_append];rfl)),zG rfl,zE (zD rfl rfl),zA rfl,zA w5,trivial⟩,⟨⟨rfl,⟨rfl,rfl,rfl,rfl,λp hp j hj=>qn hj λh=>zAi h⟩⟩,⟨rfl,zB⟩,⟨rfl,zI (zE5 rfl)⟩,⟨rfl,zI λj hj=>(zn.sh _ j hj).le⟩,⟨rfl,QS rfl (zAy ⟨zC rfl,(zn.sh h 1 (by decide)).le,zC rfl,zC rfl,zC rfl,zC rfl,zC rfl,zC rfl,zC rfl,zS rfl,zC rfl⟩)⟩,trivial⟩⟩
       . obtain rfl : p = g:=by omega
         have hat1:=hat hpl;rw [eh] at hat1;have hnx:=ins_at (x:=x) hpl;rw [eh] at hnx;repeat' (first | (simp only [z1,eck]) | (apply And.intro<;>intro hc<;>(first | exact Bool.noConfusion hc | (exfalso;first | exact absurd rfl hc | omega) | (simp only [zg] at hc<;>first | exact absurd rfl hc | (exfalso;first | exact absurd rfl hc | omega) | skip) | skip)) | (refine And.intro ze ?_) | (apply And.intro) | (intro s hs;skip) | (refine Exists.intro _ (And.intro ⟨rfl,rfl,rfl⟩ ?_)))
         conv=>whnf
         exact ⟨⟨(p + 1,true,(s1.held.take p ++ [x]) ++ [h]),hpl,hnx⟩,[(5,some 29)],by dsimp only;omega,rfl,⟨zE (zD rfl rfl),zA rfl,zH rfl,zH rfl,zE (zD rfl (by rw [List.length_append,List.length_append];rfl)),zG rfl,zE (zD rfl rfl),zA rfl,zA w5,trivial⟩,⟨⟨rfl,⟨rfl,rfl,rfl,rfl,λp hp j hj=>qn hj λh=>zAi h⟩⟩,⟨rfl,zB⟩,⟨rfl,zI (zE5 rfl)⟩,⟨rfl,zI λj hj=>(zn.sh _ j hj).le⟩,⟨rfl,zFi (Z:=s1.held.take p ++ [x]) (by rw [List.length_append];rfl) (λk hk j hj=>zER (x:=x) rfl hk hj (by
          iterate 11 (rcases j with _ | j;· first | exact zC rfl | exact zS rfl | exact (zn.sh x 1 (by decide)).le)
          exact absurd hj (by omega))) (zAy ⟨zC rfl,(zn.sh h 1 (by decide)).le,zC rfl,zC rfl,zC rfl,zC rfl,zC rfl,zC rfl,zC rfl,zS rfl,zC rfl⟩)⟩,trivial⟩⟩
     | yes hgp=>
       have hnx:=ins_yes (x:=x) hgp hpl;rw [eh] at hnx;repeat' (first | (simp only [z1,eck]) | (apply And.intro<;>intro hc<;>(first | exact Bool.noConfusion hc | (exfalso;first | exact absurd rfl hc | omega) | (simp only [zg] at hc<;>first | exact absurd rfl hc | (exfalso;first | exact absurd rfl hc | omega) | skip) | skip)) | (refine And.intro ze ?_) | (apply And.intro) | (intro s hs;skip) | (refine Exists.intro _ (And.intro ⟨rfl,rfl,rfl⟩ ?_)))
       conv=>whnf
       exact ⟨⟨(p + 1,true,(Zh g x s1.held).take (p + 1) ++ [h]),hpl,hnx⟩,[(5,some 23)],by dsimp only;omega,rfl,⟨zE (zD rfl rfl),zA rfl,zH rfl,zH rfl,zE (zD rfl (by rw [List.length_append];rfl)),zG rfl,zE (zD rfl rfl),zA rfl,zA w5,trivial⟩,⟨⟨rfl,⟨rfl,rfl,rfl,rfl,λp hp j hj=>qn hj λh=>zAi h⟩⟩,⟨rfl,zB⟩,⟨rfl,zI (zE5 rfl)⟩,⟨rfl,zI λj hj=>(zn.sh _ j hj).le⟩,⟨rfl,QS rfl (zAy ⟨zC rfl,(zn.sh h 1 (by decide)).le,zC rfl,zC rfl,zC rfl,zC rfl,zC rfl,zC rfl,zC rfl,zS rfl,zC rfl⟩)⟩,trivial⟩⟩
   . obtain rfl : p = s1.held.length:=by omega
     cases hIn with
     | no hpg=>
       obtain rfl : s1.held.length = g:=by omega
       repeat' (first | (simp only [z0]) | (apply And.intro<;>intro hc<;>(first | exact Bool.noConfusion hc | (exfalso;first | exact absurd rfl hc | omega) | (simp only [zg] at hc<;>first | exact absurd rfl hc | (exfalso;first | exact absurd rfl hc | omega) | skip) | skip)) | (refine And.intro ze ?_) | (apply And.intro) | (intro s hs;skip) | (refine Exists.intro _ (And.intro ⟨rfl,rfl,rfl⟩ ?_)))
       . show ((s1.held.take s1.held.length).length + 1) * 104 <= 140737488355328;rw [List.length_take];omega
       . rw [List.length_take];omega
       have hAl : (qM s1 x s1.held.length).held = s1.held.take s1.held.length ++ [x]:=zFj.symm;have hAn : (qM s1 x s1.held.length).held.length = (s1.held.take s1.held.length).length + 1:=by rw [hAl,List.length_append];rfl
       conv=>whnf
       refine zw (s:=qM s1 x s1.held.length) (d:=12) hRe ha rfl (λp h j=>(zq h).trans (zAi h)) (Yh.trans rfl) (Yh.trans rfl) (Yh.trans (by rw [hAn];rfl)) rfl rfl hAn.symm rfl λq hq j hj=>?_;rw [hAl];refine zER rfl (by rw [hAn] at hq;exact hq) hj ?_;iterate 11 (rcases j with _ | j;· first | exact zC rfl | exact zS rfl | exact (zn.sh x 1 (by decide)).le)
       exact absurd hj (by omega)
     | yes hgp=>
       have hend:=zFk (x:=x) hgl;repeat' (first | (simp only [z0]) | (apply And.intro<;>intro hc<;>(first | exact Bool.noConfusion hc | (exfalso;first | exact absurd rfl hc | omega) | (simp only [zg] at hc<;>first | exact absurd rfl hc | (exfalso;first | exact absurd rfl hc | omega) | skip) | skip)) | (refine And.intro ze ?_) | (apply And.intro) | (intro s hs;skip) | (refine Exists.intro _ (And.intro ⟨rfl,rfl,rfl⟩ ?_)))
       have hAl : (qM s1 x g).held = (Zh g x s1.held).take (s1.held.length + 1):=hend.symm;conv=>whnf
       refine zw (s:=qM s1 x g) (d:=5) hRe ha rfl (λp h j=>(zq h).trans (zAi h)) (Yh.trans rfl) (Yh.trans rfl) (Yh.trans (by rw [hAl];rfl)) rfl rfl (by rw [hAl];rfl) rfl λq hq j hj=>?_;rw [hAl];exact (zn.sh _ j hj).le
theorem racc_0 (L : List Sed) (now : Int) (c : Cas) (deaf : Bool) (draw : Int) (hI : AcR L 0 now c draw) (R : List Sed × Bool × Int) (hR : R = (L.set 0 (ZZ (L.getD 0 default) now c deaf draw).1,(ZZ (L.getD 0 default) now c deaf draw).2,0))
 (ht : ∀ s1,za (L.getD 0 default) (c.num - 31) = s1 -> SdOk s1 -> ¬ c.num < (L.getD 0 default).mn -> (ZN c.num (L.getD 0 default).held 0).2 = false -> (ZN c.num s1.held 0).2 = false -> Sem Try.prog Try.f39.ntmps 0 (ZK 11 (Try.f39.body.getD Code.ret)) (SBr L 0 s1 now c deaf draw ()).fr (SBr L 0 s1 now c deaf draw ()).H (SBr L 0 s1 now c deaf draw ()).nx (qN T Try.f39.results.toList λx H _=>FinN (some R.1.length) (qE R) (ZL ZF 78 R.1) x H)) :
 Sem Try.prog Try.f39.ntmps 0 (ZK 6 (Try.f39.body.getD Code.ret)) (SAr L 0 now c deaf draw ()).fr (SAr L 0 now c deaf draw ()).H (SAr L 0 now c deaf draw ()).nx (qN T Try.f39.results.toList λx H _=>FinN (some R.1.length) (qE R) (ZL ZF 78 R.1) x H):=by
 obtain ⟨hlt,hn9,hok,hnum,hd,hnow,hdr,hf⟩:=hI;obtain ⟨s,es⟩ : ∃ s,L.getD 0 default = s:=⟨_,rfl⟩;rw [es] at hok hR ht;have hset : L.set 0 s = L:=by rw [<- es];exact YL hlt
 unfold SAr;rw [es];refine zK (wd:=1) (by decide) zM (zb zt) zN ?_;repeat' (first | (apply And.intro<;>intro hc<;>(first | exact Bool.noConfusion hc | (exfalso;first | exact absurd rfl hc | omega) | (simp only [zg] at hc<;>first | exact absurd rfl hc | (exfalso;first | exact absurd rfl hc | omega) | skip) | skip)) | (refine And.intro ze ?_) | (apply And.intro) | (intro s hs;(have q:=YU hs (Yi es.symm rfl) hf;clear hs;subst q)) | (refine Exists.intro _ (And.intro ⟨rfl,rfl,rfl⟩ ?_)))
 . exact Yj
 . show (Yt neI L.length λk j=>QQ 2 s 0 L (0 + k) j).length <= 9223372036854775807;rw [QG];omega
 refine zK (wd:=1) (by decide) zM (zb zt) zN ?_;repeat' (first | (apply And.intro<;>intro hc<;>(first | exact Bool.noConfusion hc | (exfalso;first | exact absurd rfl hc | omega) | (simp only [zg] at hc<;>first | exact absurd rfl hc | (exfalso;first | exact absurd rfl hc | omega) | skip) | skip)) | (refine And.intro ze ?_) | (apply And.intro) | (intro s hs;skip) | (refine Exists.intro _ (And.intro ⟨rfl,rfl,rfl⟩ ?_)))
 refine zK (wd:=1) (by decide) zM (zb zt) zN ?_;repeat' (first | (apply And.intro<;>intro hc<;>(first | exact Bool.noConfusion hc | (exfalso;first | exact absurd rfl hc | omega) | (simp only [zg] at hc<;>first | exact absurd rfl hc | (exfalso;first | exact absurd rfl hc | omega) | skip) | skip)) | (refine And.intro ze ?_) | (apply And.intro) | (intro s hs;skip) | (refine Exists.intro _ (And.intro ⟨rfl,rfl,rfl⟩ ?_)))
 . have hRe : R = (L,false,0):=by
    rw [hR];unfold ZZ;rw [if_pos ‹_›,hset]
   refine zw (s:=s) (d:=2) (hRe.trans (by rw [hset])) hlt rfl (λp h j=>zZ h) rfl rfl rfl rfl rfl rfl rfl λq hq j hj=>(zn.sh _ j hj).le
 have hmin : ¬ c.num < s.mn:=by assumption
 change Sem _ _ _ _ _ _ _ _;refine Zf (wd:=1) (by decide) zM (zb zt) (zT zt) zN (λ_ : {u : Unit // (ZN c.num s.held 0).2 = false}=>SLr L 0 s now c deaf draw) (by intro _;rfl) ?_ ?_
 . repeat' (first | (apply And.intro<;>intro hc<;>(first | exact Bool.noConfusion hc | (exfalso;first | exact absurd rfl hc | omega) | (simp only [zg] at hc<;>first | exact absurd rfl hc | (exfalso;first | exact absurd rfl hc | omega) | skip) | skip)) | (refine And.intro ze ?_) | (apply And.intro) | (intro s hs;skip) | (refine Exists.intro _ (And.intro ⟨rfl,rfl,rfl⟩ ?_)))
   conv=>whnf
   refine zQ (zT zt) (λu : {k : Nat // k <= s.held.length /\ ∀ p,p < k -> (s.held.getD p default).num ≠ c.num}=>(⟨[(1,zO (.int .i64 now)),(3,zO (.bool deaf)),(4,zO (.int .u32 draw)),(7,zO (.ptr 0 0 0 false)),(13,zO (.os 1 0 L.length)),(18,zO (.int .i64 ((0 : Nat) : Int))),(19,zO (.ptr 3 0 0 false)),(127,zO (.int .i64 (s.held.length : Int))),(128,zO (.int .i64 (u.1 : Int)))],[(0,some ⟨32,1,3,true,λ_=>Zr.cell c⟩),(1,some ⟨78,L.length,3,false,QQ 2 s 0 L⟩),(2,some (ZL zn 85 s.held)),(3,some ⟨78,1,3,true,λ_=>sdO 2 s⟩)],4⟩ : Hd)) (λu=>s.held.length - u.1) (λ_=>rfl) ?_ ⟨0,Nat.zero_le _,λp hp=>absurd hp (Nat.not_lt_zero p)⟩ [(3,some 12)] ⟨rfl,⟨zA rfl,zG rfl,zA rfl,zH rfl,zE (zD rfl rfl),zA rfl,zH rfl,zA rfl,zA rfl,trivial⟩,⟨⟨rfl,zI λj hj=>(Zr.sh _ j hj).le⟩,⟨rfl,⟨rfl,rfl,rfl,rfl,λp hp j hj=>Zg hj rfl⟩⟩,⟨rfl,zB⟩,⟨rfl,zI (qm ⟨zC rfl,zC rfl,zD rfl rfl⟩)⟩,trivial⟩⟩;rintro ⟨k,hk,hnk⟩;dsimp only at hk hnk ⊢;have hn32:=hok.n;by_cases hkl : k < s.held.length
   . have w5 : IntKind.i64.wrap ((k : Int) + 1) = ((k + 1 : Nat) : Int):=(IntWalk.i64_in _ (by omega)).trans (by omega);have z0 : 0 + (k : Int).toNat = k:=Nat.zero_add k;obtain ⟨T,eT⟩ : ∃ T,Qo (s.held.getD k default).tm = T:=⟨_,rfl⟩;repeat' (first | (simp only [z0]) | (apply And.intro<;>intro hc<;>(first | exact Bool.noConfusion hc | (exfalso;first | exact absurd rfl hc | omega) | (simp only [zg] at hc<;>first | exact absurd rfl hc | (exfalso;first | exact absurd rfl hc | omega) | skip) | skip)) | (refine And.intro ze ?_) | (apply And.intro) | (intro s hs;(have q : T = s:=eT.symm.trans hs.symm;clear hs;subst q)) | (refine Exists.intro _ (And.intro ⟨rfl,rfl,rfl⟩ ?_)))
     . have hpl:=zBB hok.h hkl ‹_›;have hRe : R = (L.set 0 (ZO s k),false,0):=by
        rw [hR];unfold ZZ;rw [if_neg hmin,hpl,if_pos rfl]
       have hhe : ZO s k = ⟨s.id,s.mn,s.held.set k { s.held.getD k default with tm:=T }⟩:=by unfold ZO;rw [eT]
       have hLh : (ZO s k).held.length = s.held.length:=List.length_set;conv=>whnf
       refine zw (s:=ZO s k) (d:=2) hRe hlt rfl (λp h j=>zZ h) rfl rfl (by rw [hLh];rfl) rfl rfl hLh.symm rfl λq hq j hj=>?_;rw [hhe];exact (ZJ hkl (λj hj=>(Elem.flat _ _ _).le)).2 q (by rw [List.length_set,<- hLh];exact hq) j hj
     . conv=>whnf
       exact ⟨⟨k + 1,hkl,λp hp=>by
        by_cases h : p = k
        . subst h;assumption
        . exact hnk p (by omega)⟩,[],by dsimp only;omega,rfl,⟨zA rfl,zG rfl,zA rfl,zH rfl,zE (zD rfl rfl),zA rfl,zH rfl,zA rfl,zA w5,trivial⟩,⟨⟨rfl,zI λj hj=>(Zr.sh _ j hj).le⟩,⟨rfl,⟨rfl,rfl,rfl,rfl,λp hp j hj=>Zg hj rfl⟩⟩,⟨rfl,zB⟩,⟨rfl,zI (qm ⟨zC rfl,zC rfl,zD rfl rfl⟩)⟩,trivial⟩⟩
   . repeat' (first | (apply And.intro<;>intro hc<;>(first | exact Bool.noConfusion hc | (exfalso;first | exact absurd rfl hc | omega) | (simp only [zg] at hc<;>first | exact absurd rfl hc | (exfalso;first | exact absurd rfl hc | omega) | skip) | skip)) | (refine And.intro ze ?_) | (apply And.intro) | (intro s hs;skip) | (refine Exists.intro _ (And.intro ⟨rfl,rfl,rfl⟩ ?_)))
     conv=>whnf
     exact ⟨⟨(),zBC λp hp=>hnk p (by omega)⟩,[],rfl,⟨zA rfl,zG rfl,zA rfl,zH rfl,zE (zD rfl rfl),zA rfl,zH rfl,trivial⟩,⟨⟨rfl,zI λj hj=>(Zr.sh _ j hj).le⟩,⟨rfl,⟨rfl,rfl,rfl,rfl,λp hp j hj=>Zg hj rfl⟩⟩,⟨rfl,zB⟩,⟨rfl,zI (qm ⟨zC rfl,zC rfl,zD rfl rfl⟩)⟩,trivial⟩⟩
 . rintro ⟨_,hno⟩;have hs1 : ql s (c.num - 31) = za s (c.num - 31):=qw hok;obtain ⟨s1,es1⟩ : ∃ s1,za s (c.num - 31) = s1:=⟨_,rfl⟩;rw [es1] at hs1;have hok1 : SdOk s1:=by rw [<- es1];exact Qu hok (by omega)
   have hk:=hok.k;have hmn:=hok.mn;have w31 : IntKind.i64.wrap (s.mn + 31) = s.mn + 31:=IntWalk.i64_in _ (by omega);have w32 : IntKind.i64.wrap (c.num - 31) = c.num - 31:=IntWalk.i64_in _ (by omega);unfold SLr;change Sem _ _ _ _ _ _ _ _;refine Zf (wd:=1) (by decide) zM (zb zt) (zT zt) zN (SBr L 0 s1 now c deaf draw) (by intro _;rfl) ?_ ?_
   . repeat' (first | (simp only [w31,w32]) | (apply And.intro<;>intro hc<;>(first | exact Bool.noConfusion hc | (exfalso;first | exact absurd rfl hc | omega) | (simp only [zg] at hc<;>first | exact absurd rfl hc | (exfalso;first | exact absurd rfl hc | omega) | skip) | skip)) | (refine And.intro ze ?_) | (apply And.intro) | (intro s hs;(have q:=qp hs (YB rfl rfl (zL zR _)) hs1;clear hs;subst q)) | (refine Exists.intro _ (And.intro ⟨rfl,rfl,rfl⟩ ?_)))
     . exact ⟨rfl,rfl,λ_ _=>⟨rfl,zl _⟩⟩
     . exact Eq.mpr (congrArg KpI (zL zR _)) hk
     . conv=>whnf
       exact ⟨(),[(2,some 14)],rfl,⟨zA rfl,zG rfl,zA rfl,zH rfl,zE (zD rfl rfl),zA rfl,zH rfl,trivial⟩,⟨⟨rfl,zI λj hj=>(Zr.sh _ j hj).le⟩,⟨rfl,⟨rfl,rfl,rfl,rfl,λp hp j hj=>qn hj λh=>zZ h⟩⟩,⟨rfl,zB⟩,⟨rfl,zI (qm ⟨zC rfl,zC rfl,zD rfl rfl⟩)⟩,trivial⟩⟩
     . have e1 : s1 = s:=by rw [<- es1];exact if_pos (by omega)
       conv=>whnf
       exact ⟨(),[],rfl,⟨zA rfl,zG rfl,zA rfl,zH rfl,zE (zD rfl rfl),zA rfl,zH rfl,trivial⟩,⟨⟨rfl,zI λj hj=>(Zr.sh _ j hj).le⟩,⟨rfl,⟨rfl,rfl,rfl,rfl,λp hp j hj=>qn hj λh=>zZ h⟩⟩,⟨rfl,zF (by rw [e1])⟩,⟨rfl,zI (qm ⟨zC (by rw [e1]),zC (by rw [e1]),zD rfl (by rw [e1])⟩)⟩,trivial⟩⟩
   . intro _;exact ht s1 es1 hok1 hmin hno (by rw [<- es1];unfold za;split;exact hno;exact Qc hok.h hno)
theorem racc_1 (L : List Sed) (now : Int) (c : Cas) (deaf : Bool) (draw : Int) (hI : AcR L 1 now c draw) (R : List Sed × Bool × Int) (hR : R = (L.set 1 (ZZ (L.getD 1 default) now c deaf draw).1,(ZZ (L.getD 1 default) now c deaf draw).2,0))
 (ht : ∀ s1,za (L.getD 1 default) (c.num - 31) = s1 -> SdOk s1 -> ¬ c.num < (L.getD 1 default).mn -> (ZN c.num (L.getD 1 default).held 0).2 = false -> (ZN c.num s1.held 0).2 = false -> Sem Try.prog Try.f39.ntmps 0 (ZK 11 (Try.f39.body.getD Code.ret)) (SBr L 1 s1 now c deaf draw ()).fr (SBr L 1 s1 now c deaf draw ()).H (SBr L 1 s1 now c deaf draw ()).nx (qN T Try.f39.results.toList λx H _=>FinN (some R.1.length) (qE R) (ZL ZF 78 R.1) x H)) :
 Sem Try.prog Try.f39.ntmps 0 (ZK 6 (Try.f39.body.getD Code.ret)) (SAr L 1 now c deaf draw ()).fr (SAr L 1 now c deaf draw ()).H (SAr L 1 now c deaf draw ()).nx (qN T Try.f39.results.toList λx H _=>FinN (some R.1.length) (qE R) (ZL ZF 78 R.1) x H):=by
 obtain ⟨hlt,hn9,hok,hnum,hd,hnow,hdr,hf⟩:=hI;obtain ⟨s,es⟩ : ∃ s,L.getD 1 default = s:=⟨_,rfl⟩;rw [es] at hok hR ht;have hset : L.set 1 s = L:=by rw [<- es];exact YL hlt
 unfold SAr;rw [es];refine zK (wd:=1) (by decide) zM (zb zt) zN ?_;repeat' (first | (apply And.intro<;>intro hc<;>(first | exact Bool.noConfusion hc | (exfalso;first | exact absurd rfl hc | omega) | (simp only [zg] at hc<;>first | exact absurd rfl hc | (exfalso;first | exact absurd rfl hc | omega) | skip) | skip)) | (refine And.intro ze ?_) | (apply And.intro) | (intro s hs;(have q:=YU hs (Yi es.symm rfl) hf;clear hs;subst q)) | (refine Exists.intro _ (And.intro ⟨rfl,rfl,rfl⟩ ?_)))
 . exact Yj
 . show (Yt neI L.length λk j=>QQ 2 s 1 L (0 + k) j).length <= 9223372036854775807;rw [QG];omega
 refine zK (wd:=1) (by decide) zM (zb zt) zN ?_;repeat' (first | (apply And.intro<;>intro hc<;>(first | exact Bool.noConfusion hc | (exfalso;first | exact absurd rfl hc | omega) | (simp only [zg] at hc<;>first | exact absurd rfl hc | (exfalso;first | exact absurd rfl hc | omega) | skip) | skip)) | (refine And.intro ze ?_) | (apply And.intro) | (intro s hs;skip) | (refine Exists.intro _ (And.intro ⟨rfl,rfl,rfl⟩ ?_)))
 refine zK (wd:=1) (by decide) zM (zb zt) zN ?_;repeat' (first | (apply And.intro<;>intro hc<;>(first | exact Bool.noConfusion hc | (exfalso;first | exact absurd rfl hc | omega) | (simp only [zg] at hc<;>first | exact absurd rfl hc | (exfalso;first | exact absurd rfl hc | omega) | skip) | skip)) | (refine And.intro ze ?_) | (apply And.intro) | (intro s hs;skip) | (refine Exists.intro _ (And.intro ⟨rfl,rfl,rfl⟩ ?_)))
 . have hRe : R = (L,false,0):=by
    rw [hR];unfold ZZ;rw [if_pos ‹_›,hset]
   refine zw (s:=s) (d:=2) (hRe.trans (by rw [hset])) hlt rfl (λp h j=>zZ h) rfl rfl rfl rfl rfl rfl rfl λq hq j hj=>(zn.sh _ j hj).le
 have hmin : ¬ c.num < s.mn:=by assumption
 change Sem _ _ _ _ _ _ _ _;refine Zf (wd:=1) (by decide) zM (zb zt) (zT zt) zN (λ_ : {u : Unit // (ZN c.num s.held 0).2 = false}=>SLr L 1 s now c deaf draw) (by intro _;rfl) ?_ ?_
 . repeat' (first | (apply And.intro<;>intro hc<;>(first | exact Bool.noConfusion hc | (exfalso;first | exact absurd rfl hc | omega) | (simp only [zg] at hc<;>first | exact absurd rfl hc | (exfalso;first | exact absurd rfl hc | omega) | skip) | skip)) | (refine And.intro ze ?_) | (apply And.intro) | (intro s hs;skip) | (refine Exists.intro _ (And.intro ⟨rfl,rfl,rfl⟩ ?_)))
   conv=>whnf
   refine zQ (zT zt) (λu : {k : Nat // k <= s.held.length /\ ∀ p,p < k -> (s.held.getD p default).num ≠ c.num}=>(⟨[(1,zO (.int .i64 now)),(3,zO (.bool deaf)),(4,zO (.int .u32 draw)),(7,zO (.ptr 0 0 0 false)),(13,zO (.os 1 0 L.length)),(18,zO (.int .i64 ((1 : Nat) : Int))),(19,zO (.ptr 3 0 0 false)),(127,zO (.int .i64 (s.held.length : Int))),(128,zO (.int .i64 (u.1 : Int)))],[(0,some ⟨32,1,3,true,λ_=>Zr.cell c⟩),(1,some ⟨78,L.length,3,false,QQ 2 s 1 L⟩),(2,some (ZL zn 85 s.held)),(3,some ⟨78,1,3,true,λ_=>sdO 2 s⟩)],4⟩ : Hd)) (λu=>s.held.length - u.1) (λ_=>rfl) ?_ ⟨0,Nat.zero_le _,λp hp=>absurd hp (Nat.not_lt_zero p)⟩ [(3,some 12)] ⟨rfl,⟨zA rfl,zG rfl,zA rfl,zH rfl,zE (zD rfl rfl),zA rfl,zH rfl,zA rfl,zA rfl,trivial⟩,⟨⟨rfl,zI λj hj=>(Zr.sh _ j hj).le⟩,⟨rfl,⟨rfl,rfl,rfl,rfl,λp hp j hj=>Zg hj rfl⟩⟩,⟨rfl,zB⟩,⟨rfl,zI (qm ⟨zC rfl,zC rfl,zD rfl rfl⟩)⟩,trivial⟩⟩;rintro ⟨k,hk,hnk⟩;dsimp only at hk hnk ⊢;have hn32:=hok.n;by_cases hkl : k < s.held.length
   . have w5 : IntKind.i64.wrap ((k : Int) + 1) = ((k + 1 : Nat) : Int):=(IntWalk.i64_in _ (by omega)).trans (by omega);have z0 : 0 + (k : Int).toNat = k:=Nat.zero_add k;obtain ⟨T,eT⟩ : ∃ T,Qo (s.held.getD k default).tm = T:=⟨_,rfl⟩;repeat' (first | (simp only [z0]) | (apply And.intro<;>intro hc<;>(first | exact Bool.noConfusion hc | (exfalso;first | exact absurd rfl hc | omega) | (simp only [zg] at hc<;>first | exact absurd rfl hc | (exfalso;first | exact absurd rfl hc | omega) | skip) | skip)) | (refine And.intro ze ?_) | (apply And.intro) | (intro s hs;(have q : T = s:=eT.symm.trans hs.symm;clear hs;subst q)) | (refine Exists.intro _ (And.intro ⟨rfl,rfl,rfl⟩ ?_)))
     . have hpl:=zBB hok.h hkl ‹_›;have hRe : R = (L.set 1 (ZO s k),false,0):=by
        rw [hR];unfold ZZ;rw [if_neg hmin,hpl,if_pos rfl]
       have hhe : ZO s k = ⟨s.id,s.mn,s.held.set k { s.held.getD k default with tm:=T }⟩:=by unfold ZO;rw [eT]
       have hLh : (ZO s k).held.length = s.held.length:=List.length_set;conv=>whnf
       refine zw (s:=ZO s k) (d:=2) hRe hlt rfl (λp h j=>zZ h) rfl rfl (by rw [hLh];rfl) rfl rfl hLh.symm rfl λq hq j hj=>?_;rw [hhe];exact (ZJ hkl (λj hj=>(Elem.flat _ _ _).le)).2 q (by rw [List.length_set,<- hLh];exact hq) j hj
     . conv=>whnf
       exact ⟨⟨k + 1,hkl,λp hp=>by
        by_cases h : p = k
        . subst h;assumption
        . exact hnk p (by omega)⟩,[],by dsimp only;omega,rfl,⟨zA rfl,zG rfl,zA rfl,zH rfl,zE (zD rfl rfl),zA rfl,zH rfl,zA rfl,zA w5,trivial⟩,⟨⟨rfl,zI λj hj=>(Zr.sh _ j hj).le⟩,⟨rfl,⟨rfl,rfl,rfl,rfl,λp hp j hj=>Zg hj rfl⟩⟩,⟨rfl,zB⟩,⟨rfl,zI (qm ⟨zC rfl,zC rfl,zD rfl rfl⟩)⟩,trivial⟩⟩
   . repeat' (first | (apply And.intro<;>intro hc<;>(first | exact Bool.noConfusion hc | (exfalso;first | exact absurd rfl hc | omega) | (simp only [zg] at hc<;>first | exact absurd rfl hc | (exfalso;first | exact absurd rfl hc | omega) | skip) | skip)) | (refine And.intro ze ?_) | (apply And.intro) | (intro s hs;skip) | (refine Exists.intro _ (And.intro ⟨rfl,rfl,rfl⟩ ?_)))
     conv=>whnf
     exact ⟨⟨(),zBC λp hp=>hnk p (by omega)⟩,[],rfl,⟨zA rfl,zG rfl,zA rfl,zH rfl,zE (zD rfl rfl),zA rfl,zH rfl,trivial⟩,⟨⟨rfl,zI λj hj=>(Zr.sh _ j hj).le⟩,⟨rfl,⟨rfl,rfl,rfl,rfl,λp hp j hj=>Zg hj rfl⟩⟩,⟨rfl,zB⟩,⟨rfl,zI (qm ⟨zC rfl,zC rfl,zD rfl rfl⟩)⟩,trivial⟩⟩
 . rintro ⟨_,hno⟩;have hs1 : ql s (c.num - 31) = za s (c.num - 31):=qw hok;obtain ⟨s1,es1⟩ : ∃ s1,za s (c.num - 31) = s1:=⟨_,rfl⟩;rw [es1] at hs1;have hok1 : SdOk s1:=by rw [<- es1];exact Qu hok (by omega)
   have hk:=hok.k;have hmn:=hok.mn;have w31 : IntKind.i64.wrap (s.mn + 31) = s.mn + 31:=IntWalk.i64_in _ (by omega);have w32 : IntKind.i64.wrap (c.num - 31) = c.num - 31:=IntWalk.i64_in _ (by omega);unfold SLr;change Sem _ _ _ _ _ _ _ _;refine Zf (wd:=1) (by decide) zM (zb zt) (zT zt) zN (SBr L 1 s1 now c deaf draw) (by intro _;rfl) ?_ ?_
   . repeat' (first | (simp only [w31,w32]) | (apply And.intro<;>intro hc<;>(first | exact Bool.noConfusion hc | (exfalso;first | exact absurd rfl hc | omega) | (simp only [zg] at hc<;>first | exact absurd rfl hc | (exfalso;first | exact absurd rfl hc | omega) | skip) | skip)) | (refine And.intro ze ?_) | (apply And.intro) | (intro s hs;(have q:=qp hs (YB rfl rfl (zL zR _)) hs1;clear hs;subst q)) | (refine Exists.intro _ (And.intro ⟨rfl,rfl,rfl⟩ ?_)))
     . exact ⟨rfl,rfl,λ_ _=>⟨rfl,zl _⟩⟩
     . exact Eq.mpr (congrArg KpI (zL zR _)) hk
     . conv=>whnf
       exact ⟨(),[(2,some 14)],rfl,⟨zA rfl,zG rfl,zA rfl,zH rfl,zE (zD rfl rfl),zA rfl,zH rfl,trivial⟩,⟨⟨rfl,zI λj hj=>(Zr.sh _ j hj).le⟩,⟨rfl,⟨rfl,rfl,rfl,rfl,λp hp j hj=>qn hj λh=>zZ h⟩⟩,⟨rfl,zB⟩,⟨rfl,zI (qm ⟨zC rfl,zC rfl,zD rfl rfl⟩)⟩,trivial⟩⟩
     . have e1 : s1 = s:=by rw [<- es1];exact if_pos (by omega)
       conv=>whnf
       exact ⟨(),[],rfl,⟨zA rfl,zG rfl,zA rfl,zH rfl,zE (zD rfl rfl),zA rfl,zH rfl,trivial⟩,⟨⟨rfl,zI λj hj=>(Zr.sh _ j hj).le⟩,⟨rfl,⟨rfl,rfl,rfl,rfl,λp hp j hj=>qn hj λh=>zZ h⟩⟩,⟨rfl,zF (by rw [e1])⟩,⟨rfl,zI (qm ⟨zC (by rw [e1]),zC (by rw [e1]),zD rfl (by rw [e1])⟩)⟩,trivial⟩⟩
   . intro _;exact ht s1 es1 hok1 hmin hno (by rw [<- es1];unfold za;split;exact hno;exact Qc hok.h hno)
theorem racc_2 (L : List Sed) (now : Int) (c : Cas) (deaf : Bool) (draw : Int) (hI : AcR L 2 now c draw) (R : List Sed × Bool × Int) (hR : R = (L.set 2 (ZZ (L.getD 2 default) now c deaf draw).1,(ZZ (L.getD 2 default) now c deaf draw).2,0))
 (ht : ∀ s1,za (L.getD 2 default) (c.num - 31) = s1 -> SdOk s1 -> ¬ c.num < (L.getD 2 default).mn -> (ZN c.num (L.getD 2 default).held 0).2 = false -> (ZN c.num s1.held 0).2 = false -> Sem Try.prog Try.f39.ntmps 0 (ZK 11 (Try.f39.body.getD Code.ret)) (SBr L 2 s1 now c deaf draw ()).fr (SBr L 2 s1 now c deaf draw ()).H (SBr L 2 s1 now c deaf draw ()).nx (qN T Try.f39.results.toList λx H _=>FinN (some R.1.length) (qE R) (ZL ZF 78 R.1) x H)) :
 Sem Try.prog Try.f39.ntmps 0 (ZK 6 (Try.f39.body.getD Code.ret)) (SAr L 2 now c deaf draw ()).fr (SAr L 2 now c deaf draw ()).H (SAr L 2 now c deaf draw ()).nx (qN T Try.f39.results.toList λx H _=>FinN (some R.1.length) (qE R) (ZL ZF 78 R.1) x H):=by
 obtain ⟨hlt,hn9,hok,hnum,hd,hnow,hdr,hf⟩:=hI;obtain ⟨s,es⟩ : ∃ s,L.getD 2 default = s:=⟨_,rfl⟩;rw [es] at hok hR ht;have hset : L.set 2 s = L:=by rw [<- es];exact YL hlt
 unfold SAr;rw [es];refine zK (wd:=1) (by decide) zM (zb zt) zN ?_;repeat' (first | (apply And.intro<;>intro hc<;>(first | exact Bool.noConfusion hc | (exfalso;first | exact absurd rfl hc | omega) | (simp only [zg] at hc<;>first | exact absurd rfl hc | (exfalso;first | exact absurd rfl hc | omega) | skip) | skip)) | (refine And.intro ze ?_) | (apply And.intro) | (intro s hs;(have q:=YU hs (Yi es.symm rfl) hf;clear hs;subst q)) | (refine Exists.intro _ (And.intro ⟨rfl,rfl,rfl⟩ ?_)))
 . exact Yj
 . show (Yt neI L.length λk j=>QQ 2 s 2 L (0 + k) j).length <= 9223372036854775807;rw [QG];omega
 refine zK (wd:=1) (by decide) zM (zb zt) zN ?_;repeat' (first | (apply And.intro<;>intro hc<;>(first | exact Bool.noConfusion hc | (exfalso;first | exact absurd rfl hc | omega) | (simp only [zg] at hc<;>first | exact absurd rfl hc | (exfalso;first | exact absurd rfl hc | omega) | skip) | skip)) | (refine And.intro ze ?_) | (apply And.intro) | (intro s hs;skip) | (refine Exists.intro _ (And.intro ⟨rfl,rfl,rfl⟩ ?_)))
 refine zK (wd:=1) (by decide) zM (zb zt) zN ?_;repeat' (first | (apply And.intro<;>intro hc<;>(first | exact Bool.noConfusion hc | (exfalso;first | exact absurd rfl hc | omega) | (simp only [zg] at hc<;>first | exact absurd rfl hc | (exfalso;first | exact absurd rfl hc | omega) | skip) | skip)) | (refine And.intro ze ?_) | (apply And.intro) | (intro s hs;skip) | (refine Exists.intro _ (And.intro ⟨rfl,rfl,rfl⟩ ?_)))
 . have hRe : R = (L,false,0):=by
    rw [hR];unfold ZZ;rw [if_pos ‹_›,hset]
   refine zw (s:=s) (d:=2) (hRe.trans (by rw [hset])) hlt rfl (λp h j=>zZ h) rfl rfl rfl rfl rfl rfl rfl λq hq j hj=>(zn.sh _ j hj).le
 have hmin : ¬ c.num < s.mn:=by assumption
 change Sem _ _ _ _ _ _ _ _;refine Zf (wd:=1) (by decide) zM (zb zt) (zT zt) zN (λ_ : {u : Unit // (ZN c.num s.held 0).2 = false}=>SLr L 2 s now c deaf draw) (by intro _;rfl) ?_ ?_
 . repeat' (first | (apply And.intro<;>intro hc<;>(first | exact Bool.noConfusion hc | (exfalso;first | exact absurd rfl hc | omega) | (simp only [zg] at hc<;>first | exact absurd rfl hc | (exfalso;first | exact absurd rfl hc | omega) | skip) | skip)) | (refine And.intro ze ?_) | (apply And.intro) | (intro s hs;skip) | (refine Exists.intro _ (And.intro ⟨rfl,rfl,rfl⟩ ?_)))
   conv=>whnf
   refine zQ (zT zt) (λu : {k : Nat // k <= s.held.length /\ ∀ p,p < k -> (s.held.getD p default).num ≠ c.num}=>(⟨[(1,zO (.int .i64 now)),(3,zO (.bool deaf)),(4,zO (.int .u32 draw)),(7,zO (.ptr 0 0 0 false)),(13,zO (.os 1 0 L.length)),(18,zO (.int .i64 ((2 : Nat) : Int))),(19,zO (.ptr 3 0 0 false)),(127,zO (.int .i64 (s.held.length : Int))),(128,zO (.int .i64 (u.1 : Int)))],[(0,some ⟨32,1,3,true,λ_=>Zr.cell c⟩),(1,some ⟨78,L.length,3,false,QQ 2 s 2 L⟩),(2,some (ZL zn 85 s.held)),(3,some ⟨78,1,3,true,λ_=>sdO 2 s⟩)],4⟩ : Hd)) (λu=>s.held.length - u.1) (λ_=>rfl) ?_ ⟨0,Nat.zero_le _,λp hp=>absurd hp (Nat.not_lt_zero p)⟩ [(3,some 12)] ⟨rfl,⟨zA rfl,zG rfl,zA rfl,zH rfl,zE (zD rfl rfl),zA rfl,zH rfl,zA rfl,zA rfl,trivial⟩,⟨⟨rfl,zI λj hj=>(Zr.sh _ j hj).le⟩,⟨rfl,⟨rfl,rfl,rfl,rfl,λp hp j hj=>Zg hj rfl⟩⟩,⟨rfl,zB⟩,⟨rfl,zI (qm ⟨zC rfl,zC rfl,zD rfl rfl⟩)⟩,trivial⟩⟩;rintro ⟨k,hk,hnk⟩;dsimp only at hk hnk ⊢;have hn32:=hok.n;by_cases hkl : k < s.held.length
   . have w5 : IntKind.i64.wrap ((k : Int) + 1) = ((k + 1 : Nat) : Int):=(IntWalk.i64_in _ (by omega)).trans (by omega);have z0 : 0 + (k : Int).toNat = k:=Nat.zero_add k;obtain ⟨T,eT⟩ : ∃ T,Qo (s.held.getD k default).tm = T:=⟨_,rfl⟩;repeat' (first | (simp only [z0]) | (apply And.intro<;>intro hc<;>(first | exact Bool.noConfusion hc | (exfalso;first | exact absurd rfl hc | omega) | (simp only [zg] at hc<;>first | exact absurd rfl hc | (exfalso;first | exact absurd rfl hc | omega) | skip) | skip)) | (refine And.intro ze ?_) | (apply And.intro) | (intro s hs;(have q : T = s:=eT.symm.trans hs.symm;clear hs;subst q)) | (refine Exists.intro _ (And.intro ⟨rfl,rfl,rfl⟩ ?_)))
     . have hpl:=zBB hok.h hkl ‹_›;have hRe : R = (L.set 2 (ZO s k),false,0):=by
        rw [hR];unfold ZZ;rw [if_neg hmin,hpl,if_pos rfl]
       have hhe : ZO s k = ⟨s.id,s.mn,s.held.set k { s.held.getD k default with tm:=T }⟩:=by unfold ZO;rw [eT]
       have hLh : (ZO s k).held.length = s.held.length:=List.length_set;conv=>whnf
       refine zw (s:=ZO s k) (d:=2) hRe hlt rfl (λp h j=>zZ h) rfl rfl (by rw [hLh];rfl) rfl rfl hLh.symm rfl λq hq j hj=>?_;rw [hhe];exact (ZJ hkl (λj hj=>(Elem.flat _ _ _).le)).2 q (by rw [List.length_set,<- hLh];exact hq) j hj
     . conv=>whnf
       exact ⟨⟨k + 1,hkl,λp hp=>by
        by_cases h : p = k
        . subst h;assumption
        . exact hnk p (by omega)⟩,[],by dsimp only;omega,rfl,⟨zA rfl,zG rfl,zA rfl,zH rfl,zE (zD rfl rfl),zA rfl,zH rfl,zA rfl,zA w5,trivial⟩,⟨⟨rfl,zI λj hj=>(Zr.sh _ j hj).le⟩,⟨rfl,⟨rfl,rfl,rfl,rfl,λp hp j hj=>Zg hj rfl⟩⟩,⟨rfl,zB⟩,⟨rfl,zI (qm ⟨zC rfl,zC rfl,zD rfl rfl⟩)⟩,trivial⟩⟩
   . repeat' (first | (apply And.intro<;>intro hc<;>(first | exact Bool.noConfusion hc | (exfalso;first | exact absurd rfl hc | omega) | (simp only [zg] at hc<;>first | exact absurd rfl hc | (exfalso;first | exact absurd rfl hc | omega) | skip) | skip)) | (refine And.intro ze ?_) | (apply And.intro) | (intro s hs;skip) | (refine Exists.intro _ (And.intro ⟨rfl,rfl,rfl⟩ ?_)))
     conv=>whnf
     exact ⟨⟨(),zBC λp hp=>hnk p (by omega)⟩,[],rfl,⟨zA rfl,zG rfl,zA rfl,zH rfl,zE (zD rfl rfl),zA rfl,zH rfl,trivial⟩,⟨⟨rfl,zI λj hj=>(Zr.sh _ j hj).le⟩,⟨rfl,⟨rfl,rfl,rfl,rfl,λp hp j hj=>Zg hj rfl⟩⟩,⟨rfl,zB⟩,⟨rfl,zI (qm ⟨zC rfl,zC rfl,zD rfl rfl⟩)⟩,trivial⟩⟩
 . rintro ⟨_,hno⟩;have hs1 : ql s (c.num - 31) = za s (c.num - 31):=qw hok;obtain ⟨s1,es1⟩ : ∃ s1,za s (c.num - 31) = s1:=⟨_,rfl⟩;rw [es1] at hs1;have hok1 : SdOk s1:=by rw [<- es1];exact Qu hok (by omega)
   have hk:=hok.k;have hmn:=hok.mn;have w31 : IntKind.i64.wrap (s.mn + 31) = s.mn + 31:=IntWalk.i64_in _ (by omega);have w32 : IntKind.i64.wrap (c.num - 31) = c.num - 31:=IntWalk.i64_in _ (by omega);unfold SLr;change Sem _ _ _ _ _ _ _ _;refine Zf (wd:=1) (by decide) zM (zb zt) (zT zt) zN (SBr L 2 s1 now c deaf draw) (by intro _;rfl) ?_ ?_
   . repeat' (first | (simp only [w31,w32]) | (apply And.intro<;>intro hc<;>(first | exact Bool.noConfusion hc | (exfalso;first | exact absurd rfl hc | omega) | (simp only [zg] at hc<;>first | exact absurd rfl hc | (exfalso;first | exact absurd rfl hc | omega) | skip) | skip)) | (refine And.intro ze ?_) | (apply And.intro) | (intro s hs;(have q:=qp hs (YB rfl rfl (zL zR _)) hs1;clear hs;subst q)) | (refine Exists.intro _ (And.intro ⟨rfl,rfl,rfl⟩ ?_)))
     . exact ⟨rfl,rfl,λ_ _=>⟨rfl,zl _⟩⟩
     . exact Eq.mpr (congrArg KpI (zL zR _)) hk
     . conv=>whnf
       exact ⟨(),[(2,some 14)],rfl,⟨zA rfl,zG rfl,zA rfl,zH rfl,zE (zD rfl rfl),zA rfl,zH rfl,trivial⟩,⟨⟨rfl,zI λj hj=>(Zr.sh _ j hj).le⟩,⟨rfl,⟨rfl,rfl,rfl,rfl,λp hp j hj=>qn hj λh=>zZ h⟩⟩,⟨rfl,zB⟩,⟨rfl,zI (qm ⟨zC rfl,zC rfl,zD rfl rfl⟩)⟩,trivial⟩⟩
     . have e1 : s1 = s:=by rw [<- es1];exact if_pos (by omega)
       conv=>whnf
       exact ⟨(),[],rfl,⟨zA rfl,zG rfl,zA rfl,zH rfl,zE (zD rfl rfl),zA rfl,zH rfl,trivial⟩,⟨⟨rfl,zI λj hj=>(Zr.sh _ j hj).le⟩,⟨rfl,⟨rfl,rfl,rfl,rfl,λp hp j hj=>qn hj λh=>zZ h⟩⟩,⟨rfl,zF (by rw [e1])⟩,⟨rfl,zI (qm ⟨zC (by rw [e1]),zC (by rw [e1]),zD rfl (by rw [e1])⟩)⟩,trivial⟩⟩
   . intro _;exact ht s1 es1 hok1 hmin hno (by rw [<- es1];unfold za;split;exact hno;exact Qc hok.h hno)
theorem racc_3 (L : List Sed) (now : Int) (c : Cas) (deaf : Bool) (draw : Int) (hI : AcR L 3 now c draw) (R : List Sed × Bool × Int) (hR : R = (L.set 3 (ZZ (L.getD 3 default) now c deaf draw).1,(ZZ (L.getD 3 default) now c deaf draw).2,0))
 (ht : ∀ s1,za (L.getD 3 default) (c.num - 31) = s1 -> SdOk s1 -> ¬ c.num < (L.getD 3 default).mn -> (ZN c.num (L.getD 3 default).held 0).2 = false -> (ZN c.num s1.held 0).2 = false -> Sem Try.prog Try.f39.ntmps 0 (ZK 11 (Try.f39.body.getD Code.ret)) (SBr L 3 s1 now c deaf draw ()).fr (SBr L 3 s1 now c deaf draw ()).H (SBr L 3 s1 now c deaf draw ()).nx (qN T Try.f39.results.toList λx H _=>FinN (some R.1.length) (qE R) (ZL ZF 78 R.1) x H)) :
 Sem Try.prog Try.f39.ntmps 0 (ZK 6 (Try.f39.body.getD Code.ret)) (SAr L 3 now c deaf draw ()).fr (SAr L 3 now c deaf draw ()).H (SAr L 3 now c deaf draw ()).nx (qN T Try.f39.results.toList λx H _=>FinN (some R.1.length) (qE R) (ZL ZF 78 R.1) x H):=by
 obtain ⟨hlt,hn9,hok,hnum,hd,hnow,hdr,hf⟩:=hI;obtain ⟨s,es⟩ : ∃ s,L.getD 3 default = s:=⟨_,rfl⟩;rw [es] at hok hR ht;have hset : L.set 3 s = L:=by rw [<- es];exact YL hlt
 unfold SAr;rw [es];refine zK (wd:=1) (by decide) zM (zb zt) zN ?_;repeat' (first | (apply And.intro<;>intro hc<;>(first | exact Bool.noConfusion hc | (exfalso;first | exact absurd rfl hc | omega) | (simp only [zg] at hc<;>first | exact absurd rfl hc | (exfalso;first | exact absurd rfl hc | omega) | skip) | skip)) | (refine And.intro ze ?_) | (apply And.intro) | (intro s hs;(have q:=YU hs (Yi es.symm rfl) hf;clear hs;subst q)) | (refine Exists.intro _ (And.intro ⟨rfl,rfl,rfl⟩ ?_)))
 . exact Yj
 . show (Yt neI L.length λk j=>QQ 2 s 3 L (0 + k) j).length <= 9223372036854775807;rw [QG];omega
 refine zK (wd:=1) (by decide) zM (zb zt) zN ?_;repeat' (first | (apply And.intro<;>intro hc<;>(first | exact Bool.noConfusion hc | (exfalso;first | exact absurd rfl hc | omega) | (simp only [zg] at hc<;>first | exact absurd rfl hc | (exfalso;first | exact absurd rfl hc | omega) | skip) | skip)) | (refine And.intro ze ?_) | (apply And.intro) | (intro s hs;skip) | (refine Exists.intro _ (And.intro ⟨rfl,rfl,rfl⟩ ?_)))
 refine zK (wd:=1) (by decide) zM (zb zt) zN ?_;repeat' (first | (apply And.intro<;>intro hc<;>(first | exact Bool.noConfusion hc | (exfalso;first | exact absurd rfl hc | omega) | (simp only [zg] at hc<;>first | exact absurd rfl hc | (exfalso;first | exact absurd rfl hc | omega) | skip) | skip)) | (refine And.intro ze ?_) | (apply And.intro) | (intro s hs;skip) | (refine Exists.intro _ (And.intro ⟨rfl,rfl,rfl⟩ ?_)))
 . have hRe : R = (L,false,0):=by
    rw [hR];unfold ZZ;rw [if_pos ‹_›,hset]
   refine zw (s:=s) (d:=2) (hRe.trans (by rw [hset])) hlt rfl (λp h j=>zZ h) rfl rfl rfl rfl rfl rfl rfl λq hq j hj=>(zn.sh _ j hj).le
 have hmin : ¬ c.num < s.mn:=by assumption
 change Sem _ _ _ _ _ _ _ _;refine Zf (wd:=1) (by decide) zM (zb zt) (zT zt) zN (λ_ : {u : Unit // (ZN c.num s.held 0).2 = false}=>SLr L 3 s now c deaf draw) (by intro _;rfl) ?_ ?_
 . repeat' (first | (apply And.intro<;>intro hc<;>(first | exact Bool.noConfusion hc | (exfalso;first | exact absurd rfl hc | omega) | (simp only [zg] at hc<;>first | exact absurd rfl hc | (exfalso;first | exact absurd rfl hc | omega) | skip) | skip)) | (refine And.intro ze ?_) | (apply And.intro) | (intro s hs;skip) | (refine Exists.intro _ (And.intro ⟨rfl,rfl,rfl⟩ ?_)))
   conv=>whnf
   refine zQ (zT zt) (λu : {k : Nat // k <= s.held.length /\ ∀ p,p < k -> (s.held.getD p default).num ≠ c.num}=>(⟨[(1,zO (.int .i64 now)),(3,zO (.bool deaf)),(4,zO (.int .u32 draw)),(7,zO (.ptr 0 0 0 false)),(13,zO (.os 1 0 L.length)),(18,zO (.int .i64 ((3 : Nat) : Int))),(19,zO (.ptr 3 0 0 false)),(127,zO (.int .i64 (s.held.length : Int))),(128,zO (.int .i64 (u.1 : Int)))],[(0,some ⟨32,1,3,true,λ_=>Zr.cell c⟩),(1,some ⟨78,L.length,3,false,QQ 2 s 3 L⟩),(2,some (ZL zn 85 s.held)),(3,some ⟨78,1,3,true,λ_=>sdO 2 s⟩)],4⟩ : Hd)) (λu=>s.held.length - u.1) (λ_=>rfl) ?_ ⟨0,Nat.zero_le _,λp hp=>absurd hp (Nat.not_lt_zero p)⟩ [(3,some 12)] ⟨rfl,⟨zA rfl,zG rfl,zA rfl,zH rfl,zE (zD rfl rfl),zA rfl,zH rfl,zA rfl,zA rfl,trivial⟩,⟨⟨rfl,zI λj hj=>(Zr.sh _ j hj).le⟩,⟨rfl,⟨rfl,rfl,rfl,rfl,λp hp j hj=>Zg hj rfl⟩⟩,⟨rfl,zB⟩,⟨rfl,zI (qm ⟨zC rfl,zC rfl,zD rfl rfl⟩)⟩,trivial⟩⟩;rintro ⟨k,hk,hnk⟩;dsimp only at hk hnk ⊢;have hn32:=hok.n;by_cases hkl : k < s.held.length
   . have w5 : IntKind.i64.wrap ((k : Int) + 1) = ((k + 1 : Nat) : Int):=(IntWalk.i64_in _ (by omega)).trans (by omega);have z0 : 0 + (k : Int).toNat = k:=Nat.zero_add k;obtain ⟨T,eT⟩ : ∃ T,Qo (s.held.getD k default).tm = T:=⟨_,rfl⟩;repeat' (first | (simp only [z0]) | (apply And.intro<;>intro hc<;>(first | exact Bool.noConfusion hc | (exfalso;first | exact absurd rfl hc | omega) | (simp only [zg] at hc<;>first | exact absurd rfl hc | (exfalso;first | exact absurd rfl hc | omega) | skip) | skip)) | (refine And.intro ze ?_) | (apply And.intro) | (intro s hs;(have q : T = s:=eT.symm.trans hs.symm;clear hs;subst q)) | (refine Exists.intro _ (And.intro ⟨rfl,rfl,rfl⟩ ?_)))
     . have hpl:=zBB hok.h hkl ‹_›;have hRe : R = (L.set 3 (ZO s k),false,0):=by
        rw [hR];unfold ZZ;rw [if_neg hmin,hpl,if_pos rfl]
       have hhe : ZO s k = ⟨s.id,s.mn,s.held.set k { s.held.getD k default with tm:=T }⟩:=by unfold ZO;rw [eT]
       have hLh : (ZO s k).held.length = s.held.length:=List.length_set;conv=>whnf
       refine zw (s:=ZO s k) (d:=2) hRe hlt rfl (λp h j=>zZ h) rfl rfl (by rw [hLh];rfl) rfl rfl hLh.symm rfl λq hq j hj=>?_;rw [hhe];exact (ZJ hkl (λj hj=>(Elem.flat _ _ _).le)).2 q (by rw [List.length_set,<- hLh];exact hq) j hj
     . conv=>whnf
       exact ⟨⟨k + 1,hkl,λp hp=>by
        by_cases h : p = k
        . subst h;assumption
        . exact hnk p (by omega)⟩,[],by dsimp only;omega,rfl,⟨zA rfl,zG rfl,zA rfl,zH rfl,zE (zD rfl rfl),zA rfl,zH rfl,zA rfl,zA w5,trivial⟩,⟨⟨rfl,zI λj hj=>(Zr.sh _ j hj).le⟩,⟨rfl,⟨rfl,rfl,rfl,rfl,λp hp j hj=>Zg hj rfl⟩⟩,⟨rfl,zB⟩,⟨rfl,zI (qm ⟨zC rfl,zC rfl,zD rfl rfl⟩)⟩,trivial⟩⟩
   . repeat' (first | (apply And.intro<;>intro hc<;>(first | exact Bool.noConfusion hc | (exfalso;first | exact absurd rfl hc | omega) | (simp only [zg] at hc<;>first | exact absurd rfl hc | (exfalso;first | exact absurd rfl hc | omega) | skip) | skip)) | (refine And.intro ze ?_) | (apply And.intro) | (intro s hs;skip) | (refine Exists.intro _ (And.intro ⟨rfl,rfl,rfl⟩ ?_)))
     conv=>whnf
     exact ⟨⟨(),zBC λp hp=>hnk p (by omega)⟩,[],rfl,⟨zA rfl,zG rfl,zA rfl,zH rfl,zE (zD rfl rfl),zA rfl,zH rfl,trivial⟩,⟨⟨rfl,zI λj hj=>(Zr.sh _ j hj).le⟩,⟨rfl,⟨rfl,rfl,rfl,rfl,λp hp j hj=>Zg hj rfl⟩⟩,⟨rfl,zB⟩,⟨rfl,zI (qm ⟨zC rfl,zC rfl,zD rfl rfl⟩)⟩,trivial⟩⟩
 . rintro ⟨_,hno⟩;have hs1 : ql s (c.num - 31) = za s (c.num - 31):=qw hok;obtain ⟨s1,es1⟩ : ∃ s1,za s (c.num - 31) = s1:=⟨_,rfl⟩;rw [es1] at hs1;have hok1 : SdOk s1:=by rw [<- es1];exact Qu hok (by omega)
   have hk:=hok.k;have hmn:=hok.mn;have w31 : IntKind.i64.wrap (s.mn + 31) = s.mn + 31:=IntWalk.i64_in _ (by omega);have w32 : IntKind.i64.wrap (c.num - 31) = c.num - 31:=IntWalk.i64_in _ (by omega);unfold SLr;change Sem _ _ _ _ _ _ _ _;refine Zf (wd:=1) (by decide) zM (zb zt) (zT zt) zN (SBr L 3 s1 now c deaf draw) (by intro _;rfl) ?_ ?_
   . repeat' (first | (simp only [w31,w32]) | (apply And.intro<;>intro hc<;>(first | exact Bool.noConfusion hc | (exfalso;first | exact absurd rfl hc | omega) | (simp only [zg] at hc<;>first | exact absurd rfl hc | (exfalso;first | exact absurd rfl hc | omega) | skip) | skip)) | (refine And.intro ze ?_) | (apply And.intro) | (intro s hs;(have q:=qp hs (YB rfl rfl (zL zR _)) hs1;clear hs;subst q)) | (refine Exists.intro _ (And.intro ⟨rfl,rfl,rfl⟩ ?_)))
     . exact ⟨rfl,rfl,λ_ _=>⟨rfl,zl _⟩⟩
     . exact Eq.mpr (congrArg KpI (zL zR _)) hk
     . conv=>whnf
       exact ⟨(),[(2,some 14)],rfl,⟨zA rfl,zG rfl,zA rfl,zH rfl,zE (zD rfl rfl),zA rfl,zH rfl,trivial⟩,⟨⟨rfl,zI λj hj=>(Zr.sh _ j hj).le⟩,⟨rfl,⟨rfl,rfl,rfl,rfl,λp hp j hj=>qn hj λh=>zZ h⟩⟩,⟨rfl,zB⟩,⟨rfl,zI (qm ⟨zC rfl,zC rfl,zD rfl rfl⟩)⟩,trivial⟩⟩
     . have e1 : s1 = s:=by rw [<- es1];exact if_pos (by omega)
       conv=>whnf
       exact ⟨(),[],rfl,⟨zA rfl,zG rfl,zA rfl,zH rfl,zE (zD rfl rfl),zA rfl,zH rfl,trivial⟩,⟨⟨rfl,zI λj hj=>(Zr.sh _ j hj).le⟩,⟨rfl,⟨rfl,rfl,rfl,rfl,λp hp j hj=>qn hj λh=>zZ h⟩⟩,⟨rfl,zF (by rw [e1])⟩,⟨rfl,zI (qm ⟨zC (by rw [e1]),zC (by rw [e1]),zD rfl (by rw [e1])⟩)⟩,trivial⟩⟩
   . intro _;exact ht s1 es1 hok1 hmin hno (by rw [<- es1];unfold za;split;exact hno;exact Qc hok.h hno)
theorem racc_4 (L : List Sed) (now : Int) (c : Cas) (deaf : Bool) (draw : Int) (hI : AcR L 4 now c draw) (R : List Sed × Bool × Int) (hR : R = (L.set 4 (ZZ (L.getD 4 default) now c deaf draw).1,(ZZ (L.getD 4 default) now c deaf draw).2,0))
 (ht : ∀ s1,za (L.getD 4 default) (c.num - 31) = s1 -> SdOk s1 -> ¬ c.num < (L.getD 4 default).mn -> (ZN c.num (L.getD 4 default).held 0).2 = false -> (ZN c.num s1.held 0).2 = false -> Sem Try.prog Try.f39.ntmps 0 (ZK 11 (Try.f39.body.getD Code.ret)) (SBr L 4 s1 now c deaf draw ()).fr (SBr L 4 s1 now c deaf draw ()).H (SBr L 4 s1 now c deaf draw ()).nx (qN T Try.f39.results.toList λx H _=>FinN (some R.1.length) (qE R) (ZL ZF 78 R.1) x H)) :
 Sem Try.prog Try.f39.ntmps 0 (ZK 6 (Try.f39.body.getD Code.ret)) (SAr L 4 now c deaf draw ()).fr (SAr L 4 now c deaf draw ()).H (SAr L 4 now c deaf draw ()).nx (qN T Try.f39.results.toList λx H _=>FinN (some R.1.length) (qE R) (ZL ZF 78 R.1) x H):=by
 obtain ⟨hlt,hn9,hok,hnum,hd,hnow,hdr,hf⟩:=hI;obtain ⟨s,es⟩ : ∃ s,L.getD 4 default = s:=⟨_,rfl⟩;rw [es] at hok hR ht;have hset : L.set 4 s = L:=by rw [<- es];exact YL hlt
 unfold SAr;rw [es];refine zK (wd:=1) (by decide) zM (zb zt) zN ?_;repeat' (first | (apply And.intro<;>intro hc<;>(first | exact Bool.noConfusion hc | (exfalso;first | exact absurd rfl hc | omega) | (simp only [zg] at hc<;>first | exact absurd rfl hc | (exfalso;first | exact absurd rfl hc | omega) | skip) | skip)) | (refine And.intro ze ?_) | (apply And.intro) | (intro s hs;(have q:=YU hs (Yi es.symm rfl) hf;clear hs;subst q)) | (refine Exists.intro _ (And.intro ⟨rfl,rfl,rfl⟩ ?_)))
 . exact Yj
 . show (Yt neI L.length λk j=>QQ 2 s 4 L (0 + k) j).length <= 9223372036854775807;rw [QG];omega
 refine zK (wd:=1) (by decide) zM (zb zt) zN ?_;repeat' (first | (apply And.intro<;>intro hc<;>(first | exact Bool.noConfusion hc | (exfalso;first | exact absurd rfl hc | omega) | (simp only [zg] at hc<;>first | exact absurd rfl hc | (exfalso;first | exact absurd rfl hc | omega) | skip) | skip)) | (refine And.intro ze ?_) | (apply And.intro) | (intro s hs;skip) | (refine Exists.intro _ (And.intro ⟨rfl,rfl,rfl⟩ ?_)))
 refine zK (wd:=1) (by decide) zM (zb zt) zN ?_;repeat' (first | (apply And.intro<;>intro hc<;>(first | exact Bool.noConfusion hc | (exfalso;first | exact absurd rfl hc | omega) | (simp only [zg] at hc<;>first | exact absurd rfl hc | (exfalso;first | exact absurd rfl hc | omega) | skip) | skip)) | (refine And.intro ze ?_) | (apply And.intro) | (intro s hs;skip) | (refine Exists.intro _ (And.intro ⟨rfl,rfl,rfl⟩ ?_)))
 . have hRe : R = (L,false,0):=by
    rw [hR];unfold ZZ;rw [if_pos ‹_›,hset]
   refine zw (s:=s) (d:=2) (hRe.trans (by rw [hset])) hlt rfl (λp h j=>zZ h) rfl rfl rfl rfl rfl rfl rfl λq hq j hj=>(zn.sh _ j hj).le
 have hmin : ¬ c.num < s.mn:=by assumption
 change Sem _ _ _ _ _ _ _ _;refine Zf (wd:=1) (by decide) zM (zb zt) (zT zt) zN (λ_ : {u : Unit // (ZN c.num s.held 0).2 = false}=>SLr L 4 s now c deaf draw) (by intro _;rfl) ?_ ?_
 . repeat' (first | (apply And.intro<;>intro hc<;>(first | exact Bool.noConfusion hc | (exfalso;first | exact absurd rfl hc | omega) | (simp only [zg] at hc<;>first | exact absurd rfl hc | (exfalso;first | exact absurd rfl hc | omega) | skip) | skip)) | (refine And.intro ze ?_) | (apply And.intro) | (intro s hs;skip) | (refine Exists.intro _ (And.intro ⟨rfl,rfl,rfl⟩ ?_)))
   conv=>whnf
   refine zQ (zT zt) (λu : {k : Nat // k <= s.held.length /\ ∀ p,p < k -> (s.held.getD p default).num ≠ c.num}=>(⟨[(1,zO (.int .i64 now)),(3,zO (.bool deaf)),(4,zO (.int .u32 draw)),(7,zO (.ptr 0 0 0 false)),(13,zO (.os 1 0 L.length)),(18,zO (.int .i64 ((4 : Nat) : Int))),(19,zO (.ptr 3 0 0 false)),(127,zO (.int .i64 (s.held.length : Int))),(128,zO (.int .i64 (u.1 : Int)))],[(0,some ⟨32,1,3,true,λ_=>Zr.cell c⟩),(1,some ⟨78,L.length,3,false,QQ 2 s 4 L⟩),(2,some (ZL zn 85 s.held)),(3,some ⟨78,1,3,true,λ_=>sdO 2 s⟩)],4⟩ : Hd)) (λu=>s.held.length - u.1) (λ_=>rfl) ?_ ⟨0,Nat.zero_le _,λp hp=>absurd hp (Nat.not_lt_zero p)⟩ [(3,some 12)] ⟨rfl,⟨zA rfl,zG rfl,zA rfl,zH rfl,zE (zD rfl rfl),zA rfl,zH rfl,zA rfl,zA rfl,trivial⟩,⟨⟨rfl,zI λj hj=>(Zr.sh _ j hj).le⟩,⟨rfl,⟨rfl,rfl,rfl,rfl,λp hp j hj=>Zg hj rfl⟩⟩,⟨rfl,zB⟩,⟨rfl,zI (qm ⟨zC rfl,zC rfl,zD rfl rfl⟩)⟩,trivial⟩⟩;rintro ⟨k,hk,hnk⟩;dsimp only at hk hnk ⊢;have hn32:=hok.n;by_cases hkl : k < s.held.length
   . have w5 : IntKind.i64.wrap ((k : Int) + 1) = ((k + 1 : Nat) : Int):=(IntWalk.i64_in _ (by omega)).trans (by omega);have z0 : 0 + (k : Int).toNat = k:=Nat.zero_add k;obtain ⟨T,eT⟩ : ∃ T,Qo (s.held.getD k default).tm = T:=⟨_,rfl⟩;repeat' (first | (simp only [z0]) | (apply And.intro<;>intro hc<;>(first | exact Bool.noConfusion hc | (exfalso;first | exact absurd rfl hc | omega) | (simp only [zg] at hc<;>first | exact absurd rfl hc | (exfalso;first | exact absurd rfl hc | omega) | skip) | skip)) | (refine And.intro ze ?_) | (apply And.intro) | (intro s hs;(have q : T = s:=eT.symm.trans hs.symm;clear hs;subst q)) | (refine Exists.intro _ (And.intro ⟨rfl,rfl,rfl⟩ ?_)))
     . have hpl:=zBB hok.h hkl ‹_›;have hRe : R = (L.set 4 (ZO s k),false,0):=by
        rw [hR];unfold ZZ;rw [if_neg hmin,hpl,if_pos rfl]
       have hhe : ZO s k = ⟨s.id,s.mn,s.held.set k { s.held.getD k default with tm:=T }⟩:=by unfold ZO;rw [eT]
       have hLh : (ZO s k).held.length = s.held.length:=List.length_set;conv=>whnf
       refine zw (s:=ZO s k) (d:=2) hRe hlt rfl (λp h j=>zZ h) rfl rfl (by rw [hLh];rfl) rfl rfl hLh.symm rfl λq hq j hj=>?_;rw [hhe];exact (ZJ hkl (λj hj=>(Elem.flat _ _ _).le)).2 q (by rw [List.length_set,<- hLh];exact hq) j hj
     . conv=>whnf
       exact ⟨⟨k + 1,hkl,λp hp=>by
        by_cases h : p = k
        . subst h;assumption
        . exact hnk p (by omega)⟩,[],by dsimp only;omega,rfl,⟨zA rfl,zG rfl,zA rfl,zH rfl,zE (zD rfl rfl),zA rfl,zH rfl,zA rfl,zA w5,trivial⟩,⟨⟨rfl,zI λj hj=>(Zr.sh _ j hj).le⟩,⟨rfl,⟨rfl,rfl,rfl,rfl,λp hp j hj=>Zg hj rfl⟩⟩,⟨rfl,zB⟩,⟨rfl,zI (qm ⟨zC rfl,zC rfl,zD rfl rfl⟩)⟩,trivial⟩⟩
   . repeat' (first | (apply And.intro<;>intro hc<;>(first | exact Bool.noConfusion hc | (exfalso;first | exact absurd rfl hc | omega) | (simp only [zg] at hc<;>first | exact absurd rfl hc | (exfalso;first | exact absurd rfl hc | omega) | skip) | skip)) | (refine And.intro ze ?_) | (apply And.intro) | (intro s hs;skip) | (refine Exists.intro _ (And.intro ⟨rfl,rfl,rfl⟩ ?_)))
     conv=>whnf
     exact ⟨⟨(),zBC λp hp=>hnk p (by omega)⟩,[],rfl,⟨zA rfl,zG rfl,zA rfl,zH rfl,zE (zD rfl rfl),zA rfl,zH rfl,trivial⟩,⟨⟨rfl,zI λj hj=>(Zr.sh _ j hj).le⟩,⟨rfl,⟨rfl,rfl,rfl,rfl,λp hp j hj=>Zg hj rfl⟩⟩,⟨rfl,zB⟩,⟨rfl,zI (qm ⟨zC rfl,zC rfl,zD rfl rfl⟩)⟩,trivial⟩⟩
 . rintro ⟨_,hno⟩;have hs1 : ql s (c.num - 31) = za s (c.num - 31):=qw hok;obtain ⟨s1,es1⟩ : ∃ s1,za s (c.num - 31) = s1:=⟨_,rfl⟩;rw [es1] at hs1;have hok1 : SdOk s1:=by rw [<- es1];exact Qu hok (by omega)
   have hk:=hok.k;have hmn:=hok.mn;have w31 : IntKind.i64.wrap (s.mn + 31) = s.mn + 31:=IntWalk.i64_in _ (by omega);have w32 : IntKind.i64.wrap (c.num - 31) = c.num - 31:=IntWalk.i64_in _ (by omega);unfold SLr;change Sem _ _ _ _ _ _ _ _;refine Zf (wd:=1) (by decide) zM (zb zt) (zT zt) zN (SBr L 4 s1 now c deaf draw) (by intro _;rfl) ?_ ?_
   . repeat' (first | (simp only [w31,w32]) | (apply And.intro<;>intro hc<;>(first | exact Bool.noConfusion hc | (exfalso;first | exact absurd rfl hc | omega) | (simp only [zg] at hc<;>first | exact absurd rfl hc | (exfalso;first | exact absurd rfl hc | omega) | skip) | skip)) | (refine And.intro ze ?_) | (apply And.intro) | (intro s hs;(have q:=qp hs (YB rfl rfl (zL zR _)) hs1;clear hs;subst q)) | (refine Exists.intro _ (And.intro ⟨rfl,rfl,rfl⟩ ?_)))
     . exact ⟨rfl,rfl,λ_ _=>⟨rfl,zl _⟩⟩
     . exact Eq.mpr (congrArg KpI (zL zR _)) hk
     . conv=>whnf
       exact ⟨(),[(2,some 14)],rfl,⟨zA rfl,zG rfl,zA rfl,zH rfl,zE (zD rfl rfl),zA rfl,zH rfl,trivial⟩,⟨⟨rfl,zI λj hj=>(Zr.sh _ j hj).le⟩,⟨rfl,⟨rfl,rfl,rfl,rfl,λp hp j hj=>qn hj λh=>zZ h⟩⟩,⟨rfl,zB⟩,⟨rfl,zI (qm ⟨zC rfl,zC rfl,zD rfl rfl⟩)⟩,trivial⟩⟩
     . have e1 : s1 = s:=by rw [<- es1];exact if_pos (by omega)
       conv=>whnf
       exact ⟨(),[],rfl,⟨zA rfl,zG rfl,zA rfl,zH rfl,zE (zD rfl rfl),zA rfl,zH rfl,trivial⟩,⟨⟨rfl,zI λj hj=>(Zr.sh _ j hj).le⟩,⟨rfl,⟨rfl,rfl,rfl,rfl,λp hp j hj=>qn hj λh=>zZ h⟩⟩,⟨rfl,zF (by rw [e1])⟩,⟨rfl,zI (qm ⟨zC (by rw [e1]),zC (by rw [e1]),zD rfl (by rw [e1])⟩)⟩,trivial⟩⟩
   . intro _;exact ht s1 es1 hok1 hmin hno (by rw [<- es1];unfold za;split;exact hno;exact Qc hok.h hno)
theorem racc_5 (L : List Sed) (now : Int) (c : Cas) (deaf : Bool) (draw : Int) (hI : AcR L 5 now c draw) (R : List Sed × Bool × Int) (hR : R = (L.set 5 (ZZ (L.getD 5 default) now c deaf draw).1,(ZZ (L.getD 5 default) now c deaf draw).2,0))
 (ht : ∀ s1,za (L.getD 5 default) (c.num - 31) = s1 -> SdOk s1 -> ¬ c.num < (L.getD 5 default).mn -> (ZN c.num (L.getD 5 default).held 0).2 = false -> (ZN c.num s1.held 0).2 = false -> Sem Try.prog Try.f39.ntmps 0 (ZK 11 (Try.f39.body.getD Code.ret)) (SBr L 5 s1 now c deaf draw ()).fr (SBr L 5 s1 now c deaf draw ()).H (SBr L 5 s1 now c deaf draw ()).nx (qN T Try.f39.results.toList λx H _=>FinN (some R.1.length) (qE R) (ZL ZF 78 R.1) x H)) :
 Sem Try.prog Try.f39.ntmps 0 (ZK 6 (Try.f39.body.getD Code.ret)) (SAr L 5 now c deaf draw ()).fr (SAr L 5 now c deaf draw ()).H (SAr L 5 now c deaf draw ()).nx (qN T Try.f39.results.toList λx H _=>FinN (some R.1.length) (qE R) (ZL ZF 78 R.1) x H):=by
 obtain ⟨hlt,hn9,hok,hnum,hd,hnow,hdr,hf⟩:=hI;obtain ⟨s,es⟩ : ∃ s,L.getD 5 default = s:=⟨_,rfl⟩;rw [es] at hok hR ht;have hset : L.set 5 s = L:=by rw [<- es];exact YL hlt
 unfold SAr;rw [es];refine zK (wd:=1) (by decide) zM (zb zt) zN ?_;repeat' (first | (apply And.intro<;>intro hc<;>(first | exact Bool.noConfusion hc | (exfalso;first | exact absurd rfl hc | omega) | (simp only [zg] at hc<;>first | exact absurd rfl hc | (exfalso;first | exact absurd rfl hc | omega) | skip) | skip)) | (refine And.intro ze ?_) | (apply And.intro) | (intro s hs;(have q:=YU hs (Yi es.symm rfl) hf;clear hs;subst q)) | (refine Exists.intro _ (And.intro ⟨rfl,rfl,rfl⟩ ?_)))
 . exact Yj
 . show (Yt neI L.length λk j=>QQ 2 s 5 L (0 + k) j).length <= 9223372036854775807;rw [QG];omega
 refine zK (wd:=1) (by decide) zM (zb zt) zN ?_;repeat' (first | (apply And.intro<;>intro hc<;>(first | exact Bool.noConfusion hc | (exfalso;first | exact absurd rfl hc | omega) | (simp only [zg] at hc<;>first | exact absurd rfl hc | (exfalso;first | exact absurd rfl hc | omega) | skip) | skip)) | (refine And.intro ze ?_) | (apply And.intro) | (intro s hs;skip) | (refine Exists.intro _ (And.intro ⟨rfl,rfl,rfl⟩ ?_)))
 refine zK (wd:=1) (by decide) zM (zb zt) zN ?_;repeat' (first | (apply And.intro<;>intro hc<;>(first | exact Bool.noConfusion hc | (exfalso;first | exact absurd rfl hc | omega) | (simp only [zg] at hc<;>first | exact absurd rfl hc | (exfalso;first | exact absurd rfl hc | omega) | skip) | skip)) | (refine And.intro ze ?_) | (apply And.intro) | (intro s hs;skip) | (refine Exists.intro _ (And.intro ⟨rfl,rfl,rfl⟩ ?_)))
 . have hRe : R = (L,false,0):=by
    rw [hR];unfold ZZ;rw [if_pos ‹_›,hset]
   refine zw (s:=s) (d:=2) (hRe.trans (by rw [hset])) hlt rfl (λp h j=>zZ h) rfl rfl rfl rfl rfl rfl rfl λq hq j hj=>(zn.sh _ j hj).le
 have hmin : ¬ c.num < s.mn:=by assumption
 change Sem _ _ _ _ _ _ _ _;refine Zf (wd:=1) (by decide) zM (zb zt) (zT zt) zN (λ_ : {u : Unit // (ZN c.num s.held 0).2 = false}=>SLr L 5 s now c deaf draw) (by intro _;rfl) ?_ ?_
 . repeat' (first | (apply And.intro<;>intro hc<;>(first | exact Bool.noConfusion hc | (exfalso;first | exact absurd rfl hc | omega) | (simp only [zg] at hc<;>first | exact absurd rfl hc | (exfalso;first | exact absurd rfl hc | omega) | skip) | skip)) | (refine And.intro ze ?_) | (apply And.intro) | (intro s hs;skip) | (refine Exists.intro _ (And.intro ⟨rfl,rfl,rfl⟩ ?_)))
   conv=>whnf
   refine zQ (zT zt) (λu : {k : Nat // k <= s.held.length /\ ∀ p,p < k -> (s.held.getD p default).num ≠ c.num}=>(⟨[(1,zO (.int .i64 now)),(3,zO (.bool deaf)),(4,zO (.int .u32 draw)),(7,zO (.ptr 0 0 0 false)),(13,zO (.os 1 0 L.length)),(18,zO (.int .i64 ((5 : Nat) : Int))),(19,zO (.ptr 3 0 0 false)),(127,zO (.int .i64 (s.held.length : Int))),(128,zO (.int .i64 (u.1 : Int)))],[(0,some ⟨32,1,3,true,λ_=>Zr.cell c⟩),(1,some ⟨78,L.length,3,false,QQ 2 s 5 L⟩),(2,some (ZL zn 85 s.held)),(3,some ⟨78,1,3,true,λ_=>sdO 2 s⟩)],4⟩ : Hd)) (λu=>s.held.length - u.1) (λ_=>rfl) ?_ ⟨0,Nat.zero_le _,λp hp=>absurd hp (Nat.not_lt_zero p)⟩ [(3,some 12)] ⟨rfl,⟨zA rfl,zG rfl,zA rfl,zH rfl,zE (zD rfl rfl),zA rfl,zH rfl,zA rfl,zA rfl,trivial⟩,⟨⟨rfl,zI λj hj=>(Zr.sh _ j hj).le⟩,⟨rfl,⟨rfl,rfl,rfl,rfl,λp hp j hj=>Zg hj rfl⟩⟩,⟨rfl,zB⟩,⟨rfl,zI (qm ⟨zC rfl,zC rfl,zD rfl rfl⟩)⟩,trivial⟩⟩;rintro ⟨k,hk,hnk⟩;dsimp only at hk hnk ⊢;have hn32:=hok.n;by_cases hkl : k < s.held.length
   . have w5 : IntKind.i64.wrap ((k : Int) + 1) = ((k + 1 : Nat) : Int):=(IntWalk.i64_in _ (by omega)).trans (by omega);have z0 : 0 + (k : Int).toNat = k:=Nat.zero_add k;obtain ⟨T,eT⟩ : ∃ T,Qo (s.held.getD k default).tm = T:=⟨_,rfl⟩;repeat' (first | (simp only [z0]) | (apply And.intro<;>intro hc<;>(first | exact Bool.noConfusion hc | (exfalso;first | exact absurd rfl hc | omega) | (simp only [zg] at hc<;>first | exact absurd rfl hc | (exfalso;first | exact absurd rfl hc | omega) | skip) | skip)) | (refine And.intro ze ?_) | (apply And.intro) | (intro s hs;(have q : T = s:=eT.symm.trans hs.symm;clear hs;subst q)) | (refine Exists.intro _ (And.intro ⟨rfl,rfl,rfl⟩ ?_)))
     . have hpl:=zBB hok.h hkl ‹_›;have hRe : R = (L.set 5 (ZO s k),false,0):=by
        rw [hR];unfold ZZ;rw [if_neg hmin,hpl,if_pos rfl]
       have hhe : ZO s k = ⟨s.id,s.mn,s.held.set k { s.held.getD k default with tm:=T }⟩:=by unfold ZO;rw [eT]
       have hLh : (ZO s k).held.length = s.held.length:=List.length_set;conv=>whnf
       refine zw (s:=ZO s k) (d:=2) hRe hlt rfl (λp h j=>zZ h) rfl rfl (by rw [hLh];rfl) rfl rfl hLh.symm rfl λq hq j hj=>?_;rw [hhe];exact (ZJ hkl (λj hj=>(Elem.flat _ _ _).le)).2 q (by rw [List.length_set,<- hLh];exact hq) j hj
     . conv=>whnf
       exact ⟨⟨k + 1,hkl,λp hp=>by
        by_cases h : p = k
        . subst h;assumption
        . exact hnk p (by omega)⟩,[],by dsimp only;omega,rfl,⟨zA rfl,zG rfl,zA rfl,zH rfl,zE (zD rfl rfl),zA rfl,zH rfl,zA rfl,zA w5,trivial⟩,⟨⟨rfl,zI λj hj=>(Zr.sh _ j hj).le⟩,⟨rfl,⟨rfl,rfl,rfl,rfl,λp hp j hj=>Zg hj rfl⟩⟩,⟨rfl,zB⟩,⟨rfl,zI (qm ⟨zC rfl,zC rfl,zD rfl rfl⟩)⟩,trivial⟩⟩
   . repeat' (first | (apply And.intro<;>intro hc<;>(first | exact Bool.noConfusion hc | (exfalso;first | exact absurd rfl hc | omega) | (simp only [zg] at hc<;>first | exact absurd rfl hc | (exfalso;first | exact absurd rfl hc | omega) | skip) | skip)) | (refine And.intro ze ?_) | (apply And.intro) | (intro s hs;skip) | (refine Exists.intro _ (And.intro ⟨rfl,rfl,rfl⟩ ?_)))
     conv=>whnf
     exact ⟨⟨(),zBC λp hp=>hnk p (by omega)⟩,[],rfl,⟨zA rfl,zG rfl,zA rfl,zH rfl,zE (zD rfl rfl),zA rfl,zH rfl,trivial⟩,⟨⟨rfl,zI λj hj=>(Zr.sh _ j hj).le⟩,⟨rfl,⟨rfl,rfl,rfl,rfl,λp hp j hj=>Zg hj rfl⟩⟩,⟨rfl,zB⟩,⟨rfl,zI (qm ⟨zC rfl,zC rfl,zD rfl rfl⟩)⟩,trivial⟩⟩
 . rintro ⟨_,hno⟩;have hs1 : ql s (c.num - 31) = za s (c.num - 31):=qw hok;obtain ⟨s1,es1⟩ : ∃ s1,za s (c.num - 31) = s1:=⟨_,rfl⟩;rw [es1] at hs1;have hok1 : SdOk s1:=by rw [<- es1];exact Qu hok (by omega)
   have hk:=hok.k;have hmn:=hok.mn;have w31 : IntKind.i64.wrap (s.mn + 31) = s.mn + 31:=IntWalk.i64_in _ (by omega);have w32 : IntKind.i64.wrap (c.num - 31) = c.num - 31:=IntWalk.i64_in _ (by omega);unfold SLr;change Sem _ _ _ _ _ _ _ _;refine Zf (wd:=1) (by decide) zM (zb zt) (zT zt) zN (SBr L 5 s1 now c deaf draw) (by intro _;rfl) ?_ ?_
   . repeat' (first | (simp only [w31,w32]) | (apply And.intro<;>intro hc<;>(first | exact Bool.noConfusion hc | (exfalso;first | exact absurd rfl hc | omega) | (simp only [zg] at hc<;>first | exact absurd rfl hc | (exfalso;first | exact absurd rfl hc | omega) | skip) | skip)) | (refine And.intro ze ?_) | (apply And.intro) | (intro s hs;(have q:=qp hs (YB rfl rfl (zL zR _)) hs1;clear hs;subst q)) | (refine Exists.intro _ (And.intro ⟨rfl,rfl,rfl⟩ ?_)))
     . exact ⟨rfl,rfl,λ_ _=>⟨rfl,zl _⟩⟩
     . exact Eq.mpr (congrArg KpI (zL zR _)) hk
     . conv=>whnf
       exact ⟨(),[(2,some 14)],rfl,⟨zA rfl,zG rfl,zA rfl,zH rfl,zE (zD rfl rfl),zA rfl,zH rfl,trivial⟩,⟨⟨rfl,zI λj hj=>(Zr.sh _ j hj).le⟩,⟨rfl,⟨rfl,rfl,rfl,rfl,λp hp j hj=>qn hj λh=>zZ h⟩⟩,⟨rfl,zB⟩,⟨rfl,zI (qm ⟨zC rfl,zC rfl,zD rfl rfl⟩)⟩,trivial⟩⟩
     . have e1 : s1 = s:=by rw [<- es1];exact if_pos (by omega)
       conv=>whnf
       exact ⟨(),[],rfl,⟨zA rfl,zG rfl,zA rfl,zH rfl,zE (zD rfl rfl),zA rfl,zH rfl,trivial⟩,⟨⟨rfl,zI λj hj=>(Zr.sh _ j hj).le⟩,⟨rfl,⟨rfl,rfl,rfl,rfl,λp hp j hj=>qn hj λh=>zZ h⟩⟩,⟨rfl,zF (by rw [e1])⟩,⟨rfl,zI (qm ⟨zC (by rw [e1]),zC (by rw [e1]),zD rfl (by rw [e1])⟩)⟩,trivial⟩⟩
   . intro _;exact ht s1 es1 hok1 hmin hno (by rw [<- es1];unfold za;split;exact hno;exact Qc hok.h hno)
theorem racc_6 (L : List Sed) (now : Int) (c : Cas) (deaf : Bool) (draw : Int) (hI : AcR L 6 now c draw) (R : List Sed × Bool × Int) (hR : R = (L.set 6 (ZZ (L.getD 6 default) now c deaf draw).1,(ZZ (L.getD 6 default) now c deaf draw).2,0))
 (ht : ∀ s1,za (L.getD 6 default) (c.num - 31) = s1 -> SdOk s1 -> ¬ c.num < (L.getD 6 default).mn -> (ZN c.num (L.getD 6 default).held 0).2 = false -> (ZN c.num s1.held 0).2 = false -> Sem Try.prog Try.f39.ntmps 0 (ZK 11 (Try.f39.body.getD Code.ret)) (SBr L 6 s1 now c deaf draw ()).fr (SBr L 6 s1 now c deaf draw ()).H (SBr L 6 s1 now c deaf draw ()).nx (qN T Try.f39.results.toList λx H _=>FinN (some R.1.length) (qE R) (ZL ZF 78 R.1) x H)) :
 Sem Try.prog Try.f39.ntmps 0 (ZK 6 (Try.f39.body.getD Code.ret)) (SAr L 6 now c deaf draw ()).fr (SAr L 6 now c deaf draw ()).H (SAr L 6 now c deaf draw ()).nx (qN T Try.f39.results.toList λx H _=>FinN (some R.1.length) (qE R) (ZL ZF 78 R.1) x H):=by
 obtain ⟨hlt,hn9,hok,hnum,hd,hnow,hdr,hf⟩:=hI;obtain ⟨s,es⟩ : ∃ s,L.getD 6 default = s:=⟨_,rfl⟩;rw [es] at hok hR ht;have hset : L.set 6 s = L:=by rw [<- es];exact YL hlt
 unfold SAr;rw [es];refine zK (wd:=1) (by decide) zM (zb zt) zN ?_;repeat' (first | (apply And.intro<;>intro hc<;>(first | exact Bool.noConfusion hc | (exfalso;first | exact absurd rfl hc | omega) | (simp only [zg] at hc<;>first | exact absurd rfl hc | (exfalso;first | exact absurd rfl hc | omega) | skip) | skip)) | (refine And.intro ze ?_) | (apply And.intro) | (intro s hs;(have q:=YU hs (Yi es.symm rfl) hf;clear hs;subst q)) | (refine Exists.intro _ (And.intro ⟨rfl,rfl,rfl⟩ ?_)))
 . exact Yj
 . show (Yt neI L.length λk j=>QQ 2 s 6 L (0 + k) j).length <= 9223372036854775807;rw [QG];omega
 refine zK (wd:=1) (by decide) zM (zb zt) zN ?_;repeat' (first | (apply And.intro<;>intro hc<;>(first | exact Bool.noConfusion hc | (exfalso;first | exact absurd rfl hc | omega) | (simp only [zg] at hc<;>first | exact absurd rfl hc | (exfalso;first | exact absurd rfl hc | omega) | skip) | skip)) | (refine And.intro ze ?_) | (apply And.intro) | (intro s hs;skip) | (refine Exists.intro _ (And.intro ⟨rfl,rfl,rfl⟩ ?_)))
 refine zK (wd:=1) (by decide) zM (zb zt) zN ?_;repeat' (first | (apply And.intro<;>intro hc<;>(first | exact Bool.noConfusion hc | (exfalso;first | exact absurd rfl hc | omega) | (simp only [zg] at hc<;>first | exact absurd rfl hc | (exfalso;first | exact absurd rfl hc | omega) | skip) | skip)) | (refine And.intro ze ?_) | (apply And.intro) | (intro s hs;skip) | (refine Exists.intro _ (And.intro ⟨rfl,rfl,rfl⟩ ?_)))
 . have hRe : R = (L,false,0):=by
    rw [hR];unfold ZZ;rw [if_pos ‹_›,hset]
   refine zw (s:=s) (d:=2) (hRe.trans (by rw [hset])) hlt rfl (λp h j=>zZ h) rfl rfl rfl rfl rfl rfl rfl λq hq j hj=>(zn.sh _ j hj).le
 have hmin : ¬ c.num < s.mn:=by assumption
 change Sem _ _ _ _ _ _ _ _;refine Zf (wd:=1) (by decide) zM (zb zt) (zT zt) zN (λ_ : {u : Unit // (ZN c.num s.held 0).2 = false}=>SLr L 6 s now c deaf draw) (by intro _;rfl) ?_ ?_
 . repeat' (first | (apply And.intro<;>intro hc<;>(first | exact Bool.noConfusion hc | (exfalso;first | exact absurd rfl hc | omega) | (simp only [zg] at hc<;>first | exact absurd rfl hc | (exfalso;first | exact absurd rfl hc | omega) | skip) | skip)) | (refine And.intro ze ?_) | (apply And.intro) | (intro s hs;skip) | (refine Exists.intro _ (And.intro ⟨rfl,rfl,rfl⟩ ?_)))
   conv=>whnf
   refine zQ (zT zt) (λu : {k : Nat // k <= s.held.length /\ ∀ p,p < k -> (s.held.getD p default).num ≠ c.num}=>(⟨[(1,zO (.int .i64 now)),(3,zO (.bool deaf)),(4,zO (.int .u32 draw)),(7,zO (.ptr 0 0 0 false)),(13,zO (.os 1 0 L.length)),(18,zO (.int .i64 ((6 : Nat) : Int))),(19,zO (.ptr 3 0 0 false)),(127,zO (.int .i64 (s.held.length : Int))),(128,zO (.int .i64 (u.1 : Int)))],[(0,some ⟨32,1,3,true,λ_=>Zr.cell c⟩),(1,some ⟨78,L.length,3,false,QQ 2 s 6 L⟩),(2,some (ZL zn 85 s.held)),(3,some ⟨78,1,3,true,λ_=>sdO 2 s⟩)],4⟩ : Hd)) (λu=>s.held.length - u.1) (λ_=>rfl) ?_ ⟨0,Nat.zero_le _,λp hp=>absurd hp (Nat.not_lt_zero p)⟩ [(3,some 12)] ⟨rfl,⟨zA rfl,zG rfl,zA rfl,zH rfl,zE (zD rfl rfl),zA rfl,zH rfl,zA rfl,zA rfl,trivial⟩,⟨⟨rfl,zI λj hj=>(Zr.sh _ j hj).le⟩,⟨rfl,⟨rfl,rfl,rfl,rfl,λp hp j hj=>Zg hj rfl⟩⟩,⟨rfl,zB⟩,⟨rfl,zI (qm ⟨zC rfl,zC rfl,zD rfl rfl⟩)⟩,trivial⟩⟩;rintro ⟨k,hk,hnk⟩;dsimp only at hk hnk ⊢;have hn32:=hok.n;by_cases hkl : k < s.held.length
   . have w5 : IntKind.i64.wrap ((k : Int) + 1) = ((k + 1 : Nat) : Int):=(IntWalk.i64_in _ (by omega)).trans (by omega);have z0 : 0 + (k : Int).toNat = k:=Nat.zero_add k;obtain ⟨T,eT⟩ : ∃ T,Qo (s.held.getD k default).tm = T:=⟨_,rfl⟩;repeat' (first | (simp only [z0]) | (apply And.intro<;>intro hc<;>(first | exact Bool.noConfusion hc | (exfalso;first | exact absurd rfl hc | omega) | (simp only [zg] at hc<;>first | exact absurd rfl hc | (exfalso;first | exact absurd rfl hc | omega) | skip) | skip)) | (refine And.intro ze ?_) | (apply And.intro) | (intro s hs;(have q : T = s:=eT.symm.trans hs.symm;clear hs;subst q)) | (refine Exists.intro _ (And.intro ⟨rfl,rfl,rfl⟩ ?_)))
     . have hpl:=zBB hok.h hkl ‹_›;have hRe : R = (L.set 6 (ZO s k),false,0):=by
        rw [hR];unfold ZZ;rw [if_neg hmin,hpl,if_pos rfl]
       have hhe : ZO s k = ⟨s.id,s.mn,s.held.set k { s.held.getD k default with tm:=T }⟩:=by unfold ZO;rw [eT]
       have hLh : (ZO s k).held.length = s.held.length:=List.length_set;conv=>whnf
       refine zw (s:=ZO s k) (d:=2) hRe hlt rfl (λp h j=>zZ h) rfl rfl (by rw [hLh];rfl) rfl rfl hLh.symm rfl λq hq j hj=>?_;rw [hhe];exact (ZJ hkl (λj hj=>(Elem.flat _ _ _).le)).2 q (by rw [List.length_set,<- hLh];exact hq) j hj
     . conv=>whnf
       exact ⟨⟨k + 1,hkl,λp hp=>by
        by_cases h : p = k
        . subst h;assumption
        . exact hnk p (by omega)⟩,[],by dsimp only;omega,rfl,⟨zA rfl,zG rfl,zA rfl,zH rfl,zE (zD rfl rfl),zA rfl,zH rfl,zA rfl,zA w5,trivial⟩,⟨⟨rfl,zI λj hj=>(Zr.sh _ j hj).le⟩,⟨rfl,⟨rfl,rfl,rfl,rfl,λp hp j hj=>Zg hj rfl⟩⟩,⟨rfl,zB⟩,⟨rfl,zI (qm ⟨zC rfl,zC rfl,zD rfl rfl⟩)⟩,trivial⟩⟩
   . repeat' (first | (apply And.intro<;>intro hc<;>(first | exact Bool.noConfusion hc | (exfalso;first | exact absurd rfl hc | omega) | (simp only [zg] at hc<;>first | exact absurd rfl hc | (exfalso;first | exact absurd rfl hc | omega) | skip) | skip)) | (refine And.intro ze ?_) | (apply And.intro) | (intro s hs;skip) | (refine Exists.intro _ (And.intro ⟨rfl,rfl,rfl⟩ ?_)))
     conv=>whnf
     exact ⟨⟨(),zBC λp hp=>hnk p (by omega)⟩,[],rfl,⟨zA rfl,zG rfl,zA rfl,zH rfl,zE (zD rfl rfl),zA rfl,zH rfl,trivial⟩,⟨⟨rfl,zI λj hj=>(Zr.sh _ j hj).le⟩,⟨rfl,⟨rfl,rfl,rfl,rfl,λp hp j hj=>Zg hj rfl⟩⟩,⟨rfl,zB⟩,⟨rfl,zI (qm ⟨zC rfl,zC rfl,zD rfl rfl⟩)⟩,trivial⟩⟩
 . rintro ⟨_,hno⟩;have hs1 : ql s (c.num - 31) = za s (c.num - 31):=qw hok;obtain ⟨s1,es1⟩ : ∃ s1,za s (c.num - 31) = s1:=⟨_,rfl⟩;rw [es1] at hs1;have hok1 : SdOk s1:=by rw [<- es1];exact Qu hok (by omega)
   have hk:=hok.k;have hmn:=hok.mn;have w31 : IntKind.i64.wrap (s.mn + 31) = s.mn + 31:=IntWalk.i64_in _ (by omega);have w32 : IntKind.i64.wrap (c.num - 31) = c.num - 31:=IntWalk.i64_in _ (by omega);unfold SLr;change Sem _ _ _ _ _ _ _ _;refine Zf (wd:=1) (by decide) zM (zb zt) (zT zt) zN (SBr L 6 s1 now c deaf draw) (by intro _;rfl) ?_ ?_
   . repeat' (first | (simp only [w31,w32]) | (apply And.intro<;>intro hc<;>(first | exact Bool.noConfusion hc | (exfalso;first | exact absurd rfl hc | omega) | (simp only [zg] at hc<;>first | exact absurd rfl hc | (exfalso;first | exact absurd rfl hc | omega) | skip) | skip)) | (refine And.intro ze ?_) | (apply And.intro) | (intro s hs;(have q:=qp hs (YB rfl rfl (zL zR _)) hs1;clear hs;subst q)) | (refine Exists.intro _ (And.intro ⟨rfl,rfl,rfl⟩ ?_)))
     . exact ⟨rfl,rfl,λ_ _=>⟨rfl,zl _⟩⟩
     . exact Eq.mpr (congrArg KpI (zL zR _)) hk
     . conv=>whnf
       exact ⟨(),[(2,some 14)],rfl,⟨zA rfl,zG rfl,zA rfl,zH rfl,zE (zD rfl rfl),zA rfl,zH rfl,trivial⟩,⟨⟨rfl,zI λj hj=>(Zr.sh _ j hj).le⟩,⟨rfl,⟨rfl,rfl,rfl,rfl,λp hp j hj=>qn hj λh=>zZ h⟩⟩,⟨rfl,zB⟩,⟨rfl,zI (qm ⟨zC rfl,zC rfl,zD rfl rfl⟩)⟩,trivial⟩⟩
     . have e1 : s1 = s:=by rw [<- es1];exact if_pos (by omega)
       conv=>whnf
       exact ⟨(),[],rfl,⟨zA rfl,zG rfl,zA rfl,zH rfl,zE (zD rfl rfl),zA rfl,zH rfl,trivial⟩,⟨⟨rfl,zI λj hj=>(Zr.sh _ j hj).le⟩,⟨rfl,⟨rfl,rfl,rfl,rfl,λp hp j hj=>qn hj λh=>zZ h⟩⟩,⟨rfl,zF (by rw [e1])⟩,⟨rfl,zI (qm ⟨zC (by rw [e1]),zC (by rw [e1]),zD rfl (by rw [e1])⟩)⟩,trivial⟩⟩
   . intro _;exact ht s1 es1 hok1 hmin hno (by rw [<- es1];unfold za;split;exact hno;exact Qc hok.h hno)
theorem racc_7 (L : List Sed) (now : Int) (c : Cas) (deaf : Bool) (draw : Int) (hI : AcR L 7 now c draw) (R : List Sed × Bool × Int) (hR : R = (L.set 7 (ZZ (L.getD 7 default) now c deaf draw).1,(ZZ (L.getD 7 default) now c deaf draw).2,0))
 (ht : ∀ s1,za (L.getD 7 default) (c.num - 31) = s1 -> SdOk s1 -> ¬ c.num < (L.getD 7 default).mn -> (ZN c.num (L.getD 7 default).held 0).2 = false -> (ZN c.num s1.held 0).2 = false -> Sem Try.prog Try.f39.ntmps 0 (ZK 11 (Try.f39.body.getD Code.ret)) (SBr L 7 s1 now c deaf draw ()).fr (SBr L 7 s1 now c deaf draw ()).H (SBr L 7 s1 now c deaf draw ()).nx (qN T Try.f39.results.toList λx H _=>FinN (some R.1.length) (qE R) (ZL ZF 78 R.1) x H)) :
 Sem Try.prog Try.f39.ntmps 0 (ZK 6 (Try.f39.body.getD Code.ret)) (SAr L 7 now c deaf draw ()).fr (SAr L 7 now c deaf draw ()).H (SAr L 7 now c deaf draw ()).nx (qN T Try.f39.results.toList λx H _=>FinN (some R.1.length) (qE R) (ZL ZF 78 R.1) x H):=by
 obtain ⟨hlt,hn9,hok,hnum,hd,hnow,hdr,hf⟩:=hI;obtain ⟨s,es⟩ : ∃ s,L.getD 7 default = s:=⟨_,rfl⟩;rw [es] at hok hR ht;have hset : L.set 7 s = L:=by rw [<- es];exact YL hlt
 unfold SAr;rw [es];refine zK (wd:=1) (by decide) zM (zb zt) zN ?_;repeat' (first | (apply And.intro<;>intro hc<;>(first | exact Bool.noConfusion hc | (exfalso;first | exact absurd rfl hc | omega) | (simp only [zg] at hc<;>first | exact absurd rfl hc | (exfalso;first | exact absurd rfl hc | omega) | skip) | skip)) | (refine And.intro ze ?_) | (apply And.intro) | (intro s hs;(have q:=YU hs (Yi es.symm rfl) hf;clear hs;subst q)) | (refine Exists.intro _ (And.intro ⟨rfl,rfl,rfl⟩ ?_)))
 . exact Yj
 . show (Yt neI L.length λk j=>QQ 2 s 7 L (0 + k) j).length <= 9223372036854775807;rw [QG];omega
 refine zK (wd:=1) (by decide) zM (zb zt) zN ?_;repeat' (first | (apply And.intro<;>intro hc<;>(first | exact Bool.noConfusion hc | (exfalso;first | exact absurd rfl hc | omega) | (simp only [zg] at hc<;>first | exact absurd rfl hc | (exfalso;first | exact absurd rfl hc | omega) | skip) | skip)) | (refine And.intro ze ?_) | (apply And.intro) | (intro s hs;skip) | (refine Exists.intro _ (And.intro ⟨rfl,rfl,rfl⟩ ?_)))
 refine zK (wd:=1) (by decide) zM (zb zt) zN ?_;repeat' (first | (apply And.intro<;>intro hc<;>(first | exact Bool.noConfusion hc | (exfalso;first | exact absurd rfl hc | omega) | (simp only [zg] at hc<;>first | exact absurd rfl hc | (exfalso;first | exact absurd rfl hc | omega) | skip) | skip)) | (refine And.intro ze ?_) | (apply And.intro) | (intro s hs;skip) | (refine Exists.intro _ (And.intro ⟨rfl,rfl,rfl⟩ ?_)))
 . have hRe : R = (L,false,0):=by
    rw [hR];unfold ZZ;rw [if_pos ‹_›,hset]
   refine zw (s:=s) (d:=2) (hRe.trans (by rw [hset])) hlt rfl (λp h j=>zZ h) rfl rfl rfl rfl rfl rfl rfl λq hq j hj=>(zn.sh _ j hj).le
 have hmin : ¬ c.num < s.mn:=by assumption
 change Sem _ _ _ _ _ _ _ _;refine Zf (wd:=1) (by decide) zM (zb zt) (zT zt) zN (λ_ : {u : Unit // (ZN c.num s.held 0).2 = false}=>SLr L 7 s now c deaf draw) (by intro _;rfl) ?_ ?_
 . repeat' (first | (apply And.intro<;>intro hc<;>(first | exact Bool.noConfusion hc | (exfalso;first | exact absurd rfl hc | omega) | (simp only [zg] at hc<;>first | exact absurd rfl hc | (exfalso;first | exact absurd rfl hc | omega) | skip) | skip)) | (refine And.intro ze ?_) | (apply And.intro) | (intro s hs;skip) | (refine Exists.intro _ (And.intro ⟨rfl,rfl,rfl⟩ ?_)))
   conv=>whnf
   refine zQ (zT zt) (λu : {k : Nat // k <= s.held.length /\ ∀ p,p < k -> (s.held.getD p default).num ≠ c.num}=>(⟨[(1,zO (.int .i64 now)),(3,zO (.bool deaf)),(4,zO (.int .u32 draw)),(7,zO (.ptr 0 0 0 false)),(13,zO (.os 1 0 L.length)),(18,zO (.int .i64 ((7 : Nat) : Int))),(19,zO (.ptr 3 0 0 false)),(127,zO (.int .i64 (s.held.length : Int))),(128,zO (.int .i64 (u.1 : Int)))],[(0,some ⟨32,1,3,true,λ_=>Zr.cell c⟩),(1,some ⟨78,L.length,3,false,QQ 2 s 7 L⟩),(2,some (ZL zn 85 s.held)),(3,some ⟨78,1,3,true,λ_=>sdO 2 s⟩)],4⟩ : Hd)) (λu=>s.held.length - u.1) (λ_=>rfl) ?_ ⟨0,Nat.zero_le _,λp hp=>absurd hp (Nat.not_lt_zero p)⟩ [(3,some 12)] ⟨rfl,⟨zA rfl,zG rfl,zA rfl,zH rfl,zE (zD rfl rfl),zA rfl,zH rfl,zA rfl,zA rfl,trivial⟩,⟨⟨rfl,zI λj hj=>(Zr.sh _ j hj).le⟩,⟨rfl,⟨rfl,rfl,rfl,rfl,λp hp j hj=>Zg hj rfl⟩⟩,⟨rfl,zB⟩,⟨rfl,zI (qm ⟨zC rfl,zC rfl,zD rfl rfl⟩)⟩,trivial⟩⟩;rintro ⟨k,hk,hnk⟩;dsimp only at hk hnk ⊢;have hn32:=hok.n;by_cases hkl : k < s.held.length
   . have w5 : IntKind.i64.wrap ((k : Int) + 1) = ((k + 1 : Nat) : Int):=(IntWalk.i64_in _ (by omega)).trans (by omega);have z0 : 0 + (k : Int).toNat = k:=Nat.zero_add k;obtain ⟨T,eT⟩ : ∃ T,Qo (s.held.getD k default).tm = T:=⟨_,rfl⟩;repeat' (first | (simp only [z0]) | (apply And.intro<;>intro hc<;>(first | exact Bool.noConfusion hc | (exfalso;first | exact absurd rfl hc | omega) | (simp only [zg] at hc<;>first | exact absurd rfl hc | (exfalso;first | exact absurd rfl hc | omega) | skip) | skip)) | (refine And.intro ze ?_) | (apply And.intro) | (intro s hs;(have q : T = s:=eT.symm.trans hs.symm;clear hs;subst q)) | (refine Exists.intro _ (And.intro ⟨rfl,rfl,rfl⟩ ?_)))
     . have hpl:=zBB hok.h hkl ‹_›;have hRe : R = (L.set 7 (ZO s k),false,0):=by
        rw [hR];unfold ZZ;rw [if_neg hmin,hpl,if_pos rfl]
       have hhe : ZO s k = ⟨s.id,s.mn,s.held.set k { s.held.getD k default with tm:=T }⟩:=by unfold ZO;rw [eT]
       have hLh : (ZO s k).held.length = s.held.length:=List.length_set;conv=>whnf
       refine zw (s:=ZO s k) (d:=2) hRe hlt rfl (λp h j=>zZ h) rfl rfl (by rw [hLh];rfl) rfl rfl hLh.symm rfl λq hq j hj=>?_;rw [hhe];exact (ZJ hkl (λj hj=>(Elem.flat _ _ _).le)).2 q (by rw [List.length_set,<- hLh];exact hq) j hj
     . conv=>whnf
       exact ⟨⟨k + 1,hkl,λp hp=>by
        by_cases h : p = k
        . subst h;assumption
        . exact hnk p (by omega)⟩,[],by dsimp only;omega,rfl,⟨zA rfl,zG rfl,zA rfl,zH rfl,zE (zD rfl rfl),zA rfl,zH rfl,zA rfl,zA w5,trivial⟩,⟨⟨rfl,zI λj hj=>(Zr.sh _ j hj).le⟩,⟨rfl,⟨rfl,rfl,rfl,rfl,λp hp j hj=>Zg hj rfl⟩⟩,⟨rfl,zB⟩,⟨rfl,zI (qm ⟨zC rfl,zC rfl,zD rfl rfl⟩)⟩,trivial⟩⟩
   . repeat' (first | (apply And.intro<;>intro hc<;>(first | exact Bool.noConfusion hc | (exfalso;first | exact absurd rfl hc | omega) | (simp only [zg] at hc<;>first | exact absurd rfl hc | (exfalso;first | exact absurd rfl hc | omega) | skip) | skip)) | (refine And.intro ze ?_) | (apply And.intro) | (intro s hs;skip) | (refine Exists.intro _ (And.intro ⟨rfl,rfl,rfl⟩ ?_)))
     conv=>whnf
     exact ⟨⟨(),zBC λp hp=>hnk p (by omega)⟩,[],rfl,⟨zA rfl,zG rfl,zA rfl,zH rfl,zE (zD rfl rfl),zA rfl,zH rfl,trivial⟩,⟨⟨rfl,zI λj hj=>(Zr.sh _ j hj).le⟩,⟨rfl,⟨rfl,rfl,rfl,rfl,λp hp j hj=>Zg hj rfl⟩⟩,⟨rfl,zB⟩,⟨rfl,zI (qm ⟨zC rfl,zC rfl,zD rfl rfl⟩)⟩,trivial⟩⟩
 . rintro ⟨_,hno⟩;have hs1 : ql s (c.num - 31) = za s (c.num - 31):=qw hok;obtain ⟨s1,es1⟩ : ∃ s1,za s (c.num - 31) = s1:=⟨_,rfl⟩;rw [es1] at hs1;have hok1 : SdOk s1:=by rw [<- es1];exact Qu hok (by omega)
   have hk:=hok.k;have hmn:=hok.mn;have w31 : IntKind.i64.wrap (s.mn + 31) = s.mn + 31:=IntWalk.i64_in _ (by omega);have w32 : IntKind.i64.wrap (c.num - 31) = c.num - 31:=IntWalk.i64_in _ (by omega);unfold SLr;change Sem _ _ _ _ _ _ _ _;refine Zf (wd:=1) (by decide) zM (zb zt) (zT zt) zN (SBr L 7 s1 now c deaf draw) (by intro _;rfl) ?_ ?_
   . repeat' (first | (simp only [w31,w32]) | (apply And.intro<;>intro hc<;>(first | exact Bool.noConfusion hc | (exfalso;first | exact absurd rfl hc | omega) | (simp only [zg] at hc<;>first | exact absurd rfl hc | (exfalso;first | exact absurd rfl hc | omega) | skip) | skip)) | (refine And.intro ze ?_) | (apply And.intro) | (intro s hs;(have q:=qp hs (YB rfl rfl (zL zR _)) hs1;clear hs;subst q)) | (refine Exists.intro _ (And.intro ⟨rfl,rfl,rfl⟩ ?_)))
     . exact ⟨rfl,rfl,λ_ _=>⟨rfl,zl _⟩⟩
     . exact Eq.mpr (congrArg KpI (zL zR _)) hk
     . conv=>whnf
       exact ⟨(),[(2,some 14)],rfl,⟨zA rfl,zG rfl,zA rfl,zH rfl,zE (zD rfl rfl),zA rfl,zH rfl,trivial⟩,⟨⟨rfl,zI λj hj=>(Zr.sh _ j hj).le⟩,⟨rfl,⟨rfl,rfl,rfl,rfl,λp hp j hj=>qn hj λh=>zZ h⟩⟩,⟨rfl,zB⟩,⟨rfl,zI (qm ⟨zC rfl,zC rfl,zD rfl rfl⟩)⟩,trivial⟩⟩
     . have e1 : s1 = s:=by rw [<- es1];exact if_pos (by omega)
       conv=>whnf
       exact ⟨(),[],rfl,⟨zA rfl,zG rfl,zA rfl,zH rfl,zE (zD rfl rfl),zA rfl,zH rfl,trivial⟩,⟨⟨rfl,zI λj hj=>(Zr.sh _ j hj).le⟩,⟨rfl,⟨rfl,rfl,rfl,rfl,λp hp j hj=>qn hj λh=>zZ h⟩⟩,⟨rfl,zF (by rw [e1])⟩,⟨rfl,zI (qm ⟨zC (by rw [e1]),zC (by rw [e1]),zD rfl (by rw [e1])⟩)⟩,trivial⟩⟩
   . intro _;exact ht s1 es1 hok1 hmin hno (by rw [<- es1];unfold za;split;exact hno;exact Qc hok.h hno)
theorem racc_8 (L : List Sed) (now : Int) (c : Cas) (deaf : Bool) (draw : Int) (hI : AcR L 8 now c draw) (R : List Sed × Bool × Int) (hR : R = (L.set 8 (ZZ (L.getD 8 default) now c deaf draw).1,(ZZ (L.getD 8 default) now c deaf draw).2,0))
 (ht : ∀ s1,za (L.getD 8 default) (c.num - 31) = s1 -> SdOk s1 -> ¬ c.num < (L.getD 8 default).mn -> (ZN c.num (L.getD 8 default).held 0).2 = false -> (ZN c.num s1.held 0).2 = false -> Sem Try.prog Try.f39.ntmps 0 (ZK 11 (Try.f39.body.getD Code.ret)) (SBr L 8 s1 now c deaf draw ()).fr (SBr L 8 s1 now c deaf draw ()).H (SBr L 8 s1 now c deaf draw ()).nx (qN T Try.f39.results.toList λx H _=>FinN (some R.1.length) (qE R) (ZL ZF 78 R.1) x H)) :
 Sem Try.prog Try.f39.ntmps 0 (ZK 6 (Try.f39.body.getD Code.ret)) (SAr L 8 now c deaf draw ()).fr (SAr L 8 now c deaf draw ()).H (SAr L 8 now c deaf draw ()).nx (qN T Try.f39.results.toList λx H _=>FinN (some R.1.length) (qE R) (ZL ZF 78 R.1) x H):=by
 obtain ⟨hlt,hn9,hok,hnum,hd,hnow,hdr,hf⟩:=hI;obtain ⟨s,es⟩ : ∃ s,L.getD 8 default = s:=⟨_,rfl⟩;rw [es] at hok hR ht;have hset : L.set 8 s = L:=by rw [<- es];exact YL hlt
 unfold SAr;rw [es];refine zK (wd:=1) (by decide) zM (zb zt) zN ?_;repeat' (first | (apply And.intro<;>intro hc<;>(first | exact Bool.noConfusion hc | (exfalso;first | exact absurd rfl hc | omega) | (simp only [zg] at hc<;>first | exact absurd rfl hc | (exfalso;first | exact absurd rfl hc | omega) | skip) | skip)) | (refine And.intro ze ?_) | (apply And.intro) | (intro s hs;(have q:=YU hs (Yi es.symm rfl) hf;clear hs;subst q)) | (refine Exists.intro _ (And.intro ⟨rfl,rfl,rfl⟩ ?_)))
 . exact Yj
 . show (Yt neI L.length λk j=>QQ 2 s 8 L (0 + k) j).length <= 9223372036854775807;rw [QG];omega
 refine zK (wd:=1) (by decide) zM (zb zt) zN ?_;repeat' (first | (apply And.intro<;>intro hc<;>(first | exact Bool.noConfusion hc | (exfalso;first | exact absurd rfl hc | omega) | (simp only [zg] at hc<;>first | exact absurd rfl hc | (exfalso;first | exact absurd rfl hc | omega) | skip) | skip)) | (refine And.intro ze ?_) | (apply And.intro) | (intro s hs;skip) | (refine Exists.intro _ (And.intro ⟨rfl,rfl,rfl⟩ ?_)))
 refine zK (wd:=1) (by decide) zM (zb zt) zN ?_;repeat' (first | (apply And.intro<;>intro hc<;>(first | exact Bool.noConfusion hc | (exfalso;first | exact absurd rfl hc | omega) | (simp only [zg] at hc<;>first | exact absurd rfl hc | (exfalso;first | exact absurd rfl hc | omega) | skip) | skip)) | (refine And.intro ze ?_) | (apply And.intro) | (intro s hs;skip) | (refine Exists.intro _ (And.intro ⟨rfl,rfl,rfl⟩ ?_)))
 . have hRe : R = (L,false,0):=by
    rw [hR];unfold ZZ;rw [if_pos ‹_›,hset]
   refine zw (s:=s) (d:=2) (hRe.trans (by rw [hset])) hlt rfl (λp h j=>zZ h) rfl rfl rfl rfl rfl rfl rfl λq hq j hj=>(zn.sh _ j hj).le
 have hmin : ¬ c.num < s.mn:=by assumption
 change Sem _ _ _ _ _ _ _ _;refine Zf (wd:=1) (by decide) zM (zb zt) (zT zt) zN (λ_ : {u : Unit // (ZN c.num s.held 0).2 = false}=>SLr L 8 s now c deaf draw) (by intro _;rfl) ?_ ?_
 . repeat' (first | (apply And.intro<;>intro hc<;>(first | exact Bool.noConfusion hc | (exfalso;first | exact absurd rfl hc | omega) | (simp only [zg] at hc<;>first | exact absurd rfl hc | (exfalso;first | exact absurd rfl hc | omega) | skip) | skip)) | (refine And.intro ze ?_) | (apply And.intro) | (intro s hs;skip) | (refine Exists.intro _ (And.intro ⟨rfl,rfl,rfl⟩ ?_)))
   conv=>whnf
   refine zQ (zT zt) (λu : {k : Nat // k <= s.held.length /\ ∀ p,p < k -> (s.held.getD p default).num ≠ c.num}=>(⟨[(1,zO (.int .i64 now)),(3,zO (.bool deaf)),(4,zO (.int .u32 draw)),(7,zO (.ptr 0 0 0 false)),(13,zO (.os 1 0 L.length)),(18,zO (.int .i64 ((8 : Nat) : Int))),(19,zO (.ptr 3 0 0 false)),(127,zO (.int .i64 (s.held.length : Int))),(128,zO (.int .i64 (u.1 : Int)))],[(0,some ⟨32,1,3,true,λ_=>Zr.cell c⟩),(1,some ⟨78,L.length,3,false,QQ 2 s 8 L⟩),(2,some (ZL zn 85 s.held)),(3,some ⟨78,1,3,true,λ_=>sdO 2 s⟩)],4⟩ : Hd)) (λu=>s.held.length - u.1) (λ_=>rfl) ?_ ⟨0,Nat.zero_le _,λp hp=>absurd hp (Nat.not_lt_zero p)⟩ [(3,some 12)] ⟨rfl,⟨zA rfl,zG rfl,zA rfl,zH rfl,zE (zD rfl rfl),zA rfl,zH rfl,zA rfl,zA rfl,trivial⟩,⟨⟨rfl,zI λj hj=>(Zr.sh _ j hj).le⟩,⟨rfl,⟨rfl,rfl,rfl,rfl,λp hp j hj=>Zg hj rfl⟩⟩,⟨rfl,zB⟩,⟨rfl,zI (qm ⟨zC rfl,zC rfl,zD rfl rfl⟩)⟩,trivial⟩⟩;rintro ⟨k,hk,hnk⟩;dsimp only at hk hnk ⊢;have hn32:=hok.n;by_cases hkl : k < s.held.length
   . have w5 : IntKind.i64.wrap ((k : Int) + 1) = ((k + 1 : Nat) : Int):=(IntWalk.i64_in _ (by omega)).trans (by omega);have z0 : 0 + (k : Int).toNat = k:=Nat.zero_add k;obtain ⟨T,eT⟩ : ∃ T,Qo (s.held.getD k default).tm = T:=⟨_,rfl⟩;repeat' (first | (simp only [z0]) | (apply And.intro<;>intro hc<;>(first | exact Bool.noConfusion hc | (exfalso;first | exact absurd rfl hc | omega) | (simp only [zg] at hc<;>first | exact absurd rfl hc | (exfalso;first | exact absurd rfl hc | omega) | skip) | skip)) | (refine And.intro ze ?_) | (apply And.intro) | (intro s hs;(have q : T = s:=eT.symm.trans hs.symm;clear hs;subst q)) | (refine Exists.intro _ (And.intro ⟨rfl,rfl,rfl⟩ ?_)))
     . have hpl:=zBB hok.h hkl ‹_›;have hRe : R = (L.set 8 (ZO s k),false,0):=by
        rw [hR];unfold ZZ;rw [if_neg hmin,hpl,if_pos rfl]
       have hhe : ZO s k = ⟨s.id,s.mn,s.held.set k { s.held.getD k default with tm:=T }⟩:=by unfold ZO;rw [eT]
       have hLh : (ZO s k).held.length = s.held.length:=List.length_set;conv=>whnf
       refine zw (s:=ZO s k) (d:=2) hRe hlt rfl (λp h j=>zZ h) rfl rfl (by rw [hLh];rfl) rfl rfl hLh.symm rfl λq hq j hj=>?_;rw [hhe];exact (ZJ hkl (λj hj=>(Elem.flat _ _ _).le)).2 q (by rw [List.length_set,<- hLh];exact hq) j hj
     . conv=>whnf
       exact ⟨⟨k + 1,hkl,λp hp=>by
        by_cases h : p = k
        . subst h;assumption
        . exact hnk p (by omega)⟩,[],by dsimp only;omega,rfl,⟨zA rfl,zG rfl,zA rfl,zH rfl,zE (zD rfl rfl),zA rfl,zH rfl,zA rfl,zA w5,trivial⟩,⟨⟨rfl,zI λj hj=>(Zr.sh _ j hj).le⟩,⟨rfl,⟨rfl,rfl,rfl,rfl,λp hp j hj=>Zg hj rfl⟩⟩,⟨rfl,zB⟩,⟨rfl,zI (qm ⟨zC rfl,zC rfl,zD rfl rfl⟩)⟩,trivial⟩⟩
   . repeat' (first | (apply And.intro<;>intro hc<;>(first | exact Bool.noConfusion hc | (exfalso;first | exact absurd rfl hc | omega) | (simp only [zg] at hc<;>first | exact absurd rfl hc | (exfalso;first | exact absurd rfl hc | omega) | skip) | skip)) | (refine And.intro ze ?_) | (apply And.intro) | (intro s hs;skip) | (refine Exists.intro _ (And.intro ⟨rfl,rfl,rfl⟩ ?_)))
     conv=>whnf
     exact ⟨⟨(),zBC λp hp=>hnk p (by omega)⟩,[],rfl,⟨zA rfl,zG rfl,zA rfl,zH rfl,zE (zD rfl rfl),zA rfl,zH rfl,trivial⟩,⟨⟨rfl,zI λj hj=>(Zr.sh _ j hj).le⟩,⟨rfl,⟨rfl,rfl,rfl,rfl,λp hp j hj=>Zg hj rfl⟩⟩,⟨rfl,zB⟩,⟨rfl,zI (qm ⟨zC rfl,zC rfl,zD rfl rfl⟩)⟩,trivial⟩⟩
 . rintro ⟨_,hno⟩;have hs1 : ql s (c.num - 31) = za s (c.num - 31):=qw hok;obtain ⟨s1,es1⟩ : ∃ s1,za s (c.num - 31) = s1:=⟨_,rfl⟩;rw [es1] at hs1;have hok1 : SdOk s1:=by rw [<- es1];exact Qu hok (by omega)
   have hk:=hok.k;have hmn:=hok.mn;have w31 : IntKind.i64.wrap (s.mn + 31) = s.mn + 31:=IntWalk.i64_in _ (by omega);have w32 : IntKind.i64.wrap (c.num - 31) = c.num - 31:=IntWalk.i64_in _ (by omega);unfold SLr;change Sem _ _ _ _ _ _ _ _;refine Zf (wd:=1) (by decide) zM (zb zt) (zT zt) zN (SBr L 8 s1 now c deaf draw) (by intro _;rfl) ?_ ?_
   . repeat' (first | (simp only [w31,w32]) | (apply And.intro<;>intro hc<;>(first | exact Bool.noConfusion hc | (exfalso;first | exact absurd rfl hc | omega) | (simp only [zg] at hc<;>first | exact absurd rfl hc | (exfalso;first | exact absurd rfl hc | omega) | skip) | skip)) | (refine And.intro ze ?_) | (apply And.intro) | (intro s hs;(have q:=qp hs (YB rfl rfl (zL zR _)) hs1;clear hs;subst q)) | (refine Exists.intro _ (And.intro ⟨rfl,rfl,rfl⟩ ?_)))
     . exact ⟨rfl,rfl,λ_ _=>⟨rfl,zl _⟩⟩
     . exact Eq.mpr (congrArg KpI (zL zR _)) hk
     . conv=>whnf
       exact ⟨(),[(2,some 14)],rfl,⟨zA rfl,zG rfl,zA rfl,zH rfl,zE (zD rfl rfl),zA rfl,zH rfl,trivial⟩,⟨⟨rfl,zI λj hj=>(Zr.sh _ j hj).le⟩,⟨rfl,⟨rfl,rfl,rfl,rfl,λp hp j hj=>qn hj λh=>zZ h⟩⟩,⟨rfl,zB⟩,⟨rfl,zI (qm ⟨zC rfl,zC rfl,zD rfl rfl⟩)⟩,trivial⟩⟩
     . have e1 : s1 = s:=by rw [<- es1];exact if_pos (by omega)
       conv=>whnf
       exact ⟨(),[],rfl,⟨zA rfl,zG rfl,zA rfl,zH rfl,zE (zD rfl rfl),zA rfl,zH rfl,trivial⟩,⟨⟨rfl,zI λj hj=>(Zr.sh _ j hj).le⟩,⟨rfl,⟨rfl,rfl,rfl,rfl,λp hp j hj=>qn hj λh=>zZ h⟩⟩,⟨rfl,zF (by rw [e1])⟩,⟨rfl,zI (qm ⟨zC (by rw [e1]),zC (by rw [e1]),zD rfl (by rw [e1])⟩)⟩,trivial⟩⟩
   . intro _;exact ht s1 es1 hok1 hmin hno (by rw [<- es1];unfold za;split;exact hno;exact Qc hok.h hno)
theorem zFh (L : List Sed) (a : Nat) (now : Int) (c : Cas) (deaf : Bool) (draw : Int) (hI : AcR L a now c draw) (R : List Sed × Bool × Int) (hR : R = (L.set a (ZZ (L.getD a default) now c deaf draw).1,(ZZ (L.getD a default) now c deaf draw).2,0)) :
 Sem Try.prog Try.f39.ntmps 0 (ZK 6 (Try.f39.body.getD Code.ret)) (SAr L a now c deaf draw ()).fr (SAr L a now c deaf draw ()).H (SAr L a now c deaf draw ()).nx (qN T Try.f39.results.toList λx H _=>FinN (some R.1.length) (qE R) (ZL ZF 78 R.1) x H):=by
 have h9:=hI.n;have hl:=hI.lt;rcases (show a = 0 \/ a = 1 \/ a = 2 \/ a = 3 \/ a = 4 \/ a = 5 \/ a = 6 \/ a = 7 \/ a = 8 by omega) with rfl | rfl | rfl | rfl | rfl | rfl | rfl | rfl | rfl
 . exact racc_0 L now c deaf draw hI R hR λs1 e1 h1 h2 h3 h4=>YK L 0 _ s1 now c deaf draw hl h2 h3 h4 e1 h1 hI.num hI.d hI.now hI.dr R hR
 . exact racc_1 L now c deaf draw hI R hR λs1 e1 h1 h2 h3 h4=>YK L 1 _ s1 now c deaf draw hl h2 h3 h4 e1 h1 hI.num hI.d hI.now hI.dr R hR
 . exact racc_2 L now c deaf draw hI R hR λs1 e1 h1 h2 h3 h4=>YK L 2 _ s1 now c deaf draw hl h2 h3 h4 e1 h1 hI.num hI.d hI.now hI.dr R hR
 . exact racc_3 L now c deaf draw hI R hR λs1 e1 h1 h2 h3 h4=>YK L 3 _ s1 now c deaf draw hl h2 h3 h4 e1 h1 hI.num hI.d hI.now hI.dr R hR
 . exact racc_4 L now c deaf draw hI R hR λs1 e1 h1 h2 h3 h4=>YK L 4 _ s1 now c deaf draw hl h2 h3 h4 e1 h1 hI.num hI.d hI.now hI.dr R hR
 . exact racc_5 L now c deaf draw hI R hR λs1 e1 h1 h2 h3 h4=>YK L 5 _ s1 now c deaf draw hl h2 h3 h4 e1 h1 hI.num hI.d hI.now hI.dr R hR
 . exact racc_6 L now c deaf draw hI R hR λs1 e1 h1 h2 h3 h4=>YK L 6 _ s1 now c deaf draw hl h2 h3 h4 e1 h1 hI.num hI.d hI.now hI.dr R hR
 . exact racc_7 L now c deaf draw hI R hR λs1 e1 h1 h2 h3 h4=>YK L 7 _ s1 now c deaf draw hl h2 h3 h4 e1 h1 hI.num hI.d hI.now hI.dr R hR
 . exact racc_8 L now c deaf draw hI R hR λs1 e1 h1 h2 h3 h4=>YK L 8 _ s1 now c deaf draw hl h2 h3 h4 e1 h1 hI.num hI.d hI.now hI.dr R hR
def SFr (L : List Sed) (now : Int) (c : Cas) (deaf : Bool) (draw : Int) (_ : Unit) : Hd:=
 ⟨[(1,zO (.int .i64 now)),(3,zO (.bool deaf)),(4,zO (.int .u32 draw)),(7,zO (.ptr 0 0 0 false)),(13,zO (.os 1 0 L.length))],
  (0,some ⟨32,1,3,true,λ_=>Zr.cell c⟩) :: (1,some (qt 2 L.length L)) :: zBs 2 L,10⟩
theorem zFe {d n : Nat} {L : List Sed} (hn : n = L.length) : Yt neI n (λk j=>ZT d L (0 + k) j) = L.map Sed.id:=by
 subst hn;apply List.ext_getElem
 . simp [Yt]
 . intro i h1 h2;have hi : i < L.length:=by simpa using h2
   simp only [Yt,List.getElem_map,List.getElem_range];show YY (ZT d L (0 + i) 0) = _;rw [Nat.zero_add];show (L.getD i default).id = _;rw [List.getD_eq_getElem?_getD,List.getElem?_eq_getElem hi];rfl
theorem fndR_no {c : Cas} {L : List Sed} (hv : ZC L = true) (h : (Zq c.id L 0).2 = false) : zBY c.id (L.map Sed.id) 0 = -1:=by
 rw [zE8 (zDN hv),h];rfl
theorem zFf {c : Cas} {L : List Sed} (hv : ZC L = true) (h : (Zq c.id L 0).2 = true) : zBY c.id (L.map Sed.id) 0 = ((Zq c.id L 0).1 : Int):=by
 rw [zE8 (zDN hv),h];rfl
def zBU (g : Nat) (L : List Sed) (k j : Nat) : CV:=bif Nat.beq k g && Nat.beq j 2 then .nils else zo ZF L k j
theorem zCp {g k j : Nat} {L : List Sed} (h : k ≠ g \/ j ≠ 2) : zBU g L k j = zo ZF L k j:=by
 unfold zBU;rcases h with h | h
 . rw [zA2 h];rfl
 . rw [zA2 h,Bool.and_false];rfl
theorem rowZ_g {g : Nat} {L : List Sed} : zBU g L g 2 = .nils:=by unfold zBU;rw [QW];rfl
theorem zE3 {c : Wc} {g k j : Nat} {L : List Sed} (hj : j < 3) : ZX c (zBU g L k j) (zBU g L k j):=by
 by_cases h : k ≠ g \/ j ≠ 2
 . rw [zCp h];exact (ZF.sh _ j hj).le
 . obtain ⟨rfl,rfl⟩ : k = g /\ j = 2:=by omega
   rw [rowZ_g];exact zW
theorem rowZ_app {g k j : Nat} {L Z : List Sed} (h : k < L.length) : zBU g (L ++ Z) k j = zBU g L k j:=by
 have e : zo ZF (L ++ Z) k j = zo ZF L k j:=congrArg (λz=>ZF.cell z j) (by rw [List.getD_eq_getElem?_getD,List.getElem?_append_left h,<- List.getD_eq_getElem?_getD]);unfold zBU;rw [e]
theorem zBV {g j : Nat} {L : List Sed} {x : Sed} (h : L.length ≠ g \/ j ≠ 2) : zBU g (L ++ [x]) L.length j = ZF.cell x j:=by
 rw [zCp h];exact congrArg (λz=>ZF.cell z j) (by simp [List.getD_eq_getElem?_getD])
theorem snocZ {c : Wc} {Z : List Sed} {x : Sed} {g n k j : Nat} {A B C : CV} (hn : n = Z.length) (hk : k < n + 1) (hj : j < 3) (hA : k < n -> ZX c A (zBU g Z k j)) (h : ZX c B (zBU g (Z ++ [x]) n j)) : ZX c (Zi (Nat.blt k n) A (Zi (Nat.beq (0 + (k - n)) 0) B C)) (zBU g (Z ++ [x]) k j):=by
 subst hn;by_cases hkz : k < Z.length
 . refine ZU (Nat.ble_eq_true_of_le hkz) ?_;rw [rowZ_app hkz];exact hA hkz
 . obtain rfl : k = Z.length:=by omega
   exact Zd (Zn _) (ZU (by rw [Nat.sub_self];rfl) h)
theorem snocG {c : Wc} {n k : Nat} {A B C D : CV} (hk : k < n + 1) (hA : k < n -> ZX c A D) (hB : k = n -> ZX c B D) : ZX c (Zi (Nat.blt k n) A (Zi (Nat.beq (0 + (k - n)) 0) B C)) D:=by
 by_cases h : k < n
 . exact ZU (Nat.ble_eq_true_of_le h) (hA h)
 . obtain rfl : k = n:=by omega
   exact Zd (Zn _) (ZU (by rw [Nat.sub_self];rfl) (hB rfl))
theorem zBW {c : Wc} {d a j : Nat} {L : List Sed} (hj : j < 3) (h : c.src 2 = some (d + a)) : ZX c (ZT d L a j) (QQ 2 (L.getD a default) a L a j):=by
 rw [zAL];rcases j with _ | _ | _ | j
 . exact zC rfl
 . exact zC rfl
 . exact zD h rfl
 . omega
theorem rowZ_A {c : Wc} {g k j : Nat} {I : List Sed} (hj : j < 3) (h0 : (I.getD g default).held.length = 0) : ZX c (zBU g I k j) (QQ 2 (I.getD g default) g I k j):=by
 by_cases hk : k = g
 . subst hk;rw [zAL];rcases j with _ | _ | _ | j
   . rw [zCp (.inr (by decide))];exact zC rfl
   . rw [zCp (.inr (by decide))];exact zC rfl
   . rw [rowZ_g];exact ZP h0
   . omega
 . rw [zZ hk,zCp (.inl hk)];exact (ZF.sh _ j hj).le
theorem zFg (L : List Sed) (now : Int) (c : Cas) (deaf : Bool) (draw : Int) (hv : ZC L = true) (h8 : (Zq c.id L 0).2 = false -> L.length < 8) (hnum : 0 <= c.num /\ c.num < 1073741824) (R : List Sed × Bool × Int)
 (ht : Sem Try.prog Try.f39.ntmps 0 (ZK 6 (Try.f39.body.getD Code.ret)) (SAr (Qm c L) (Zq c.id L 0).1 now c deaf draw ()).fr (SAr (Qm c L) (Zq c.id L 0).1 now c deaf draw ()).H (SAr (Qm c L) (Zq c.id L 0).1 now c deaf draw ()).nx (qN T Try.f39.results.toList λx H _=>FinN (some R.1.length) (qE R) (ZL ZF 78 R.1) x H)) :
 Sem Try.prog Try.f39.ntmps 0 (ZK 5 (Try.f39.body.getD Code.ret)) (SFr L now c deaf draw ()).fr (SFr L now c deaf draw ()).H (SFr L now c deaf draw ()).nx (qN T Try.f39.results.toList λx H _=>FinN (some R.1.length) (qE R) (ZL ZF 78 R.1) x H):=by
 have hl8:=Zp hv;obtain ⟨u,hu⟩ : ∃ u,(Zq c.id L 0).2 = u:=⟨_,rfl⟩;obtain ⟨g,hg⟩ : ∃ g,(Zq c.id L 0).1 = g:=⟨_,rfl⟩;obtain ⟨hle,hle2,_⟩:=zAz (id:=c.id) (L:=L) (k:=0);rw [hg,Nat.zero_add] at hle hle2;rw [hu] at hle2;rw [hg] at ht;unfold SFr zBs;cases u with
 | true=>
   have hF:=zFf hv hu;rw [hg] at hF;have eA : Qm c L = L:=by unfold Qm;rw [if_pos hu]
   rw [eA] at ht;have hgl:=hle2 rfl;refine Zf (wd:=1) (by decide) zM (zb zt) (zT zt) zN (SAr L g now c deaf draw) (by intro _;rfl) ?_ λ_=>ht;repeat' (first | (apply And.intro<;>intro hc<;>(first | exact Bool.noConfusion hc | (exfalso;first | exact absurd rfl hc | omega) | (simp only [zg] at hc<;>first | exact absurd rfl hc | (exfalso;first | exact absurd rfl hc | omega) | skip) | skip)) | (refine And.intro ze ?_) | (apply And.intro) | (intro s hs;(have q:=YU hs (zFe rfl) hF;clear hs;subst q)) | (refine Exists.intro _ (And.intro ⟨rfl,rfl,rfl⟩ ?_)))
   . exact λ_ _=>rfl
   . show (Yt neI L.length λk j=>ZT 2 L (0 + k) j).length <= 9223372036854775807;rw [QG];omega
   conv=>whnf
   clear hF ht hg hle hle2;rcases (show g = 0 \/ g = 1 \/ g = 2 \/ g = 3 \/ g = 4 \/ g = 5 \/ g = 6 \/ g = 7 by omega) with rfl | rfl | rfl | rfl | rfl | rfl | rfl | rfl
   . refine ⟨(),[(1,some 1),(2,some 2)],rfl,⟨zA rfl,zG rfl,zA rfl,zH rfl,zE (zD rfl rfl),trivial⟩,⟨⟨rfl,zI λj hj=>(Zr.sh _ j hj).le⟩,⟨rfl,⟨rfl,rfl,rfl,rfl,λp hp j hj=>?_⟩⟩,⟨rfl,zB⟩,trivial⟩⟩;have hp : p < L.length:=hp;have hj : j < 3:=hj;show ZX _ (ZT 2 L p j) (QQ 2 (L.getD 0 default) 0 L p j);rcases (show p = 0 \/ p = 1 \/ p = 2 \/ p = 3 \/ p = 4 \/ p = 5 \/ p = 6 \/ p = 7 by omega) with rfl | rfl | rfl | rfl | rfl | rfl | rfl | rfl;all_goals first
      | (rw [zZ (by decide)];exact Qp hj rfl rfl)
      | exact zBW hj rfl
   . refine ⟨(),[(1,some 1),(2,some 3)],rfl,⟨zA rfl,zG rfl,zA rfl,zH rfl,zE (zD rfl rfl),trivial⟩,⟨⟨rfl,zI λj hj=>(Zr.sh _ j hj).le⟩,⟨rfl,⟨rfl,rfl,rfl,rfl,λp hp j hj=>?_⟩⟩,⟨rfl,zB⟩,trivial⟩⟩;have hp : p < L.length:=hp;have hj : j < 3:=hj;show ZX _ (ZT 2 L p j) (QQ 2 (L.getD 1 default) 1 L p j);rcases (show p = 0 \/ p = 1 \/ p = 2 \/ p = 3 \/ p = 4 \/ p = 5 \/ p = 6 \/ p = 7 by omega) with rfl | rfl | rfl | rfl | rfl | rfl | rfl | rfl;all_goals first
      | (rw [zZ (by decide)];exact Qp hj rfl rfl)
      | exact zBW hj rfl
   . refine ⟨(),[(1,some 1),(2,some 4)],rfl,⟨zA rfl,zG rfl,zA rfl,zH rfl,zE (zD rfl rfl),trivial⟩,⟨⟨rfl,zI λj hj=>(Zr.sh _ j hj).le⟩,⟨rfl,⟨rfl,rfl,rfl,rfl,λp hp j hj=>?_⟩⟩,⟨rfl,zB⟩,trivial⟩⟩;have hp : p < L.length:=hp;have hj : j < 3:=hj;show ZX _ (ZT 2 L p j) (QQ 2 (L.getD 2 default) 2 L p j);rcases (show p = 0 \/ p = 1 \/ p = 2 \/ p = 3 \/ p = 4 \/ p = 5 \/ p = 6 \/ p = 7 by omega) with rfl | rfl | rfl | rfl | rfl | rfl | rfl | rfl;all_goals first
      | (rw [zZ (by decide)];exact Qp hj rfl rfl)
      | exact zBW hj rfl
   . refine ⟨(),[(1,some 1),(2,some 5)],rfl,⟨zA rfl,zG rfl,zA rfl,zH rfl,zE (zD rfl rfl),trivial⟩,⟨⟨rfl,zI λj hj=>(Zr.sh _ j hj).le⟩,⟨rfl,⟨rfl,rfl,rfl,rfl,λp hp j hj=>?_⟩⟩,⟨rfl,zB⟩,trivial⟩⟩;have hp : p < L.length:=hp;have hj : j < 3:=hj;show ZX _ (ZT 2 L p j) (QQ 2 (L.getD 3 default) 3 L p j);rcases (show p = 0 \/ p = 1 \/ p = 2 \/ p = 3 \/ p = 4 \/ p = 5 \/ p = 6 \/ p = 7 by omega) with rfl | rfl | rfl | rfl | rfl | rfl | rfl | rfl;all_goals first
      | (rw [zZ (by decide)];exact Qp hj rfl rfl)
      | exact zBW hj rfl
   . refine ⟨(),[(1,some 1),(2,some 6)],rfl,⟨zA rfl,zG rfl,zA rfl,zH rfl,zE (zD rfl rfl),trivial⟩,⟨⟨rfl,zI λj hj=>(Zr.sh _ j hj).le⟩,⟨rfl,⟨rfl,rfl,rfl,rfl,λp hp j hj=>?_⟩⟩,⟨rfl,zB⟩,trivial⟩⟩;have hp : p < L.length:=hp;have hj : j < 3:=hj;show ZX _ (ZT 2 L p j) (QQ 2 (L.getD 4 default) 4 L p j);rcases (show p = 0 \/ p = 1 \/ p = 2 \/ p = 3 \/ p = 4 \/ p = 5 \/ p = 6 \/ p = 7 by omega) with rfl | rfl | rfl | rfl | rfl | rfl | rfl | rfl;all_goals first
      | (rw [zZ (by decide)];exact Qp hj rfl rfl)
      | exact zBW hj rfl
   . refine ⟨(),[(1,some 1),(2,some 7)],rfl,⟨zA rfl,zG rfl,zA rfl,zH rfl,zE (zD rfl rfl),trivial⟩,⟨⟨rfl,zI λj hj=>(Zr.sh _ j hj).le⟩,⟨rfl,⟨rfl,rfl,rfl,rfl,λp hp j hj=>?_⟩⟩,⟨rfl,zB⟩,trivial⟩⟩;have hp : p < L.length:=hp;have hj : j < 3:=hj;show ZX _ (ZT 2 L p j) (QQ 2 (L.getD 5 default) 5 L p j);rcases (show p = 0 \/ p = 1 \/ p = 2 \/ p = 3 \/ p = 4 \/ p = 5 \/ p = 6 \/ p = 7 by omega) with rfl | rfl | rfl | rfl | rfl | rfl | rfl | rfl;all_goals first
      | (rw [zZ (by decide)];exact Qp hj rfl rfl)
      | exact zBW hj rfl
   . refine ⟨(),[(1,some 1),(2,some 8)],rfl,⟨zA rfl,zG rfl,zA rfl,zH rfl,zE (zD rfl rfl),trivial⟩,⟨⟨rfl,zI λj hj=>(Zr.sh _ j hj).le⟩,⟨rfl,⟨rfl,rfl,rfl,rfl,λp hp j hj=>?_⟩⟩,⟨rfl,zB⟩,trivial⟩⟩;have hp : p < L.length:=hp;have hj : j < 3:=hj;show ZX _ (ZT 2 L p j) (QQ 2 (L.getD 6 default) 6 L p j);rcases (show p = 0 \/ p = 1 \/ p = 2 \/ p = 3 \/ p = 4 \/ p = 5 \/ p = 6 \/ p = 7 by omega) with rfl | rfl | rfl | rfl | rfl | rfl | rfl | rfl;all_goals first
      | (rw [zZ (by decide)];exact Qp hj rfl rfl)
      | exact zBW hj rfl
   . refine ⟨(),[(1,some 1),(2,some 9)],rfl,⟨zA rfl,zG rfl,zA rfl,zH rfl,zE (zD rfl rfl),trivial⟩,⟨⟨rfl,zI λj hj=>(Zr.sh _ j hj).le⟩,⟨rfl,⟨rfl,rfl,rfl,rfl,λp hp j hj=>?_⟩⟩,⟨rfl,zB⟩,trivial⟩⟩;have hp : p < L.length:=hp;have hj : j < 3:=hj;show ZX _ (ZT 2 L p j) (QQ 2 (L.getD 7 default) 7 L p j);rcases (show p = 0 \/ p = 1 \/ p = 2 \/ p = 3 \/ p = 4 \/ p = 5 \/ p = 6 \/ p = 7 by omega) with rfl | rfl | rfl | rfl | rfl | rfl | rfl | rfl;all_goals first
      | (rw [zZ (by decide)];exact Qp hj rfl rfl)
      | exact zBW hj rfl
 | false=>
   have hF:=fndR_no hv hu;have h7:=h8 hu;have hlt : ∀ p,p < g -> (L.getD p default).id < c.id:=λp hp=>by
    have:=fnd_lt (n:=c.id) (L:=L) (k:=0) (p:=p) (Nat.zero_le _) (by rw [hg];exact hp);rwa [Nat.sub_zero] at this
   have hat : g < L.length -> c.id < (L.getD g default).id:=λhp=>by
    have:=fnd_at (n:=c.id) (L:=L) (k:=0) hu (by rw [hg];exact hp);rwa [hg,Nat.sub_zero] at this
   obtain ⟨x,ex⟩ : ∃ x : Sed,(⟨c.id,c.num,[]⟩ : Sed) = x:=⟨_,rfl⟩;have eA : Qm c L = Zh g x L:=by unfold Qm;rw [if_neg (by rw [hu];simp),hg,ex]
   have xi : x.id = c.id:=by rw [<- ex]
   have xm : x.mn = c.num:=by rw [<- ex]
   have xh : x.held = []:=by rw [<- ex]
   rw [eA] at ht;refine Zf (wd:=1) (by decide) zM (zb zt) (zT zt) zN (SAr (Zh g x L) g now c deaf draw) (by intro _;rfl) ?_ λ_=>ht;repeat' (first | (apply And.intro<;>intro hc<;>(first | exact Bool.noConfusion hc | (exfalso;first | exact absurd rfl hc | omega) | (simp only [zg] at hc<;>first | exact absurd rfl hc | (exfalso;first | exact absurd rfl hc | omega) | skip) | skip)) | (refine And.intro ze ?_) | (apply And.intro) | (intro s hs;(have q:=YU hs (zFe rfl) hF;clear hs;subst q)) | (refine Exists.intro _ (And.intro ⟨rfl,rfl,rfl⟩ ?_)))
   . exact λ_ _=>rfl
   . show (Yt neI L.length λk j=>ZT 2 L (0 + k) j).length <= 9223372036854775807;rw [QG];omega
   conv=>whnf
   clear hF ht hg hle2 eA h8 hu;refine zQ (zT zt) (λu : {u : Nat × Bool × List Sed // u.1 <= L.length /\ InsI g x L u.1 u.2.1 u.2.2}=>(⟨[(1,zO (.int .i64 now)),(3,zO (.bool deaf)),(4,zO (.int .u32 draw)),(7,zO (.ptr 0 0 0 false)),(14,zO (.os 2 0 u.1.2.2.length)),(15,zO (.bool u.1.2.1)),(72,zO (.os 1 0 L.length)),(73,zO (.int .i64 (L.length : Int))),(74,zO (.int .i64 (u.1.1 : Int)))],[(0,some ⟨32,1,3,true,λ_=>Zr.cell c⟩),(1,some (ZL ZF 78 L)),(2,some ⟨78,u.1.2.2.length,3,false,zBU g u.1.2.2⟩)],3⟩ : Hd)) (λu=>L.length - u.1.1) (λ_=>rfl) ?_ ⟨(0,false,[]),Nat.zero_le _,.no (Nat.zero_le _)⟩ [(2,none)] ⟨rfl,⟨zA rfl,zG rfl,zA rfl,zH rfl,zE (ZP rfl),zG rfl,zE (zD rfl rfl),zA rfl,zA rfl,trivial⟩,⟨⟨rfl,zI λj hj=>(Zr.sh _ j hj).le⟩,⟨rfl,⟨rfl,rfl,rfl,rfl,λp hp j hj=>?_⟩⟩,⟨rfl,rfl,rfl,Nat.le_of_ble_eq_true rfl⟩,trivial⟩⟩;rotate_left
   . have hp : p < L.length:=hp;have hj : j < 3:=hj;show ZX _ (ZT 2 L p j) (zo ZF L p j);rcases (show p = 0 \/ p = 1 \/ p = 2 \/ p = 3 \/ p = 4 \/ p = 5 \/ p = 6 \/ p = 7 by omega) with rfl | rfl | rfl | rfl | rfl | rfl | rfl | rfl;all_goals exact Qp hj rfl rfl
   rintro ⟨⟨p,dn,Lo⟩,hp,hIn⟩;dsimp only at hp hIn ⊢;by_cases hpl : p < L.length
   . have w5 : IntKind.i64.wrap ((p : Int) + 1) = ((p + 1 : Nat) : Int):=(IntWalk.i64_in _ (by omega)).trans (by omega);have z1 : 0 + (p : Int).toNat = p:=Nat.zero_add p;obtain ⟨s,es⟩ : ∃ s,L.getD p default = s:=⟨_,rfl⟩;have eck : zo ZF L p = ZF.cell s:=congrArg ZF.cell es;have hLl:=ins_len hIn;cases hIn with
     | no hpg=>
       by_cases hpq : p < g
       . have hlt1:=hlt p hpq;rw [es] at hlt1;have hnx:=ins_no (x:=x) hpq hpl;rw [es] at hnx;have hlz : (L.take p).length = p:=by rw [List.length_take];omega
         repeat' (first | (simp only [z1,eck]) | (apply And.intro<;>intro hc<;>(first | exact Bool.noConfusion hc | (exfalso;first | exact absurd rfl hc | omega) | (simp only [zg] at hc<;>first | exact absurd rfl hc | (exfalso;first | exact absurd rfl hc | omega) | skip) | skip)) | (refine And.intro ze ?_) | (apply And.intro) | (intro s hs;skip) | (refine Exists.intro _ (And.intro ⟨rfl,rfl,rfl⟩ ?_)))
         conv=>whnf
         refine ⟨⟨(p + 1,false,L.take p ++ [s]),hpl,hnx⟩,[(2,some 20)],by dsimp only;omega,rfl,⟨zA rfl,zG rfl,zA rfl,zH rfl,zE (zD rfl (by rw [List.length_append];rfl)),zG rfl,zE (zD rfl rfl),zA rfl,zA w5,trivial⟩,⟨⟨rfl,zI λj hj=>(Zr.sh _ j hj).le⟩,⟨rfl,zB⟩,⟨rfl,⟨rfl,by show _ = (L.take p ++ [s]).length;rw [List.length_append];rfl,rfl,rfl,λk hk j hj=>snocZ (Z:=L.take p) (x:=s) rfl hk hj (λ_=>zE3 hj) ?_⟩⟩,trivial⟩⟩;rw [zBV (.inl (by omega))];have hj : j < 3:=hj;rcases j with _ | _ | _ | j
         . exact zC rfl
         . exact zC rfl
         . exact (ZF.sh s 2 (by decide)).le
         . omega
       . obtain rfl : p = g:=by omega
         have hat1:=hat hpl;rw [es] at hat1;have hnx:=ins_at (x:=x) hpl;rw [es] at hnx;have hlz : (L.take p).length = p:=by rw [List.length_take];omega
         repeat' (first | (simp only [z1,eck]) | (apply And.intro<;>intro hc<;>(first | exact Bool.noConfusion hc | (exfalso;first | exact absurd rfl hc | omega) | (simp only [zg] at hc<;>first | exact absurd rfl hc | (exfalso;first | exact absurd rfl hc | omega) | skip) | skip)) | (refine And.intro ze ?_) | (apply And.intro) | (intro s hs;skip) | (refine Exists.intro _ (And.intro ⟨rfl,rfl,rfl⟩ ?_)))
         conv=>whnf
         refine ⟨⟨(p + 1,true,(L.take p ++ [x]) ++ [s]),hpl,hnx⟩,[(2,some 30)],by dsimp only;omega,rfl,⟨zA rfl,zG rfl,zA rfl,zH rfl,zE (zD rfl (by rw [List.length_append,List.length_append];rfl)),zG rfl,zE (zD rfl rfl),zA rfl,zA w5,trivial⟩,⟨⟨rfl,zI λj hj=>(Zr.sh _ j hj).le⟩,⟨rfl,zB⟩,⟨rfl,⟨rfl,by show _ = ((L.take p ++ [x]) ++ [s]).length;rw [List.length_append,List.length_append];rfl,rfl,rfl,λk hk j hj=>snocZ (Z:=L.take p ++ [x]) (x:=s) (by rw [List.length_append];rfl) hk hj (λhk1=>snocZ (Z:=L.take p) (x:=x) rfl hk1 hj (λ_=>zE3 hj) ?_) ?_⟩⟩,trivial⟩⟩
         . have hj : j < 3:=hj;rcases j with _ | _ | _ | j
           . rw [zBV (.inr (by decide))];exact zC xi.symm
           . rw [zBV (.inr (by decide))];exact zC xm.symm
           . rw [hlz,rowZ_g];exact zW
           . omega
         . have e : (L.take p ++ [x]).length = (L.take p).length + 1:=by rw [List.length_append];rfl
           rw [<- e,zBV (.inl (by omega))];have hj : j < 3:=hj;rcases j with _ | _ | _ | j
           . exact zC rfl
           . exact zC rfl
           . exact (ZF.sh s 2 (by decide)).le
           . omega
     | yes hgp=>
       have hnx:=ins_yes (x:=x) hgp hpl;rw [es] at hnx;have hlz : ((Zh g x L).take (p + 1)).length = p + 1:=by rw [List.length_take,qf (by omega)];omega
       repeat' (first | (simp only [z1,eck]) | (apply And.intro<;>intro hc<;>(first | exact Bool.noConfusion hc | (exfalso;first | exact absurd rfl hc | omega) | (simp only [zg] at hc<;>first | exact absurd rfl hc | (exfalso;first | exact absurd rfl hc | omega) | skip) | skip)) | (refine And.intro ze ?_) | (apply And.intro) | (intro s hs;skip) | (refine Exists.intro _ (And.intro ⟨rfl,rfl,rfl⟩ ?_)))
       conv=>whnf
       refine ⟨⟨(p + 1,true,(Zh g x L).take (p + 1) ++ [s]),hpl,hnx⟩,[(2,some 20)],by dsimp only;omega,rfl,⟨zA rfl,zG rfl,zA rfl,zH rfl,zE (zD rfl (by rw [List.length_append];rfl)),zG rfl,zE (zD rfl rfl),zA rfl,zA w5,trivial⟩,⟨⟨rfl,zI λj hj=>(Zr.sh _ j hj).le⟩,⟨rfl,zB⟩,⟨rfl,⟨rfl,by show _ = ((Zh g x L).take (p + 1) ++ [s]).length;rw [List.length_append];rfl,rfl,rfl,λk hk j hj=>snocZ (Z:=(Zh g x L).take (p + 1)) (x:=s) rfl hk hj (λ_=>zE3 hj) ?_⟩⟩,trivial⟩⟩;rw [zBV (.inl (by omega))];have hj : j < 3:=hj;rcases j with _ | _ | _ | j
       . exact zC rfl
       . exact zC rfl
       . exact (ZF.sh s 2 (by decide)).le
       . omega
   . obtain rfl : p = L.length:=by omega
     cases hIn with
     | no hpg=>
       obtain rfl : L.length = g:=by omega
       have hlz : (L.take L.length).length = L.length:=by rw [List.length_take];omega
       have eI : Zh L.length x L = L.take L.length ++ [x]:=zFj.symm;have eD : (Zh L.length x L).getD L.length default = x:=QF (Nat.le_refl _);repeat' (first | (apply And.intro<;>intro hc<;>(first | exact Bool.noConfusion hc | (exfalso;first | exact absurd rfl hc | omega) | (simp only [zg] at hc<;>first | exact absurd rfl hc | (exfalso;first | exact absurd rfl hc | omega) | skip) | skip)) | (refine And.intro ze ?_) | (apply And.intro) | (intro s hs;skip) | (refine Exists.intro _ (And.intro ⟨rfl,rfl,rfl⟩ ?_)))
       conv=>whnf
       refine ⟨(),[(1,some 13),(2,none)],rfl,⟨zA rfl,zG rfl,zA rfl,zH rfl,zE (zD rfl (by rw [eI,List.length_append];rfl)),trivial⟩,⟨⟨rfl,zI λj hj=>(Zr.sh _ j hj).le⟩,⟨rfl,⟨rfl,by rw [eI,List.length_append];rfl,rfl,rfl,λk hk j hj=>?_⟩⟩,?_,trivial⟩⟩
       . have hj : j < 3:=hj;refine snocG hk (λh=>?_) (λh=>?_)
         . show ZX _ (zBU L.length (L.take L.length) k j) (QQ 2 ((Zh L.length x L).getD L.length default) L.length (Zh L.length x L) k j);rw [zZ (by omega),zCp (.inl (by omega)),show zo ZF (Zh L.length x L) k j = zo ZF (L.take L.length) k j from congrArg (λz=>ZF.cell z j) (by rw [YZ (Nat.le_refl _) (by omega),List.take_length])];exact (ZF.sh _ j hj).le
         . obtain rfl : k = L.length:=by omega
           show ZX _ _ (QQ 2 ((Zh L.length x L).getD L.length default) L.length (Zh L.length x L) L.length j);rw [zAL,eD];rcases j with _ | _ | _ | j
           . exact zC xi.symm
           . exact zC xm.symm
           . exact ZP (by rw [xh];rfl)
           . omega
       . rw [eD,xh];exact ⟨rfl,rfl,rfl,Nat.le_of_ble_eq_true rfl⟩
     | yes hgp=>
       have hlz : ((Zh g x L).take (L.length + 1)).length = L.length + 1:=by rw [List.length_take,qf (by omega)];omega
       have eI : Zh g x L = (Zh g x L).take (L.length + 1):=(zFk (by omega)).symm;have eD : (Zh g x L).getD g default = x:=QF (by omega);repeat' (first | (apply And.intro<;>intro hc<;>(first | exact Bool.noConfusion hc | (exfalso;first | exact absurd rfl hc | omega) | (simp only [zg] at hc<;>first | exact absurd rfl hc | (exfalso;first | exact absurd rfl hc | omega) | skip) | skip)) | (refine And.intro ze ?_) | (apply And.intro) | (intro s hs;skip) | (refine Exists.intro _ (And.intro ⟨rfl,rfl,rfl⟩ ?_)))
       conv=>whnf
       refine ⟨(),[(1,some 2),(2,none)],rfl,⟨zA rfl,zG rfl,zA rfl,zH rfl,zE (zD rfl (by rw [<- eI])),trivial⟩,⟨⟨rfl,zI λj hj=>(Zr.sh _ j hj).le⟩,⟨rfl,⟨rfl,by rw [<- eI],rfl,rfl,λk hk j hj=>?_⟩⟩,?_,trivial⟩⟩
       . have hj : j < 3:=hj;show ZX _ (zBU g ((Zh g x L).take (L.length + 1)) k j) (QQ 2 ((Zh g x L).getD g default) g (Zh g x L) k j);rw [<- eI];exact rowZ_A hj (by rw [eD,xh];rfl)
       . rw [eD,xh];exact ⟨rfl,rfl,rfl,Nat.le_of_ble_eq_true rfl⟩
structure AccR (L : List Sed) (c : Cas) (d : Int) : Prop where
 h : LHp L
 i : 0 <= c.id
 d : ZM d
theorem racc1 (L : List Sed) (now : Int) (c : Cas) (deaf : Bool) (draw : Int) (hP : AccR L c draw) : zBu Try.prog 39 [(Yl ZF qA).enc L,(cI .i64).enc now,(cN Zr).enc c,cB.enc deaf,(cI .u32).enc draw] (some (qB L now c deaf draw).1.length) (qE (qB L now c deaf draw)) (ZL ZF 78 (qB L now c deaf draw).1):=by
 obtain ⟨hL,hid,hdr⟩:=hP;obtain ⟨R,hR⟩ : ∃ R,qB L now c deaf draw = R:=⟨_,rfl⟩;rw [hR];obtain ⟨V,hV⟩ : ∃ V,ZC L = V:=⟨_,rfl⟩;obtain ⟨F,hF⟩ : ∃ F,zBY c.id (L.map Sed.id) 0 = F:=⟨_,rfl⟩;obtain ⟨B,hB⟩ : ∃ B,zx now = B:=⟨_,rfl⟩;have hV0 : V = false -> R = ([],false,1):=λh=>by rw [<- hR];unfold qB;rw [if_pos (.inl (hV.trans h))]
 have hI0 : c.id = 0 -> R = ([],false,1):=λh=>by rw [<- hR];unfold qB;rw [if_pos (.inr (.inl h))]
 have hD0 : 64 < c.data.length -> R = ([],false,1):=λh=>by rw [<- hR];unfold qB;rw [if_pos (.inr (.inr h))]
 have h1 : V = true -> ¬ c.id = 0 -> ¬ 64 < c.data.length -> R = if zx now = false \/ c.num < 0 \/ 1073741824 <= c.num then ([],false,2) else
  if (Zq c.id L 0).2 = false /\ 8 <= L.length then ([],false,10) else
  ((Qm c L).set (Zq c.id L 0).1 (ZZ ((Qm c L).getD (Zq c.id L 0).1 default) now c deaf draw).1,(ZZ ((Qm c L).getD (Zq c.id L 0).1 default) now c deaf draw).2,0):=λha hb hd=>by
  rw [<- hR];unfold qB;rw [if_neg (by rw [hV,ha];simp;omega)]
 clear hR;refine zDt zM Try.func39 rfl _ (by show 5 <= _;decide) (λi _ j hj=>zEZ _ hj) ?_;refine zK (wd:=1) (by decide) zM (zb zt) zN ?_;refine zK (wd:=1) (by decide) zM (zb zt) zN ?_;repeat' (first | (apply And.intro<;>intro hc<;>(first | exact Bool.noConfusion hc | (exfalso;first | exact absurd rfl hc) | (simp only [zg] at hc<;>first | exact absurd rfl hc | (exfalso;first | exact absurd rfl hc) | skip) | skip)) | (refine And.intro ze ?_) | (apply And.intro) | (intro s hs;(have q : V = s:=Ys hs (ZE ZS _) hV;clear hs;subst q)) | (refine Exists.intro _ (And.intro ⟨rfl,rfl,rfl⟩ ?_)))
 . exact λ_ _=>⟨rfl,qG _⟩
 . exact Eq.mpr (congrArg LHp (ZE ZS _)) hL
 . exact YC (hV0 ‹_›)
 . exact YC (hI0 ‹_›)
 . exact YC (hD0 (by omega))
 rename_i hi;have h2:=h1 ‹_› hi (by omega);clear h1 hV0 hI0 hD0;refine zK (wd:=1) (by decide) zM (zb zt) zN ?_;repeat' (first | (apply And.intro<;>intro hc<;>(first | exact Bool.noConfusion hc | (exfalso;first | exact absurd rfl hc) | (simp only [zg] at hc<;>first | exact absurd rfl hc | (exfalso;first | exact absurd rfl hc) | skip) | skip)) | (refine And.intro ze ?_) | (apply And.intro) | (intro s hs;(have q : B = s:=hB.symm.trans hs.symm;clear hs;subst q)) | (refine Exists.intro _ (And.intro ⟨rfl,rfl,rfl⟩ ?_)))
 . exact YC (h2.trans (if_pos (.inl (hB.trans ‹_›))))
 . exact YC (h2.trans (if_pos (.inr (.inl ‹_›))))
 . exact YC (h2.trans (if_pos (.inr (.inr hc))))
 rename_i hn;have h3:=h2.trans (if_neg (by rw [hB,show B = true by assumption];simp;omega));clear h2;have hVt : ZC L = true:=hV.trans ‹_›;have hl8:=Zp hVt;have hc8:=vl_c8 hVt;refine zK (wd:=1) (by decide) zM (zb zt) zN ?_;repeat' (first | (apply And.intro<;>intro hc<;>(first | exact Bool.noConfusion hc | (exfalso;first | exact absurd rfl hc | omega) | (simp only [zg] at hc<;>first | exact absurd rfl hc | (exfalso;first | exact absurd rfl hc | omega) | skip) | skip)) | (refine And.intro ze ?_) | (apply And.intro) | (intro s hs;(have q:=YU hs (toNI L) hF;clear hs;subst q)) | (refine Exists.intro _ (And.intro ⟨rfl,rfl,rfl⟩ ?_)))
 . show (Yt neI L.length (zo ZF L)).length <= 9223372036854775807;rw [QG];omega
 . have hu : (Zq c.id L 0).2 = false:=by
    cases hu : (Zq c.id L 0).2 with
    | false=>rfl
    | true=>have:=zFf hVt hu;omega
   exact YC (h3.trans (if_pos ⟨hu,by omega⟩))
 . have h4:=h3.trans (if_neg (by omega));clear h3;have hAcc:=zEY (c:=c) hVt (by omega) ⟨by omega,by omega⟩ (.inr (by omega));obtain ⟨a1,a2,a3⟩:=hAcc;have hI : AcR (Qm c L) (Zq c.id L 0).1 now c draw:=⟨a2,by have:=Zp a1;omega,(qk a1 _ (zj a2)).2,⟨by omega,by omega⟩,by omega,zCS (hB.trans ‹_›),hdr,zFl a1 a2 a3⟩;change Sem _ _ _ _ _ _ _ _;refine Zf (wd:=9) (by decide) zM (zb zt) (zT zt) zN (SFr L now c deaf draw) (by intro _;rfl) ?_ λ_=>zFg L now c deaf draw hVt (λ_=>by omega) ⟨by omega,by omega⟩ R (zFh (Qm c L) (Zq c.id L 0).1 now c deaf draw hI R h4);clear hI a1 a2 a3 h4 hF;repeat' (first | (apply And.intro<;>intro hc<;>(first | exact Bool.noConfusion hc | (exfalso;first | exact absurd rfl hc) | (simp only [zg] at hc<;>first | exact absurd rfl hc | (exfalso;first | exact absurd rfl hc) | skip) | skip)) | (refine And.intro ze ?_) | (apply And.intro) | (intro s hs;(have q : L = s:=(hs.trans (ZE ZS _)).symm;clear hs;subst q)) | (refine Exists.intro _ (And.intro ⟨rfl,rfl,rfl⟩ ?_)))
   . exact λ_ _=>⟨rfl,qG _⟩
   . exact Eq.mpr (congrArg Cl8 (ZE ZS _)) hc8
   conv=>whnf
   exact ⟨(),[(1,some 50),(2,some 51),(3,some 52),(4,some 53),(5,some 54),(6,some 55),(7,some 56),(8,some 57),(9,some 58)],rfl,⟨zA rfl,zG rfl,zA rfl,zH rfl,zE (zD rfl rfl),trivial⟩,⟨⟨rfl,zI λj hj=>(Zr.sh _ j hj).le⟩,⟨rfl,⟨rfl,rfl,rfl,rfl,λp hp j hj=>qo hj (qF (P:=λp=>Wc.src _ (2 + p) = some (51 + p)) rfl rfl rfl rfl rfl rfl rfl rfl p (Nat.lt_of_lt_of_le hp (Zp hVt)))⟩⟩,⟨rfl,zB⟩,⟨rfl,zB⟩,⟨rfl,zB⟩,⟨rfl,zB⟩,⟨rfl,zB⟩,⟨rfl,zB⟩,⟨rfl,zB⟩,⟨rfl,zB⟩,trivial⟩⟩
 . have hu : (Zq c.id L 0).2 = true:=by
    cases hu : (Zq c.id L 0).2 with
    | true=>rfl
    | false=>have:=fndR_no hVt hu;omega
   have h4:=h3.trans (if_neg (by rw [hu];simp));clear h3;have hAcc:=zEY (c:=c) hVt (by omega) ⟨by omega,by omega⟩ (.inl hu);obtain ⟨a1,a2,a3⟩:=hAcc;have hI : AcR (Qm c L) (Zq c.id L 0).1 now c draw:=⟨a2,by have:=Zp a1;omega,(qk a1 _ (zj a2)).2,⟨by omega,by omega⟩,by omega,zCS (hB.trans ‹_›),hdr,zFl a1 a2 a3⟩;change Sem _ _ _ _ _ _ _ _;refine Zf (wd:=9) (by decide) zM (zb zt) (zT zt) zN (SFr L now c deaf draw) (by intro _;rfl) ?_ λ_=>zFg L now c deaf draw hVt (λh=>by rw [hu] at h;cases h) ⟨by omega,by omega⟩ R (zFh (Qm c L) (Zq c.id L 0).1 now c deaf draw hI R h4);clear hI a1 a2 a3 h4 hF;repeat' (first | (apply And.intro<;>intro hc<;>(first | exact Bool.noConfusion hc | (exfalso;first | exact absurd rfl hc) | (simp only [zg] at hc<;>first | exact absurd rfl hc | (exfalso;first | exact absurd rfl hc) | skip) | skip)) | (refine And.intro ze ?_) | (apply And.intro) | (intro s hs;(have q : L = s:=(hs.trans (ZE ZS _)).symm;clear hs;subst q)) | (refine Exists.intro _ (And.intro ⟨rfl,rfl,rfl⟩ ?_)))
   . exact λ_ _=>⟨rfl,qG _⟩
   . exact Eq.mpr (congrArg Cl8 (ZE ZS _)) hc8
   conv=>whnf
   exact ⟨(),[(1,some 50),(2,some 51),(3,some 52),(4,some 53),(5,some 54),(6,some 55),(7,some 56),(8,some 57),(9,some 58)],rfl,⟨zA rfl,zG rfl,zA rfl,zH rfl,zE (zD rfl rfl),trivial⟩,⟨⟨rfl,zI λj hj=>(Zr.sh _ j hj).le⟩,⟨rfl,⟨rfl,rfl,rfl,rfl,λp hp j hj=>qo hj (qF (P:=λp=>Wc.src _ (2 + p) = some (51 + p)) rfl rfl rfl rfl rfl rfl rfl rfl p (Nat.lt_of_lt_of_le hp (Zp hVt)))⟩⟩,⟨rfl,zB⟩,⟨rfl,zB⟩,⟨rfl,zB⟩,⟨rfl,zB⟩,⟨rfl,zB⟩,⟨rfl,zB⟩,⟨rfl,zB⟩,⟨rfl,zB⟩,trivial⟩⟩
abbrev raccE : Zm:=newE (AC.cons (Yl ZF qA) (AC.cons (cI .i64) (AC.cons (cN Zr) (AC.cons cB (AC.cons (cI .u32) AC.nil))))) (λa=>AccR a.1 a.2.2.1 a.2.2.2.2.1) (λa=>qB a.1 a.2.1 a.2.2.1 a.2.2.2.1 a.2.2.2.2.1) (λs=>some s.1.length) qE (λs=>ZL ZF 78 s.1)
theorem raccE_ok : EntOk Try.prog 39 raccE:=zB5 ⟨_,Try.func39,rfl,by kernel_rfl⟩ (λs l h x hx=>by
 injection h with h;subst h;rcases List.mem_cons.1 hx with rfl | hx
 . exact nfE_c zEe
 . rcases List.mem_cons.1 hx with rfl | hx
   . exact nfE_c zBy
   . cases hx) λa h=>racc1 a.1 a.2.1 a.2.2.1 a.2.2.2.1 a.2.2.2.2.1 h
theorem nff_slBb {L : List Int} : NFF (.e (.c (slR eB L))):=nff_c (nf_sl λi _ j _=>(eB.flat _ _).nf)
structure BytT (n : Nat) (l : List Int) (K : Nat) where
 i : Nat
 L : List Int
 q : Int
 hi : i <= K
 hL : L.length = K
 hb : BL L
 ht : TapeOk n (rI l) q
theorem u8rb (z : Int) : 0 <= IntKind.u8.wrap z /\ IntKind.u8.wrap z < 256:=by
 simp only [IntKind.wrap,IntKind.signed,IntKind.bits];constructor
 . exact Int.emod_nonneg _ (by decide)
 . exact Int.emod_lt_of_pos _ (by decide)
theorem bl_setb {L : List Int} {i : Nat} {v : Int} (h : BL L) (hv : 0 <= v /\ v < 256) : BL (L.set i v):=⟨λx hx=>by
 rcases List.mem_or_eq_of_mem_set hx with h1 | h1
 . exact h.m x h1
 . rw [h1];exact hv⟩
theorem bl_repb (n : Nat) : BL (List.replicate n 0):=⟨λx hx=>by rw [(List.mem_replicate.1 hx).2];omega⟩
theorem leN_setIb {c : Wc} {t : TypeId} {L : List Int} {idx i n : Nat} {x : Int} {g : Nat -> CV} (e : idx = i) (hn : n = L.length) (hi : i < L.length) (hg : g 0 = .int .u8 x) : LeN c ⟨t,n,eB.sz,false,zBr false (qC eB L) idx g⟩ (zBD eB t (L.set i x)):=by
 subst e;refine leN_set hn hi (λi _ j _=>(eB.flat _ _).le) λj hj=>?_;have hj : j < 1:=hj;obtain rfl : j = 0:=by omega
 rw [hg];exact zC rfl
theorem leN_repb {c : Wc} {t : TypeId} {n : Nat} : LeN c ⟨t,n,1,false,λ_=>nth [CV.int .u8 0]⟩ (zBD eB t (List.replicate n 0)):=by
 refine ⟨rfl,by show n = (List.replicate n (0 : Int)).length;rw [List.length_replicate],rfl,rfl,λk hk j hj=>?_⟩;have hk : k < n:=hk;have hj : j < 1:=hj;obtain rfl : j = 0:=by omega
 refine zC ?_;show (0 : Int) = (List.replicate n (0 : Int)).getD k default;simp [List.getD_eq_getElem?_getD,List.getElem?_replicate,hk]
theorem bytesB_ok (n : Nat) (l : List Int) (q m : Int) (ht : TapeOk n (rI l) q) (h1 : 0 <= m) (h2 : m <= 2000) :
 ∃ (r : List Int) (q' : Int),(BL r /\ (r.length : Int) <= m) /\ TapeOk n (rI l) q' /\ YN Try.prog 28 [(cI .i64).enc m] (qa n (rI l) q) (.e (.c (slR eB r))) (qa n (rI l) q'):=by
 have w1 : IntKind.i64.wrap (m + 1) = m + 1:=IntWalk.i64_in _ (by omega);refine Qg (S:=λr=>BL r /\ (r.length : Int) <= m) (enc:=λr=>.e (.c (slR eB r))) (wd:=1) (by decide) zM (zb zE0) zN Try.func28 rfl _ (by show 1 + 1 <= _;decide) (λ_=>nff_slBb) ?_;repeat' (first | (apply And.intro<;>intro hc<;>(first | exact Bool.noConfusion hc | (simp only [zb0] at hc) | skip)) | (refine And.intro ze ?_) | (apply And.intro) | (intro s hs))
 rename_i s1 hs1;have hs1' : 0 <= s1 /\ s1 < IntKind.i64.wrap (m + 1):=hs1;rw [w1] at hs1';refine zQ (zT zE0) (λs : BytT n l s1.toNat=>(⟨[(0,zO (.ptr 0 0 0 false)),(5,zO (.os 6 0 s.L.length)),(6,zO (.int .i64 (s.i : Int)))],
  [(0,some (qa n (rI l) s.q)),(6,some (zBD eB 5 s.L))],7⟩ : Hd)) (λs=>s1.toNat - s.i) (λ_=>rfl) ?_ ⟨0,List.replicate s1.toNat 0,_,by omega,by simp,bl_repb _,hs⟩ [] ?_
 . rintro ⟨i,L,q2,hi,hL,hb,ht2⟩;dsimp only at hi hL hb ht2 ⊢;repeat' (first | (apply And.intro<;>intro hc<;>(first | exact Bool.noConfusion hc | (simp only [zb0] at hc) | skip)) | (refine And.intro ze ?_) | (apply And.intro) | (intro s hs))
   . rename_i s2 hs2;refine ⟨⟨i + 1,L.set i (IntKind.u8.wrap s2),_,by omega,by rw [List.length_set];exact hL,bl_setb hb (u8rb _),hs⟩,[],by dsimp only;omega,rfl,?_,?_⟩
     . repeat' (first | exact zw0 | refine zA ?_ | refine zG ?_ | exact zw1 | apply And.intro)
       . exact zE (zD rfl (by dsimp only;rw [List.length_set]))
       . refine (IntWalk.i64_in _ ?_).trans ?_
         . constructor<;>omega
         . dsimp only;omega
     . repeat' (first | exact zw0 | refine zA ?_ | refine zG ?_ | exact zw1 | apply And.intro)
       . exact Zv
       . exact leN_setIb (by omega) rfl (by omega) rfl
   . exact ⟨(L,q2),⟨⟨hb,(show (L.length : Int) <= m by omega)⟩,ht2⟩,⟨zE (zFB rfl rfl),Zv⟩⟩
 . refine ⟨rfl,?_,?_⟩
   . repeat' (first | exact zw0 | refine zA ?_ | refine zG ?_ | exact zw1 | apply And.intro)
     exact zE (zD rfl (by simp))
   . repeat' (first | exact zw0 | refine zA ?_ | refine zG ?_ | exact zw1 | apply And.intro)
     . exact Zv
     . exact leN_repb
abbrev bytesBE : Zm:=zAv (AC.cons (cI .i64) AC.nil) (λa=>0 <= a.1 /\ a.1 <= 2000) (λa (r : List Int)=>BL r /\ (r.length : Int) <= a.1) (λr=>.e (.c (slR eB r)))
theorem zGD : EntOk Try.prog 28 bytesBE:=YI ⟨_,Try.func28,rfl,by kernel_rfl⟩ λn l q a ht hp=>bytesB_ok n l q a.1 ht hp.1 hp.2
structure CasM (c : Cas) : Prop where
 i : 0 < c.id
 n : 10 <= c.num /\ c.num < 60
 d : c.data.length <= 5
theorem nff_cas {c : Cas} : NFF ((cN Zr).enc c):=by
 rintro r r' X W w v ⟨cs,rfl,c1,c2⟩;refine ⟨cs,rfl,c1,λi u hu=>?_⟩;have hi : i < Zr.sz:=by rw [<- c1];exact (Array.getElem?_eq_some_iff.1 hu).1
 exact (Zr.sh c i hi).nf _ _ _ _ _ _ (c2 i u hu)
theorem nff_sds {L : List Sed} : NFF (.e (.c (slN ZF L))):=nff_c (nf_sl λi _ j hj=>(ZF.sh _ j hj).nf)
theorem u32okt (x : Int) : ZM (IntKind.u32.wrap x):=by unfold ZM;rw [IntKind.wrap_u32'];omega
theorem eui_ok (n : Nat) (l : List Int) (q : Int) (ht : TapeOk n (rI l) q) :
 ∃ (r q' : Int),(1 <= r /\ r <= 5) /\ TapeOk n (rI l) q' /\ YN Try.prog 42 [] (qa n (rI l) q) ((cI .u64).enc r) (qa n (rI l) q'):=by
 refine Qg (wd:=1) (by decide) zM (zb zB1) zN Try.func42 rfl _ (by show 0 + 1 <= _;decide) (λ_=>zDM) ?_;repeat' (first | (apply And.intro<;>intro hc<;>(first | exact Bool.noConfusion hc | (simp only [zb0] at hc) | skip)) | (refine And.intro ze ?_) | (apply And.intro) | (intro s hs))
 rename_i r hr;have hr' : 0 <= r /\ r < 5:=hr;exact ⟨(1 + r,_),⟨⟨by omega,by omega⟩,by assumption⟩,⟨zA (by rw [IntWalk.i64_in (1 + r) (by omega),IntWalk.u64_in (1 + r) (by omega)]),Zv⟩⟩
abbrev euiE : Zm:=zAv AC.nil (λ_=>True) (λa (r : Int)=>1 <= r /\ r <= 5) (cI .u64).enc
def LMu : CsL:=(42,some euiE) :: (28,some bytesBE) :: LTb
theorem LMu_ok : qU Try.prog LMu:=⟨YI ⟨_,Try.func42,rfl,by kernel_rfl⟩ λn l q a ht hp=>eui_ok n l q ht,zGD,zB1⟩
theorem mcast_ok (n : Nat) (l : List Int) (q : Int) (ht : TapeOk n (rI l) q) :
 ∃ (r : Cas) (q' : Int),CasM r /\ TapeOk n (rI l) q' /\ YN Try.prog 18 [] (qa n (rI l) q) ((cN Zr).enc r) (qa n (rI l) q'):=by
 refine Qg (wd:=1) (by decide) zM (zb LMu_ok) zN Try.func18 rfl _ (by show 0 + 1 <= _;decide) (λ_=>nff_cas) ?_;repeat' (first | (apply And.intro<;>intro hc<;>(first | exact Bool.noConfusion hc | (simp only [zb0] at hc) | skip)) | (refine And.intro ze ?_) | (apply And.intro) | (intro s hs))
 rename_i x hx q1 hq1 y hy q2 hq2 b hb;have hx' : 1 <= x /\ x <= 5:=hx;have hy' : 0 <= y /\ y < 50:=hy;have hb' : BL b /\ (b.length : Int) <= 5:=hb;have w1 : IntKind.i64.wrap (10 + y) = 10 + y:=IntWalk.i64_in _ (by omega);refine ⟨(⟨x,10 + y,b⟩,_),⟨⟨by dsimp only;omega,by dsimp only;omega,by dsimp only;omega⟩,hs⟩,⟨QL (zEf (m:=3) rfl λj hj=>?_),Zv⟩⟩;have hj : j < 3:=hj;rcases j with _ | _ | _ | j
 . exact zC rfl
 . exact zC w1
 . exact (Zr.sh ⟨x,10 + y,b⟩ 2 (by decide)).le
 . omega
abbrev mcastE : Zm:=zAv AC.nil (λ_=>True) (λa (r : Cas)=>CasM r) (cN Zr).enc
theorem cas_i {c : Cas} (h : CasM c) : 0 <= c.id:=by have:=h.i;omega
theorem vl_hp {L : List Sed} (h : ZC L = true) : LHp L:=⟨vl_hn h,λx hx=>by have:=(qk h x hx).1;omega⟩
theorem acc_okv {s : List Sed × Bool × Int} {M L : List Sed} {now : Int} {c' c : Cas} {deaf : Bool} {draw : Int} (hs : s = qB M now c' deaf draw) (hM : M = L) (hc : c' = c) (hi : 0 <= c.id) (he : s.2.2 = 0) : ZC s.1 = true:=by
 subst hM hc;rw [hs] at he ⊢;exact zBw hi he
theorem give_St {c : Wc} {k : Nat} {t : TypeId} {x : List Sed} {n : Nat} (hn : n = x.length) (hd : zU c.H k = some (ZL ZF t x)) (hk : c.dead k = true) : ZX c (.os k 0 n) (slN ZF x):=by
 subst hn;refine zy hd hk rfl rfl (Nat.le_of_eq (Nat.zero_add _)) λq hq j hj=>?_;show ZX c (zo ZF x (0 + q) j) (zo ZF x q j);rw [Nat.zero_add];exact (ZF.sh _ j hj).le
structure SdsS (n : Nat) (l : List Int) where
 k : Nat
 L : List Sed
 q : Int
 hk : k <= 9
 h : ZC L = true
 ht : TapeOk n (rI l) q
def LMv : CsL:=(18,some mcastE) :: (17,some wtimeE) :: (39,some raccE) :: LTb
theorem LMv_ok : qU Try.prog LMv:=⟨YI ⟨_,Try.func18,rfl,by kernel_rfl⟩ λn l q a ht hp=>mcast_ok n l q ht,YI ⟨_,Try.func17,rfl,by kernel_rfl⟩ λn l q a ht hp=>time_ok n l q a.1 ht hp,raccE_ok,zB1⟩
theorem seeds_ok (n : Nat) (l : List Int) (q now : Int) (ht : TapeOk n (rI l) q) (hnow : 0 <= now /\ now <= 1099511627776) :
 ∃ (r : List Sed) (q' : Int),ZC r = true /\ TapeOk n (rI l) q' /\ YN Try.prog 15 [(cI .i64).enc now] (qa n (rI l) q) (.e (.c (slN ZF r))) (qa n (rI l) q'):=by
 refine Qg (enc:=λr=>.e (.c (slN ZF r))) (wd:=1) (by decide) zM (zb LMv_ok) zN Try.func15 rfl _ (by show 1 + 1 <= _;decide) (λ_=>nff_sds) ?_;repeat' (first | (apply And.intro<;>intro hc<;>(first | exact Bool.noConfusion hc | (simp only [zb0] at hc) | skip)) | (refine And.intro ze ?_) | (apply And.intro) | (intro s hs))
 rename_i k0 hk0;have hk0' : 0 <= k0 /\ k0 < 10:=hk0;refine zQ (zT LMv_ok) (λs : SdsS n l=>(⟨[(0,zO (.ptr 0 0 0 false)),(1,zO (.int .i64 now)),(5,zO (slN ZF s.L)),(6,zO (.int .i64 (s.k : Int)))],
  [(0,some (qa n (rI l) s.q))],1⟩ : Hd)) (λs=>s.k) (λ_=>rfl) ?_ ⟨k0.toNat,[],_,by omega,rfl,hs⟩ [] ⟨rfl,⟨zH rfl,zA rfl,zE (qj rfl),zA (by dsimp only;omega),trivial⟩,⟨⟨rfl,Zv⟩,trivial⟩⟩
 rintro ⟨k,L,q1,hk,hL,ht1⟩;dsimp only at hk hL ht1 ⊢;by_cases hk0 : 0 < k
 . repeat' (first | (apply And.intro<;>intro hc<;>(first | exact Bool.noConfusion hc | (exfalso;first | exact absurd rfl hc | omega) | (simp only [zg] at hc<;>first | exact absurd rfl hc | (exfalso;first | exact absurd rfl hc | omega) | skip) | skip)) | (refine And.intro ze ?_) | (apply And.intro) | (intro s hs;skip))
   . exact ⟨rfl,qG _⟩
   . exact ⟨rfl,zl _⟩
   . exact ⟨Eq.mpr (congrArg LHp (ZE ZS _)) (vl_hp hL),Eq.mpr (congrArg (λz : Cas=>0 <= z.id) (zEb _)) (cas_i ‹_›),u32okt _⟩
   . have hv:=acc_okv hs (ZE ZS _) (zEb _) (cas_i ‹_›) hc;conv=>whnf
     exact ⟨⟨k - 1,s.1,_,by omega,hv,by assumption⟩,[],by dsimp only;omega,rfl,⟨zH rfl,zA rfl,zE (give_St rfl rfl rfl),zA ((IntWalk.i64_in _ (by omega)).trans (by dsimp only;omega)),trivial⟩,⟨⟨rfl,Zv⟩,trivial⟩⟩
   . conv=>whnf
     exact ⟨⟨k - 1,L,_,by omega,hL,by assumption⟩,[],by dsimp only;omega,rfl,⟨zH rfl,zA rfl,zE (qO _).le,zA ((IntWalk.i64_in _ (by omega)).trans (by dsimp only;omega)),trivial⟩,⟨⟨rfl,Zv⟩,trivial⟩⟩
 . obtain rfl : k = 0:=by omega
   repeat' (first | (apply And.intro<;>intro hc<;>(first | exact Bool.noConfusion hc | (exfalso;first | exact absurd rfl hc | omega) | (simp only [zg] at hc<;>first | exact absurd rfl hc | (exfalso;first | exact absurd rfl hc | omega) | skip) | skip)) | (refine And.intro ze ?_) | (apply And.intro) | (intro s hs;skip))
   conv=>whnf
   exact ⟨(L,_),⟨hL,ht1⟩,⟨zE (qO _).le,Zv⟩⟩
abbrev seedsE : Zm:=zAv (AC.cons (cI .i64) AC.nil) (λa=>0 <= a.1 /\ a.1 <= 1099511627776) (λa (r : List Sed)=>ZC r = true) (λr=>.e (.c (slN ZF r)))
structure TrkS (n : Nat) (l : List Int) where
 k : Int
 x : Trk
 q : Int
 hk : 0 <= k /\ k <= 4
 hx : ZQ x = true
 ht : TapeOk n (rI l) q
theorem zGE (n : Nat) (l : List Int) (q b : Int) (ht : TapeOk n (rI l) q) (hb : 0 <= b /\ b <= 1099511627776) :
 ∃ (r : Trk) (q' : Int),ZQ r = true /\ TapeOk n (rI l) q' /\ YN Try.prog 44 [(cI .i64).enc b] (qa n (rI l) q) ((cE eTk).enc r) (qa n (rI l) q'):=by
 refine Qg (enc:=(cE eTk).enc) (wd:=1) (by decide) zM (zb zCn) zN Try.func44 rfl _ (by show 1 + 1 <= _;decide) (λr=>nff_elem eTk r) ?_;repeat' (first | (apply And.intro<;>intro hc<;>(first | exact Bool.noConfusion hc | (simp only [zb0] at hc) | skip)) | (refine And.intro ze ?_) | (apply And.intro) | (intro s hs))
 all_goals first
  | assumption
  | exact hb.1
  | exact hb.2
  | exact (zCO _).1
  | exact (zCO _).2
  | skip
 rename_i v1 hv1 q1 hq1 v2 hv2 q2 hq2 v3 hv3 q3 hq3 v4 hv4 q4 hq4 v5 hv5 q5 hq5 s0 hs0 v6 hv6;have hv1' : 0 <= v1 /\ v1 < 9:=hv1;have hv2' : 0 <= v2 /\ v2 < 5:=hv2;have hv3' : 0 <= v3 /\ v3 < 4:=hv3;have hv4' : 0 <= v4 /\ v4 <= 1099511627776:=hv4;have hv6' : 0 <= v6 /\ v6 < 5:=hv6;have hsv : ZQ s0.1 = true:=by
  have e : s0 = zAB (IntKind.i64.wrap (2 + v1)) v2 v3 v4 (IntKind.u32.wrap v5):=hs0;rw [e,IntWalk.i64_in (2 + v1) (by omega)];exact zEP (Qt.2 (by omega)) hv4'
 clear hs0;refine zQ (zT zCn) (λs : TrkS n l=>(⟨[(0,zO (.ptr 0 0 0 false)),(4,zO (.ptr 1 0 0 false)),(5,zO (.ptr 19 0 0 false)),(7,zO (.int .i64 s.k))],
  [(0,some (qa n (rI l) s.q)),(1,some ⟨82,1,8,true,λ_=>eTk.cell YJ⟩),(19,some ⟨82,1,8,true,λ_=>eTk.cell s.x⟩)],20⟩ : Hd)) (λs=>s.k.toNat) (λ_=>rfl) ?_ ⟨v6,s0.1,s,by omega,hsv,hs⟩ [] ?_
 . rintro ⟨k,x,q,hk,hx,ht⟩;dsimp only;have hxn:=QA hx;have w1 : IntKind.i64.wrap (x.start + x.len) = x.start + x.len:=IntWalk.i64_in _ (by omega);repeat' (first | (apply And.intro<;>intro hc<;>(first | exact Bool.noConfusion hc | (simp only [zb0] at hc) | skip)) | (refine And.intro ze ?_) | (apply And.intro) | (intro s hs))
   all_goals first
    | exact (zCO _).1
    | exact (zCO _).2
    | skip
   . rename_i y1 hy1 p1 hp1 y2 hy2 p2 hp2;have hy1' : 0 <= y1 /\ y1 < 2:=hy1;have w2 : IntKind.i64.wrap (x.start + x.len - y1) = x.start + x.len - y1:=IntWalk.i64_in _ (by omega);have hzv : ZQ s.1 = true:=by
      have e : s = qK x (if IntKind.i64.wrap (IntKind.i64.wrap (x.start + x.len) - y1) < 1099511627776 then IntKind.i64.wrap (IntKind.i64.wrap (x.start + x.len) - y1) else 1099511627776) (IntKind.u32.wrap y2):=hs;rw [e,w1,w2];refine zDo hx ?_ ?_
      . split<;>omega
      . split<;>omega
     refine ⟨⟨k - 1,s.1,p2,by omega,hzv,by assumption⟩,[],by dsimp only<;>omega,rfl,?_,?_⟩
     . repeat' (first | exact zw0 | refine zA ?_ | refine zG ?_ | exact zw1 | apply And.intro)
       exact IntWalk.i64_in _ (by omega)
     . repeat' (first | exact zw0 | refine zA ?_ | refine zG ?_ | exact zw1 | apply And.intro)
       all_goals first
        | exact Zv
        | (change LeN _ _ _;refine zA3 ?_;repeat' (first | exact zw2 | refine Zk ?_ | exact zS ‹_› | apply And.intro))
   . rename_i y1 hy1;refine ⟨({ x with heard:=y1 },_),⟨zFT hx hy1,by assumption⟩,⟨QL (Zk ?_),Zv⟩⟩;repeat' (first | exact zw2 | refine Zk ?_ | exact zS ‹_› | apply And.intro)
 . refine ⟨rfl,?_,?_⟩
   . exact zwf
   . repeat' (first | exact zw0 | refine zA ?_ | refine zG ?_ | exact zw1 | apply And.intro)
     . exact Zv
     all_goals (change LeN _ _ _;refine zA3 ?_;repeat' (first | exact zw2 | refine Zk ?_ | exact zS ‹_› | apply And.intro))
abbrev trickleE : Zm:=zAv (AC.cons (cI .i64) AC.nil) (λa=>0 <= a.1 /\ a.1 <= 1099511627776) (λa (r : Trk)=>ZQ r = true) (cE eTk).enc
def LSo : CsL:=(43,some zE7) :: (44,some trickleE) :: LTb
theorem LSo_ok : qU Try.prog LSo:=⟨zCq,YI ⟨_,Try.func44,rfl,by kernel_rfl⟩ λn l q a ht hp=>zGE n l q a.1 ht hp,zB1⟩
theorem zAg {L : List Sed} {y : Sed} (h : ZC L = true) (h0 : 0 <= y.id) (hh : y.held.length <= 9223372036854775807) : LHp (L ++ [y]):=by
 have h8:=Zp h;have hp:=vl_hp h;refine ⟨⟨λx hx=>?_,by rw [List.length_append];show L.length + 1 <= _;omega⟩,λx hx=>?_⟩
 . rcases List.mem_append.1 hx with g | g
   . exact hp.h.h x g
   . rw [List.mem_singleton.1 g];exact hh
 . rcases List.mem_append.1 hx with g | g
   . exact hp.i x g
   . rw [List.mem_singleton.1 g];exact h0
theorem zAh {c : Wc} {k m : Nat} {t : TypeId} {L : List Sed} {y : Sed} {v : Bool} {f : Nat -> Nat -> CV} (hm : L.length = m) (hk : zU c.H k = some ⟨t,m + 1,3,v,f⟩) (hd : c.dead k = true) (h1 : ∀ p,p < m -> ∀ j,j < 3 -> ZX c (f p j) (zo ZF L p j)) (h2 : ∀ j,j < 3 -> ZX c (f m j) (ZF.cell y j)) : ZX c (.os k 0 (m + 1)) (slN ZF (L ++ [y])):=by
 subst hm;have hl : (L ++ [y]).length = L.length + 1:=by rw [List.length_append];rfl
 refine zy hk hd rfl hl.symm (Nat.le_of_eq (Nat.zero_add _)) λq hq j hj=>?_;have hj : j < 3:=hj;have hq : q < L.length + 1:=by omega
 show ZX c (f (0 + q) j) (zo ZF (L ++ [y]) q j);rw [Nat.zero_add];by_cases h : q < L.length
 . rw [show zo ZF (L ++ [y]) q j = zo ZF L q j from congrArg (λz=>ZF.cell z j) (by rw [List.getD_eq_getElem?_getD,List.getElem?_append_left h,<- List.getD_eq_getElem?_getD])];exact h1 q h j hj
 . obtain rfl : q = L.length:=by omega
   rw [show zo ZF (L ++ [y]) L.length j = ZF.cell y j from congrArg (λz=>ZF.cell z j) (by simp [List.getD_eq_getElem?_getD])];exact h2 j hj
theorem zAa {c : Wc} {k : Nat} {t : TypeId} {v : Bool} {h : Hel} {f : Nat -> Nat -> CV} (hk : zU c.H k = some ⟨t,1,11,v,f⟩) (hd : c.dead k = true) (h1 : ∀ j,j < 11 -> ZX c (f 0 j) (zn.cell h j)) : ZX c (.os k 0 1) (slN zn [h]):=by
 refine zy hk hd rfl rfl (Nat.le_refl _) λq hq j hj=>?_;obtain rfl : q = 0:=by omega
 exact h1 j hj
theorem held2_le {c : Wc} {k : Nat} {t : TypeId} {v : Bool} {h h' : Hel} {f : Nat -> Nat -> CV} (hk : zU c.H k = some ⟨t,2,11,v,f⟩) (hd : c.dead k = true) (h1 : ∀ j,j < 11 -> ZX c (f 0 j) (zn.cell h j)) (h2 : ∀ j,j < 11 -> ZX c (f 1 j) (zn.cell h' j)) : ZX c (.os k 0 2) (slN zn [h,h']):=by
 refine zy hk hd rfl rfl (Nat.le_refl _) λq hq j hj=>?_;rcases (show q = 0 \/ q = 1 by omega) with rfl | rfl
 . exact h1 j hj
 . exact h2 j hj
theorem zFd {α : Type} [Inhabited α] {E : NElem α} (hE : ∀ a,E.rd (E.cell a) = a) {l : List α} {k : Nat} (h : l.length = k) : Yt E k (zo E l) = l:=by
 subst h;exact ZE hE l
theorem Yg {c : Wc} {k : Nat} {t : TypeId} {v : Bool} (hk : zU c.H k = some ⟨t,65,1,v,λ_=>nth [CV.int .u8 0]⟩) (hd : c.dead k = true) : ZX c (.os k 0 65) (slR eB (List.replicate 65 0)):=by
 refine zy hk hd rfl (by rw [List.length_replicate]) (Nat.le_refl _) λq hq j hj=>?_;have hj : j < 1:=hj;obtain rfl : j = 0:=by omega
 refine zC ?_;show (0 : Int) = (List.replicate 65 (0 : Int)).getD q default;rw [List.getD_eq_getElem?_getD,List.getElem?_replicate];split<;>rfl
theorem spoilS_ok (n : Nat) (l : List Int) (q : Int) (L : List Sed) (ht : TapeOk n (rI l) q) (hL : ZC L = true) :
 ∃ (r : List Sed) (q' : Int),LHp r /\ TapeOk n (rI l) q' /\ YN Try.prog 20 [(Yl ZF qA).enc L] (qa n (rI l) q) (.e (.c (slN ZF r))) (qa n (rI l) q'):=by
 have hc8:=vl_c8 hL;have h8:=Zp hL;refine Qg (enc:=λr=>.e (.c (slN ZF r))) (wd:=9) (by decide) zM (zb LSo_ok) zN Try.func20 rfl _ (by show 1 + 1 <= _;decide) (λ_=>nff_sds) ?_;rcases (show L.length = 0 \/ L.length = 1 \/ L.length = 2 \/ L.length = 3 \/ L.length = 4 \/ L.length = 5 \/ L.length = 6 \/ L.length = 7 \/ L.length = 8 by omega) with hK | hK | hK | hK | hK | hK | hK | hK | hK;all_goals
  have wL : IntKind.i64.wrap (((L.length + 1 : Nat) : Int) - 1) = (L.length : Int):=(IntWalk.i64_in _ (by omega)).trans (by omega);rw [hK] at wL;repeat' (first | (simp only [hK,wL]) | (apply And.intro<;>intro hc<;>(first | exact Bool.noConfusion hc | (exfalso;first | exact absurd rfl hc | omega) | (simp only [zg] at hc<;>first | exact absurd rfl hc | (exfalso;first | exact absurd rfl hc | omega) | skip) | skip)) | (refine And.intro ze ?_) | (apply And.intro) | (intro s hs;(first | (have q : L = s:=(hs.trans (zFd ZS hK)).symm;clear hs;subst q) | skip)))
  all_goals try first
   | exact ⟨rfl,qG _⟩
   | exact λ_ _=>⟨rfl,qG _⟩
   | exact Eq.mpr (congrArg Cl8 (zFd ZS hK)) hc8
   | exact Eq.mpr (congrArg Cl8 (ZE ZS _)) hc8
  . rename_i T hT q1 hq1 v hv;conv=>whnf
    refine ⟨(L ++ [⟨0,3,[⟨4,[],T,0⟩]⟩],_),⟨zAg hL (by dsimp only;omega) (Nat.le_of_ble_eq_true rfl),hs⟩,⟨zE (zAh hK rfl rfl (λp hp j hj=>?_) (λj hj=>?_)),Zv⟩⟩
    . rcases (show p = 0 \/ p = 1 \/ p = 2 \/ p = 3 \/ p = 4 \/ p = 5 \/ p = 6 \/ p = 7 by omega) with rfl | rfl | rfl | rfl | rfl | rfl | rfl | rfl
      . first | exact absurd hp (by decide) | (rcases j with _ | _ | _ | j<;>first | exact zC rfl | exact zd (L:=L) (p:=0) rfl rfl | exact absurd hj (by omega))
      . first | exact absurd hp (by decide) | (rcases j with _ | _ | _ | j<;>first | exact zC rfl | exact zd (L:=L) (p:=1) rfl rfl | exact absurd hj (by omega))
      . first | exact absurd hp (by decide) | (rcases j with _ | _ | _ | j<;>first | exact zC rfl | exact zd (L:=L) (p:=2) rfl rfl | exact absurd hj (by omega))
      . first | exact absurd hp (by decide) | (rcases j with _ | _ | _ | j<;>first | exact zC rfl | exact zd (L:=L) (p:=3) rfl rfl | exact absurd hj (by omega))
      . first | exact absurd hp (by decide) | (rcases j with _ | _ | _ | j<;>first | exact zC rfl | exact zd (L:=L) (p:=4) rfl rfl | exact absurd hj (by omega))
      . first | exact absurd hp (by decide) | (rcases j with _ | _ | _ | j<;>first | exact zC rfl | exact zd (L:=L) (p:=5) rfl rfl | exact absurd hj (by omega))
      . first | exact absurd hp (by decide) | (rcases j with _ | _ | _ | j<;>first | exact zC rfl | exact zd (L:=L) (p:=6) rfl rfl | exact absurd hj (by omega))
      . first | exact absurd hp (by decide) | (rcases j with _ | _ | _ | j<;>first | exact zC rfl | exact zd (L:=L) (p:=7) rfl rfl | exact absurd hj (by omega))
    . rcases j with _ | _ | _ | j
      . exact zC rfl
      . exact zC rfl
      . refine zAa rfl rfl λj hj=>?_;iterate 11 (rcases j with _ | j;· first | exact zC rfl | exact zS rfl | exact qj rfl | exact Yg rfl rfl)
        exact absurd hj (by omega)
      . exact absurd hj (by omega)
  . rename_i T hT q1 hq1 v hv c0;conv=>whnf
    refine ⟨(L ++ [⟨99,-1,[⟨4,[],T,0⟩]⟩],_),⟨zAg hL (by dsimp only;omega) (Nat.le_of_ble_eq_true rfl),hs⟩,⟨zE (zAh hK rfl rfl (λp hp j hj=>?_) (λj hj=>?_)),Zv⟩⟩
    . rcases (show p = 0 \/ p = 1 \/ p = 2 \/ p = 3 \/ p = 4 \/ p = 5 \/ p = 6 \/ p = 7 by omega) with rfl | rfl | rfl | rfl | rfl | rfl | rfl | rfl
      . first | exact absurd hp (by decide) | (rcases j with _ | _ | _ | j<;>first | exact zC rfl | exact zd (L:=L) (p:=0) rfl rfl | exact absurd hj (by omega))
      . first | exact absurd hp (by decide) | (rcases j with _ | _ | _ | j<;>first | exact zC rfl | exact zd (L:=L) (p:=1) rfl rfl | exact absurd hj (by omega))
      . first | exact absurd hp (by decide) | (rcases j with _ | _ | _ | j<;>first | exact zC rfl | exact zd (L:=L) (p:=2) rfl rfl | exact absurd hj (by omega))
      . first | exact absurd hp (by decide) | (rcases j with _ | _ | _ | j<;>first | exact zC rfl | exact zd (L:=L) (p:=3) rfl rfl | exact absurd hj (by omega))
      . first | exact absurd hp (by decide) | (rcases j with _ | _ | _ | j<;>first | exact zC rfl | exact zd (L:=L) (p:=4) rfl rfl | exact absurd hj (by omega))
      . first | exact absurd hp (by decide) | (rcases j with _ | _ | _ | j<;>first | exact zC rfl | exact zd (L:=L) (p:=5) rfl rfl | exact absurd hj (by omega))
      . first | exact absurd hp (by decide) | (rcases j with _ | _ | _ | j<;>first | exact zC rfl | exact zd (L:=L) (p:=6) rfl rfl | exact absurd hj (by omega))
      . first | exact absurd hp (by decide) | (rcases j with _ | _ | _ | j<;>first | exact zC rfl | exact zd (L:=L) (p:=7) rfl rfl | exact absurd hj (by omega))
    . rcases j with _ | _ | _ | j
      . exact zC rfl
      . exact zC rfl
      . refine zAa rfl rfl λj hj=>?_;iterate 11 (rcases j with _ | j;· first | exact zC rfl | exact zS rfl | exact qj rfl | exact Yg rfl rfl)
        exact absurd hj (by omega)
      . exact absurd hj (by omega)
  . rename_i T hT q1 hq1 v hv c0 c1;conv=>whnf
    refine ⟨(L ++ [⟨99,3,[⟨2,[],T,0⟩]⟩],_),⟨zAg hL (by dsimp only;omega) (Nat.le_of_ble_eq_true rfl),hs⟩,⟨zE (zAh hK rfl rfl (λp hp j hj=>?_) (λj hj=>?_)),Zv⟩⟩
    . rcases (show p = 0 \/ p = 1 \/ p = 2 \/ p = 3 \/ p = 4 \/ p = 5 \/ p = 6 \/ p = 7 by omega) with rfl | rfl | rfl | rfl | rfl | rfl | rfl | rfl
      . first | exact absurd hp (by decide) | (rcases j with _ | _ | _ | j<;>first | exact zC rfl | exact zd (L:=L) (p:=0) rfl rfl | exact absurd hj (by omega))
      . first | exact absurd hp (by decide) | (rcases j with _ | _ | _ | j<;>first | exact zC rfl | exact zd (L:=L) (p:=1) rfl rfl | exact absurd hj (by omega))
      . first | exact absurd hp (by decide) | (rcases j with _ | _ | _ | j<;>first | exact zC rfl | exact zd (L:=L) (p:=2) rfl rfl | exact absurd hj (by omega))
      . first | exact absurd hp (by decide) | (rcases j with _ | _ | _ | j<;>first | exact zC rfl | exact zd (L:=L) (p:=3) rfl rfl | exact absurd hj (by omega))
      . first | exact absurd hp (by decide) | (rcases j with _ | _ | _ | j<;>first | exact zC rfl | exact zd (L:=L) (p:=4) rfl rfl | exact absurd hj (by omega))
      . first | exact absurd hp (by decide) | (rcases j with _ | _ | _ | j<;>first | exact zC rfl | exact zd (L:=L) (p:=5) rfl rfl | exact absurd hj (by omega))
      . first | exact absurd hp (by decide) | (rcases j with _ | _ | _ | j<;>first | exact zC rfl | exact zd (L:=L) (p:=6) rfl rfl | exact absurd hj (by omega))
      . first | exact absurd hp (by decide) | (rcases j with _ | _ | _ | j<;>first | exact zC rfl | exact zd (L:=L) (p:=7) rfl rfl | exact absurd hj (by omega))
    . rcases j with _ | _ | _ | j
      . exact zC rfl
      . exact zC rfl
      . refine zAa rfl rfl λj hj=>?_;iterate 11 (rcases j with _ | j;· first | exact zC rfl | exact zS rfl | exact qj rfl | exact Yg rfl rfl)
        exact absurd hj (by omega)
      . exact absurd hj (by omega)
  . rename_i T hT q1 hq1 v hv c0 c1 c2;conv=>whnf
    refine ⟨(L ++ [⟨99,3,[⟨35,[],T,0⟩]⟩],_),⟨zAg hL (by dsimp only;omega) (Nat.le_of_ble_eq_true rfl),hs⟩,⟨zE (zAh hK rfl rfl (λp hp j hj=>?_) (λj hj=>?_)),Zv⟩⟩
    . rcases (show p = 0 \/ p = 1 \/ p = 2 \/ p = 3 \/ p = 4 \/ p = 5 \/ p = 6 \/ p = 7 by omega) with rfl | rfl | rfl | rfl | rfl | rfl | rfl | rfl
      . first | exact absurd hp (by decide) | (rcases j with _ | _ | _ | j<;>first | exact zC rfl | exact zd (L:=L) (p:=0) rfl rfl | exact absurd hj (by omega))
      . first | exact absurd hp (by decide) | (rcases j with _ | _ | _ | j<;>first | exact zC rfl | exact zd (L:=L) (p:=1) rfl rfl | exact absurd hj (by omega))
      . first | exact absurd hp (by decide) | (rcases j with _ | _ | _ | j<;>first | exact zC rfl | exact zd (L:=L) (p:=2) rfl rfl | exact absurd hj (by omega))
      . first | exact absurd hp (by decide) | (rcases j with _ | _ | _ | j<;>first | exact zC rfl | exact zd (L:=L) (p:=3) rfl rfl | exact absurd hj (by omega))
      . first | exact absurd hp (by decide) | (rcases j with _ | _ | _ | j<;>first | exact zC rfl | exact zd (L:=L) (p:=4) rfl rfl | exact absurd hj (by omega))
      . first | exact absurd hp (by decide) | (rcases j with _ | _ | _ | j<;>first | exact zC rfl | exact zd (L:=L) (p:=5) rfl rfl | exact absurd hj (by omega))
      . first | exact absurd hp (by decide) | (rcases j with _ | _ | _ | j<;>first | exact zC rfl | exact zd (L:=L) (p:=6) rfl rfl | exact absurd hj (by omega))
      . first | exact absurd hp (by decide) | (rcases j with _ | _ | _ | j<;>first | exact zC rfl | exact zd (L:=L) (p:=7) rfl rfl | exact absurd hj (by omega))
    . rcases j with _ | _ | _ | j
      . exact zC rfl
      . exact zC rfl
      . refine zAa rfl rfl λj hj=>?_;iterate 11 (rcases j with _ | j;· first | exact zC rfl | exact zS rfl | exact qj rfl | exact Yg rfl rfl)
        exact absurd hj (by omega)
      . exact absurd hj (by omega)
  . rename_i T hT q1 hq1 v hv c0 c1 c2 c3;conv=>whnf
    refine ⟨(L ++ [⟨99,3,[⟨4,List.replicate 65 0,T,0⟩]⟩],_),⟨zAg hL (by dsimp only;omega) (Nat.le_of_ble_eq_true rfl),hs⟩,⟨zE (zAh hK rfl rfl (λp hp j hj=>?_) (λj hj=>?_)),Zv⟩⟩
    . rcases (show p = 0 \/ p = 1 \/ p = 2 \/ p = 3 \/ p = 4 \/ p = 5 \/ p = 6 \/ p = 7 by omega) with rfl | rfl | rfl | rfl | rfl | rfl | rfl | rfl
      . first | exact absurd hp (by decide) | (rcases j with _ | _ | _ | j<;>first | exact zC rfl | exact zd (L:=L) (p:=0) rfl rfl | exact absurd hj (by omega))
      . first | exact absurd hp (by decide) | (rcases j with _ | _ | _ | j<;>first | exact zC rfl | exact zd (L:=L) (p:=1) rfl rfl | exact absurd hj (by omega))
      . first | exact absurd hp (by decide) | (rcases j with _ | _ | _ | j<;>first | exact zC rfl | exact zd (L:=L) (p:=2) rfl rfl | exact absurd hj (by omega))
      . first | exact absurd hp (by decide) | (rcases j with _ | _ | _ | j<;>first | exact zC rfl | exact zd (L:=L) (p:=3) rfl rfl | exact absurd hj (by omega))
      . first | exact absurd hp (by decide) | (rcases j with _ | _ | _ | j<;>first | exact zC rfl | exact zd (L:=L) (p:=4) rfl rfl | exact absurd hj (by omega))
      . first | exact absurd hp (by decide) | (rcases j with _ | _ | _ | j<;>first | exact zC rfl | exact zd (L:=L) (p:=5) rfl rfl | exact absurd hj (by omega))
      . first | exact absurd hp (by decide) | (rcases j with _ | _ | _ | j<;>first | exact zC rfl | exact zd (L:=L) (p:=6) rfl rfl | exact absurd hj (by omega))
      . first | exact absurd hp (by decide) | (rcases j with _ | _ | _ | j<;>first | exact zC rfl | exact zd (L:=L) (p:=7) rfl rfl | exact absurd hj (by omega))
    . rcases j with _ | _ | _ | j
      . exact zC rfl
      . exact zC rfl
      . refine zAa rfl rfl λj hj=>?_;iterate 11 (rcases j with _ | j;· first | exact zC rfl | exact zS rfl | exact qj rfl | exact Yg rfl rfl)
        exact absurd hj (by omega)
      . exact absurd hj (by omega)
  . rename_i T hT q1 hq1 v hv c0 c1 c2 c3 c4;conv=>whnf
    refine ⟨(L ++ [⟨99,3,[⟨4,[],{ T with len:=1 },0⟩]⟩],_),⟨zAg hL (by dsimp only;omega) (Nat.le_of_ble_eq_true rfl),hs⟩,⟨zE (zAh hK rfl rfl (λp hp j hj=>?_) (λj hj=>?_)),Zv⟩⟩
    . rcases (show p = 0 \/ p = 1 \/ p = 2 \/ p = 3 \/ p = 4 \/ p = 5 \/ p = 6 \/ p = 7 by omega) with rfl | rfl | rfl | rfl | rfl | rfl | rfl | rfl
      . first | exact absurd hp (by decide) | (rcases j with _ | _ | _ | j<;>first | exact zC rfl | exact zd (L:=L) (p:=0) rfl rfl | exact absurd hj (by omega))
      . first | exact absurd hp (by decide) | (rcases j with _ | _ | _ | j<;>first | exact zC rfl | exact zd (L:=L) (p:=1) rfl rfl | exact absurd hj (by omega))
      . first | exact absurd hp (by decide) | (rcases j with _ | _ | _ | j<;>first | exact zC rfl | exact zd (L:=L) (p:=2) rfl rfl | exact absurd hj (by omega))
      . first | exact absurd hp (by decide) | (rcases j with _ | _ | _ | j<;>first | exact zC rfl | exact zd (L:=L) (p:=3) rfl rfl | exact absurd hj (by omega))
      . first | exact absurd hp (by decide) | (rcases j with _ | _ | _ | j<;>first | exact zC rfl | exact zd (L:=L) (p:=4) rfl rfl | exact absurd hj (by omega))
      . first | exact absurd hp (by decide) | (rcases j with _ | _ | _ | j<;>first | exact zC rfl | exact zd (L:=L) (p:=5) rfl rfl | exact absurd hj (by omega))
      . first | exact absurd hp (by decide) | (rcases j with _ | _ | _ | j<;>first | exact zC rfl | exact zd (L:=L) (p:=6) rfl rfl | exact absurd hj (by omega))
      . first | exact absurd hp (by decide) | (rcases j with _ | _ | _ | j<;>first | exact zC rfl | exact zd (L:=L) (p:=7) rfl rfl | exact absurd hj (by omega))
    . rcases j with _ | _ | _ | j
      . exact zC rfl
      . exact zC rfl
      . refine zAa rfl rfl λj hj=>?_;iterate 11 (rcases j with _ | j;· first | exact zC rfl | exact zS rfl | exact qj rfl | exact Yg rfl rfl)
        exact absurd hj (by omega)
      . exact absurd hj (by omega)
  . rename_i T hT q1 hq1 v hv c0 c1 c2 c3 c4 c5;conv=>whnf
    refine ⟨(L ++ [⟨99,3,[⟨4,[],T,-1⟩]⟩],_),⟨zAg hL (by dsimp only;omega) (Nat.le_of_ble_eq_true rfl),hs⟩,⟨zE (zAh hK rfl rfl (λp hp j hj=>?_) (λj hj=>?_)),Zv⟩⟩
    . rcases (show p = 0 \/ p = 1 \/ p = 2 \/ p = 3 \/ p = 4 \/ p = 5 \/ p = 6 \/ p = 7 by omega) with rfl | rfl | rfl | rfl | rfl | rfl | rfl | rfl
      . first | exact absurd hp (by decide) | (rcases j with _ | _ | _ | j<;>first | exact zC rfl | exact zd (L:=L) (p:=0) rfl rfl | exact absurd hj (by omega))
      . first | exact absurd hp (by decide) | (rcases j with _ | _ | _ | j<;>first | exact zC rfl | exact zd (L:=L) (p:=1) rfl rfl | exact absurd hj (by omega))
      . first | exact absurd hp (by decide) | (rcases j with _ | _ | _ | j<;>first | exact zC rfl | exact zd (L:=L) (p:=2) rfl rfl | exact absurd hj (by omega))
      . first | exact absurd hp (by decide) | (rcases j with _ | _ | _ | j<;>first | exact zC rfl | exact zd (L:=L) (p:=3) rfl rfl | exact absurd hj (by omega))
      . first | exact absurd hp (by decide) | (rcases j with _ | _ | _ | j<;>first | exact zC rfl | exact zd (L:=L) (p:=4) rfl rfl | exact absurd hj (by omega))
      . first | exact absurd hp (by decide) | (rcases j with _ | _ | _ | j<;>first | exact zC rfl | exact zd (L:=L) (p:=5) rfl rfl | exact absurd hj (by omega))
      . first | exact absurd hp (by decide) | (rcases j with _ | _ | _ | j<;>first | exact zC rfl | exact zd (L:=L) (p:=6) rfl rfl | exact absurd hj (by omega))
      . first | exact absurd hp (by decide) | (rcases j with _ | _ | _ | j<;>first | exact zC rfl | exact zd (L:=L) (p:=7) rfl rfl | exact absurd hj (by omega))
    . rcases j with _ | _ | _ | j
      . exact zC rfl
      . exact zC rfl
      . refine zAa rfl rfl λj hj=>?_;iterate 11 (rcases j with _ | j;· first | exact zC rfl | exact zS rfl | exact qj rfl | exact Yg rfl rfl)
        exact absurd hj (by omega)
      . exact absurd hj (by omega)
  . rename_i T hT q1 hq1 v hv c0 c1 c2 c3 c4 c5;conv=>whnf
    refine ⟨(L ++ [⟨99,3,[⟨4,[],T,0⟩,⟨4,[],T,0⟩]⟩],_),⟨zAg hL (by dsimp only;omega) (Nat.le_of_ble_eq_true rfl),hs⟩,⟨zE (zAh hK rfl rfl (λp hp j hj=>?_) (λj hj=>?_)),Zv⟩⟩
    . rcases (show p = 0 \/ p = 1 \/ p = 2 \/ p = 3 \/ p = 4 \/ p = 5 \/ p = 6 \/ p = 7 by omega) with rfl | rfl | rfl | rfl | rfl | rfl | rfl | rfl
      . first | exact absurd hp (by decide) | (rcases j with _ | _ | _ | j<;>first | exact zC rfl | exact zd (L:=L) (p:=0) rfl rfl | exact absurd hj (by omega))
      . first | exact absurd hp (by decide) | (rcases j with _ | _ | _ | j<;>first | exact zC rfl | exact zd (L:=L) (p:=1) rfl rfl | exact absurd hj (by omega))
      . first | exact absurd hp (by decide) | (rcases j with _ | _ | _ | j<;>first | exact zC rfl | exact zd (L:=L) (p:=2) rfl rfl | exact absurd hj (by omega))
      . first | exact absurd hp (by decide) | (rcases j with _ | _ | _ | j<;>first | exact zC rfl | exact zd (L:=L) (p:=3) rfl rfl | exact absurd hj (by omega))
      . first | exact absurd hp (by decide) | (rcases j with _ | _ | _ | j<;>first | exact zC rfl | exact zd (L:=L) (p:=4) rfl rfl | exact absurd hj (by omega))
      . first | exact absurd hp (by decide) | (rcases j with _ | _ | _ | j<;>first | exact zC rfl | exact zd (L:=L) (p:=5) rfl rfl | exact absurd hj (by omega))
      . first | exact absurd hp (by decide) | (rcases j with _ | _ | _ | j<;>first | exact zC rfl | exact zd (L:=L) (p:=6) rfl rfl | exact absurd hj (by omega))
      . first | exact absurd hp (by decide) | (rcases j with _ | _ | _ | j<;>first | exact zC rfl | exact zd (L:=L) (p:=7) rfl rfl | exact absurd hj (by omega))
    . rcases j with _ | _ | _ | j
      . exact zC rfl
      . exact zC rfl
      . refine held2_le rfl rfl (λj hj=>?_) (λj hj=>?_)
        . iterate 11 (rcases j with _ | j;· first | exact zC rfl | exact zS rfl | exact qj rfl | exact Yg rfl rfl)
          exact absurd hj (by omega)
        . iterate 11 (rcases j with _ | j;· first | exact zC rfl | exact zS rfl | exact qj rfl | exact Yg rfl rfl)
          exact absurd hj (by omega)
      . exact absurd hj (by omega)
abbrev spoilSE : Zm:=zAv (AC.cons (Yl ZF qA) AC.nil) (λa=>ZC a.1 = true) (λa (r : List Sed)=>LHp r) (λr=>.e (.c (slN ZF r)))
theorem zGB : EntOk Try.prog 20 spoilSE:=YI ⟨_,Try.func20,rfl,by kernel_rfl⟩ λn l q a ht hp=>spoilS_ok n l q a.1 ht hp
structure byL (l : List Int) : Prop where
 q : ∀ x ∈ l,0 <= x /\ x < 256
theorem eI_sz {k : IntKind} : 0 < (eI k).sz:=by show 0 < 1;omega
theorem zDw {P : Program} {w : World} {a : Addr} : (loadCells a 0).run P w = .ok #[] w:=by
 have:=run_loadCells_list (P:=P) w a [] (λj v h=>by cases h);simpa using this
theorem zFq {P : Program} {r : QM} {X W : Nat -> Prop} {w : World} {x : List Int} {v : Value} {src dst e : TypeId} (hs : P.underlying src = some (.slice e)) (he : P.underlying e = some (.int .u8)) (hd : P.underlying dst = some .string)
 (h : (CV.sl false x.length 1 (qC (eI .u8) x)).rel r X W w v) : (convert src dst v).run P w = .ok (.string (strOfNums x)) w:=by
 obtain ⟨a,cap,rfl,hn,hc⟩:=h;rcases Nat.eq_zero_or_pos x.length with h0 | h0
 . have hx : x = []:=List.length_eq_zero_iff.1 h0;subst hx;cases a with
   | none=>exact run_convert_bytes_nil w src e hs he 0 cap dst hd
   | some ad=>
     show (convert src dst (.slice (some ad) 0 cap)).run P w = _;rw [run_convert_bytes_string w src dst e _ 0 cap hs he hd,run_bytesToString w ad 0 cap [] zDw];rfl
 . obtain ⟨ad,rfl,hsp,_,_,_,hcell⟩:=hc h0;obtain ⟨b,off,sp⟩:=ad;have hsp : sp = none:=hsp;subst hsp;refine run_convert_bytes_arg w src e hs he b off x.length cap x rfl (λi hi=>?_) dst hd;obtain ⟨u,hu,hr⟩:=hcell i hi 0 (by omega);have hr' : u = .int .u8 (x.getD i default):=hr;rw [show i * 1 + 0 = i by omega] at hu;rw [hu,hr'];rfl
theorem bequal_ok (x : List Int) : Zc Try.prog 82 [(cSl (eI .u8) eI_sz).enc x,(cSl (eI .u8) eI_sz).enc x] (cB.enc true):=by
 intro X w vals hrel hX;obtain ⟨v0,v1,rfl⟩ : ∃ v0 v1,vals = #[v0,v1]:=by
  have h2 : vals.size = 2:=hrel.1;match vals,h2 with
  | ⟨[a,b]⟩,_=>exact ⟨a,b,rfl⟩
 have h0 : (CV.sl false x.length 1 (qC (eI .u8) x)).rel (λ_=>none) X (λ_=>False) w v0:=hrel.2 0 _ v0 rfl rfl;have h1 : (CV.sl false x.length 1 (qC (eI .u8) x)).rel (λ_=>none) X (λ_=>False) w v1:=hrel.2 1 _ v1 rfl rfl;have r0:=zFq (dst:=9) Try.underlying30 Try.underlying5 Try.underlying9 h0;have r1:=zFq (dst:=9) Try.underlying30 Try.underlying5 Try.underlying9 h1;clear h0 h1 hrel;have key : Calls Try.prog 82 #[v0,v1] w λe w'=>e = .returned (.bool true) /\ w' = w:=by
  go_enter Try.func82,Try.ntmps82
  go_wp2
  go_ret
  exact ⟨rfl,rfl⟩
 refine key.mono λe w' ⟨he,hw⟩=>?_;subst he hw;exact ⟨_,rfl,Below.refl _ _,rfl⟩
def isIBt : CV -> Bool
 | .int _ _=>true
 | .bool _=>true
 | _=>false
theorem eqC_selft {x : CV} (h : isIBt x = true) : zA5 x x = true:=by
 cases x with
 | int k a=>show (a == a) = true;exact beq_self_eq_true _
 | bool a=>show (a == a) = true;exact beq_self_eq_true _
 | _=>cases h
theorem zEU (f : Nat -> CV) (n : Nat) (h : ∀ i,i < n -> isIBt (f i) = true) : ZD f f n 0 = true:=
 zFs.2 λi hi=>by rw [Nat.zero_add];exact eqC_selft (h i hi)
def cFn (f : FuncId) : Codec Unit where
 enc _:=.e (.c (.fn f 0 0 λ_=>.top))
 dec H x:=match x with
  | .e (.c (.fn g n m _))=>bif Nat.beq g f && Nat.beq n 0 && Nat.beq m 0 then some ((),none,[]) else none
  | _=>none
 sound H H' x a p rd h hp hh:=by
  split at h
  . rename_i g n m a0;cases hb : (Nat.beq g f && Nat.beq n 0 && Nat.beq m 0) with
    | true=>
      rw [hb,cond_true] at h;injection h with h;injection h with h h';injection h' with h' h'';subst h h' h'';simp only [Bool.and_eq_true] at hb;have b1:=Nat.eq_of_beq_eq_true hb.1.1;have b2:=Nat.eq_of_beq_eq_true hb.1.2;have b3:=Nat.eq_of_beq_eq_true hb.2;subst b1 b2 b3;rintro cx r w v st ⟨fs,cs,rfl,h1,h2,h3,h4⟩;refine ⟨fs,cs,rfl,h1,h2,λk u hu=>?_,λk u hu=>?_⟩
      . have:=(Array.getElem?_eq_some_iff.1 hu).1;omega
      . have:=(Array.getElem?_eq_some_iff.1 hu).1;omega
    | false=>rw [hb] at h;cases h
  . cases h
abbrev beqtE : Zm:=qy (AC.cons (cSl (eI .u8) eI_sz) (AC.cons (cSl (eI .u8) eI_sz) AC.nil)) (λa=>a.1 = a.2.1) (λ_=>true) cB.enc
theorem beqtE_ok : EntOk Try.prog 82 beqtE:=zu ⟨_,Try.func82,rfl,by kernel_rfl⟩ λa h=>by
 obtain ⟨p,q,u⟩:=a;have h : p = q:=h;subst h;exact bequal_ok p
def LMta : CsL:=(82,some beqtE) :: []
theorem LMta_ok : qU Try.prog LMta:=⟨beqtE_ok,trivial⟩
theorem sameH_ok (h : Hel) : Zc Try.prog 81 [(cN zn).enc h,(cN zn).enc h] (cB.enc true):=by
 have s1 : ZD (λq=>helC h (2 + q)) (λq=>helC h (2 + q)) 8 0 = true:=zEU _ 8 λi hi=>by
  iterate 8 (rcases i with _ | i;· exact rfl)
  exact absurd hi (by omega)
 refine zr (wd:=1) (by decide) zM (zb LMta_ok) zN Try.func81 rfl _ (by show 2 <= _;decide) _ ?_;repeat' (first | (apply And.intro<;>intro hc<;>(first | exact Bool.noConfusion hc | (exfalso;first | exact absurd rfl hc | exact absurd (beq_self_eq_true _) (by rw [hc];decide) | exact Bool.noConfusion (s1.symm.trans hc)) | (simp only [zg] at hc<;>first | exact absurd rfl hc | (exfalso;first | exact absurd rfl hc | exact absurd (beq_self_eq_true _) (by rw [hc];decide) | exact Bool.noConfusion (s1.symm.trans hc)) | skip) | skip)) | (refine And.intro ze ?_) | (apply And.intro) | (intro s hs;subst hs))
 . exact λ_=>rfl
 . exact λ_=>rfl
 . exact rfl
 . conv=>whnf
   exact Done.mk (zG (beq_self_eq_true _))
abbrev sameHE : Zm:=qy (AC.cons (cN zn) (AC.cons (cN zn) AC.nil)) (λa=>a.1 = a.2.1) (λ_=>true) cB.enc
theorem sameHE_ok : EntOk Try.prog 81 sameHE:=zu ⟨_,Try.func81,rfl,by kernel_rfl⟩ λa h=>by
 obtain ⟨p,q,u⟩:=a;have h : p = q:=h;subst h;exact sameH_ok p
def LMtb : CsL:=(81,some sameHE) :: []
theorem LMtb_ok : qU Try.prog LMtb:=⟨sameHE_ok,trivial⟩
theorem eqfH_ok (l : List Hel) (h : l.length <= 9223372036854775807) : Zc Try.prog 80 [(Yl zn zA1).enc l,(Yl zn zA1).enc l,(cFn 81).enc ()] (cB.enc true):=by
 refine zr (wd:=1) (by decide) zM (zb LMtb_ok) zN Try.func80 rfl _ (by show 3 <= _;decide) _ ?_;repeat' (first | (apply And.intro<;>intro hc<;>(first | exact Bool.noConfusion hc | (exfalso;first | exact absurd rfl hc | exact absurd (beq_self_eq_true _) (by rw [hc];decide) | omega) | (simp only [zg] at hc<;>first | exact absurd rfl hc | (exfalso;first | exact absurd rfl hc | exact absurd (beq_self_eq_true _) (by rw [hc];decide) | omega) | skip) | skip)) | (refine And.intro ze ?_) | (apply And.intro) | (intro s hs;subst hs))
 conv=>whnf
 refine zQ (zT LMtb_ok) (λs : {i : Nat // i <= l.length}=>(⟨[(1,zO (qY zn l)),(2,(cFn 81).enc ()),(15,zO (qY zn l)),(16,zO (.int .i64 (l.length : Int))),(17,zO (.int .i64 (s.1 : Int)))],[],0⟩ : Hd)) (λs=>l.length - s.1) (λ_=>rfl) ?_ ⟨0,Nat.zero_le _⟩ [] ⟨rfl,⟨zE (zm (zc l)),zE (zAb λk hk=>absurd hk (by omega)),zE (zm (zc l)),zA rfl,zA rfl,trivial⟩,trivial⟩;rintro ⟨p,hp⟩;dsimp only at hp ⊢;unfold qY;by_cases hpl : p < l.length
 . have w4 : IntKind.i64.wrap ((p : Int) + 1) = ((p + 1 : Nat) : Int):=(IntWalk.i64_in _ (by omega)).trans (by omega);repeat' (first | (apply And.intro<;>intro hc<;>(first | exact Bool.noConfusion hc | (exfalso;first | exact absurd rfl hc | exact absurd hc (by decide) | omega) | (simp only [zg] at hc<;>first | exact absurd rfl hc | (exfalso;first | exact absurd rfl hc | exact absurd hc (by decide) | omega) | skip) | skip)) | (refine And.intro ze ?_) | (apply And.intro) | (intro s hs;subst hs))
   . exact ⟨rfl,zl _⟩
   . exact ⟨rfl,zl _⟩
   . exact rfl
   . conv=>whnf
     exact ⟨⟨p + 1,hpl⟩,[],by dsimp only;omega,rfl,⟨zE (zm (zc l)),zE (zAb λk hk=>absurd hk (by omega)),zE (zm (zc l)),zA rfl,zA w4,trivial⟩,trivial⟩
 . repeat' (first | (apply And.intro<;>intro hc<;>(first | exact Bool.noConfusion hc | (exfalso;first | exact absurd rfl hc | omega) | (simp only [zg] at hc<;>first | exact absurd rfl hc | (exfalso;first | exact absurd rfl hc | omega) | skip) | skip)) | (refine And.intro ze ?_) | (apply And.intro) | (intro s hs;subst hs))
   conv=>whnf
   exact Done.mk (zG rfl)
abbrev eqfHE : Zm:=qy (AC.cons (Yl zn zA1) (AC.cons (Yl zn zA1) (AC.cons (cFn 81) AC.nil))) (λa=>a.1 = a.2.1 /\ a.1.length <= 9223372036854775807) (λ_=>true) cB.enc
theorem eqfHE_ok : EntOk Try.prog 80 eqfHE:=zu ⟨_,Try.func80,rfl,by kernel_rfl⟩ λa h=>by
 obtain ⟨p,q,r,u⟩:=a;obtain ⟨h,hn⟩:=h;dsimp only at h hn;subst h;exact eqfH_ok p hn
def LMtc : CsL:=(80,some eqfHE) :: []
theorem LMtc_ok : qU Try.prog LMtc:=⟨eqfHE_ok,trivial⟩
theorem sameS_ok (s : Sed) (h : s.held.length <= 9223372036854775807) : Zc Try.prog 71 [(cN ZF).enc s,(cN ZF).enc s] (cB.enc true):=by
 refine zr (wd:=1) (by decide) zM (zb LMtc_ok) zN Try.func71 rfl _ (by show 2 <= _;decide) _ ?_;repeat' (first | (apply And.intro<;>intro hc<;>(first | exact Bool.noConfusion hc | (exfalso;first | exact absurd rfl hc | exact absurd (beq_self_eq_true _) (by rw [hc];decide) | omega) | (simp only [zg] at hc<;>first | exact absurd rfl hc | (exfalso;first | exact absurd rfl hc | exact absurd (beq_self_eq_true _) (by rw [hc];decide) | omega) | skip) | skip)) | (refine And.intro ze ?_) | (apply And.intro) | (intro s hs;subst hs))
 . exact λ_=>⟨rfl,zl _⟩
 . exact λ_=>⟨rfl,zl _⟩
 . exact rfl
 . show (Yt zn s.held.length (zo zn s.held)).length <= _;rw [QG];exact h
 . conv=>whnf
   exact Done.mk (zG rfl)
abbrev sameSE : Zm:=qy (AC.cons (cN ZF) (AC.cons (cN ZF) AC.nil)) (λa=>a.1 = a.2.1 /\ a.1.held.length <= 9223372036854775807) (λ_=>true) cB.enc
theorem sameSE_ok : EntOk Try.prog 71 sameSE:=zu ⟨_,Try.func71,rfl,by kernel_rfl⟩ λa h=>by
 obtain ⟨p,q,u⟩:=a;obtain ⟨h,hn⟩:=h;dsimp only at h hn;subst h;exact sameS_ok p hn
theorem sameC_ok (c : Cas) : Zc Try.prog 74 [(cN Zr).enc c,(cN Zr).enc c] (cB.enc true):=by
 refine zr (wd:=1) (by decide) zM (zb LMta_ok) zN Try.func74 rfl _ (by show 2 <= _;decide) _ ?_;repeat' (first | (apply And.intro<;>intro hc<;>(first | exact Bool.noConfusion hc | (exfalso;first | exact absurd rfl hc | exact absurd (beq_self_eq_true _) (by rw [hc];decide) | omega) | (simp only [zg] at hc<;>first | exact absurd rfl hc | (exfalso;first | exact absurd rfl hc | exact absurd (beq_self_eq_true _) (by rw [hc];decide) | omega) | skip) | skip)) | (refine And.intro ze ?_) | (apply And.intro) | (intro s hs;subst hs))
 . exact λ_=>rfl
 . exact λ_=>rfl
 . exact rfl
 . conv=>whnf
   exact Done.mk (zG rfl)
abbrev sameCE : Zm:=qy (AC.cons (cN Zr) (AC.cons (cN Zr) AC.nil)) (λa=>a.1 = a.2.1) (λ_=>true) cB.enc
theorem sameCE_ok : EntOk Try.prog 74 sameCE:=zu ⟨_,Try.func74,rfl,by kernel_rfl⟩ λa h=>by
 obtain ⟨p,q,u⟩:=a;have h : p = q:=h;subst h;exact sameC_ok p
def LMtd : CsL:=(71,some sameSE) :: []
theorem LMtd_ok : qU Try.prog LMtd:=⟨sameSE_ok,trivial⟩
def LMte : CsL:=(74,some sameCE) :: []
theorem LMte_ok : qU Try.prog LMte:=⟨sameCE_ok,trivial⟩
theorem eqfS_ok (l : List Sed) (hk : ∀ x ∈ l,x.held.length <= 9223372036854775807) (h : l.length <= 9223372036854775807) : Zc Try.prog 70 [(Yl ZF qA).enc l,(Yl ZF qA).enc l,(cFn 71).enc ()] (cB.enc true):=by
 refine zr (wd:=1) (by decide) zM (zb LMtd_ok) zN Try.func70 rfl _ (by show 3 <= _;decide) _ ?_;repeat' (first | (apply And.intro<;>intro hc<;>(first | exact Bool.noConfusion hc | (exfalso;first | exact absurd rfl hc | exact absurd (beq_self_eq_true _) (by rw [hc];decide) | omega) | (simp only [zg] at hc<;>first | exact absurd rfl hc | (exfalso;first | exact absurd rfl hc | exact absurd (beq_self_eq_true _) (by rw [hc];decide) | omega) | skip) | skip)) | (refine And.intro ze ?_) | (apply And.intro) | (intro s hs;subst hs))
 conv=>whnf
 refine zQ (zT LMtd_ok) (λs : {i : Nat // i <= l.length}=>(⟨[(1,zO (qY ZF l)),(2,(cFn 71).enc ()),(15,zO (qY ZF l)),(16,zO (.int .i64 (l.length : Int))),(17,zO (.int .i64 (s.1 : Int)))],[],0⟩ : Hd)) (λs=>l.length - s.1) (λ_=>rfl) ?_ ⟨0,Nat.zero_le _⟩ [] ⟨rfl,⟨zE (zm (zc l)),zE (zAb λk hk=>absurd hk (by omega)),zE (zm (zc l)),zA rfl,zA rfl,trivial⟩,trivial⟩;rintro ⟨p,hp⟩;dsimp only at hp ⊢;unfold qY;by_cases hpl : p < l.length
 . have w4 : IntKind.i64.wrap ((p : Int) + 1) = ((p + 1 : Nat) : Int):=(IntWalk.i64_in _ (by omega)).trans (by omega);repeat' (first | (apply And.intro<;>intro hc<;>(first | exact Bool.noConfusion hc | (exfalso;first | exact absurd rfl hc | exact absurd hc (by decide) | omega) | (simp only [zg] at hc<;>first | exact absurd rfl hc | (exfalso;first | exact absurd rfl hc | exact absurd hc (by decide) | omega) | skip) | skip)) | (refine And.intro ze ?_) | (apply And.intro) | (intro s hs;subst hs))
   . exact ⟨rfl,qG _⟩
   . exact ⟨rfl,qG _⟩
   . exact rfl
   . exact Eq.mpr (congrArg (λz : List Hel=>z.length <= 9223372036854775807) (zD4 _)) (hk _ (zj hpl))
   . conv=>whnf
     exact ⟨⟨p + 1,hpl⟩,[],by dsimp only;omega,rfl,⟨zE (zm (zc l)),zE (zAb λk hk=>absurd hk (by omega)),zE (zm (zc l)),zA rfl,zA w4,trivial⟩,trivial⟩
 . repeat' (first | (apply And.intro<;>intro hc<;>(first | exact Bool.noConfusion hc | (exfalso;first | exact absurd rfl hc | omega) | (simp only [zg] at hc<;>first | exact absurd rfl hc | (exfalso;first | exact absurd rfl hc | omega) | skip) | skip)) | (refine And.intro ze ?_) | (apply And.intro) | (intro s hs;subst hs))
   conv=>whnf
   exact Done.mk (zG rfl)
abbrev eqfSE : Zm:=qy (AC.cons (Yl ZF qA) (AC.cons (Yl ZF qA) (AC.cons (cFn 71) AC.nil))) (λa=>a.1 = a.2.1 /\ (∀ x ∈ a.1,x.held.length <= 9223372036854775807) /\ a.1.length <= 9223372036854775807) (λ_=>true) cB.enc
theorem eqfSE_ok : EntOk Try.prog 70 eqfSE:=zu ⟨_,Try.func70,rfl,by kernel_rfl⟩ λa h=>by
 obtain ⟨p,q,r,u⟩:=a;obtain ⟨h,hk,hn⟩:=h;dsimp only at h hk hn;subst h;exact eqfS_ok p hk hn
theorem eqfC_ok (l : List Cas) (h : l.length <= 9223372036854775807) : Zc Try.prog 73 [(Yl Zr zBG).enc l,(Yl Zr zBG).enc l,(cFn 74).enc ()] (cB.enc true):=by
 refine zr (wd:=1) (by decide) zM (zb LMte_ok) zN Try.func73 rfl _ (by show 3 <= _;decide) _ ?_;repeat' (first | (apply And.intro<;>intro hc<;>(first | exact Bool.noConfusion hc | (exfalso;first | exact absurd rfl hc | exact absurd (beq_self_eq_true _) (by rw [hc];decide) | omega) | (simp only [zg] at hc<;>first | exact absurd rfl hc | (exfalso;first | exact absurd rfl hc | exact absurd (beq_self_eq_true _) (by rw [hc];decide) | omega) | skip) | skip)) | (refine And.intro ze ?_) | (apply And.intro) | (intro s hs;subst hs))
 conv=>whnf
 refine zQ (zT LMte_ok) (λs : {i : Nat // i <= l.length}=>(⟨[(1,zO (qY Zr l)),(2,(cFn 74).enc ()),(15,zO (qY Zr l)),(16,zO (.int .i64 (l.length : Int))),(17,zO (.int .i64 (s.1 : Int)))],[],0⟩ : Hd)) (λs=>l.length - s.1) (λ_=>rfl) ?_ ⟨0,Nat.zero_le _⟩ [] ⟨rfl,⟨zE (zm (zc l)),zE (zAb λk hk=>absurd hk (by omega)),zE (zm (zc l)),zA rfl,zA rfl,trivial⟩,trivial⟩;rintro ⟨p,hp⟩;dsimp only at hp ⊢;unfold qY;by_cases hpl : p < l.length
 . have w4 : IntKind.i64.wrap ((p : Int) + 1) = ((p + 1 : Nat) : Int):=(IntWalk.i64_in _ (by omega)).trans (by omega);repeat' (first | (apply And.intro<;>intro hc<;>(first | exact Bool.noConfusion hc | (exfalso;first | exact absurd rfl hc | exact absurd hc (by decide) | omega) | (simp only [zg] at hc<;>first | exact absurd rfl hc | (exfalso;first | exact absurd rfl hc | exact absurd hc (by decide) | omega) | skip) | skip)) | (refine And.intro ze ?_) | (apply And.intro) | (intro s hs;subst hs))
   . exact ⟨rfl,zl _⟩
   . exact ⟨rfl,zl _⟩
   . exact rfl
   . conv=>whnf
     exact ⟨⟨p + 1,hpl⟩,[],by dsimp only;omega,rfl,⟨zE (zm (zc l)),zE (zAb λk hk=>absurd hk (by omega)),zE (zm (zc l)),zA rfl,zA w4,trivial⟩,trivial⟩
 . repeat' (first | (apply And.intro<;>intro hc<;>(first | exact Bool.noConfusion hc | (exfalso;first | exact absurd rfl hc | omega) | (simp only [zg] at hc<;>first | exact absurd rfl hc | (exfalso;first | exact absurd rfl hc | omega) | skip) | skip)) | (refine And.intro ze ?_) | (apply And.intro) | (intro s hs;subst hs))
   conv=>whnf
   exact Done.mk (zG rfl)
abbrev eqfCE : Zm:=qy (AC.cons (Yl Zr zBG) (AC.cons (Yl Zr zBG) (AC.cons (cFn 74) AC.nil))) (λa=>a.1 = a.2.1 /\ a.1.length <= 9223372036854775807) (λ_=>true) cB.enc
theorem eqfCE_ok : EntOk Try.prog 73 eqfCE:=zu ⟨_,Try.func73,rfl,by kernel_rfl⟩ λa h=>by
 obtain ⟨p,q,r,u⟩:=a;obtain ⟨h,hn⟩:=h;dsimp only at h hn;subst h;exact eqfC_ok p hn
def LMtf : CsL:=(70,some eqfSE) :: []
theorem LMtf_ok : qU Try.prog LMtf:=⟨eqfSE_ok,trivial⟩
def LMtg : CsL:=(73,some eqfCE) :: []
theorem LMtg_ok : qU Try.prog LMtg:=⟨eqfCE_ok,trivial⟩
theorem sames_ok (L : List Sed) (hL : LHn L) : Zc Try.prog 41 [(Yl ZF qA).enc L,(Yl ZF qA).enc L] (cB.enc true):=by
 refine zr (wd:=1) (by decide) zM (zb LMtf_ok) zN Try.func41 rfl _ (by show 2 <= _;decide) _ ?_;repeat' (first | (apply And.intro<;>intro hc<;>(first | exact Bool.noConfusion hc | (exfalso;first | exact absurd rfl hc | omega) | (simp only [zg] at hc<;>first | exact absurd rfl hc | (exfalso;first | exact absurd rfl hc | omega) | skip) | skip)) | (refine And.intro ze ?_) | (apply And.intro) | (intro s hs;subst hs))
 . exact λ_=>⟨rfl,qG _⟩
 . exact λ_=>⟨rfl,qG _⟩
 . exact rfl
 . exact Eq.mpr (congrArg (λz : List Sed=>∀ x ∈ z,x.held.length <= 9223372036854775807) (ZE ZS _)) hL.h
 . exact Eq.mpr (congrArg (λz : List Sed=>z.length <= 9223372036854775807) (ZE ZS _)) hL.n
 . conv=>whnf
   exact Done.mk (zG rfl)
abbrev samesE : Zm:=qy (AC.cons (Yl ZF qA) (AC.cons (Yl ZF qA) AC.nil)) (λa=>a.1 = a.2.1 /\ LHn a.1) (λ_=>true) cB.enc
theorem samesE_ok : EntOk Try.prog 41 samesE:=zu ⟨_,Try.func41,rfl,by kernel_rfl⟩ λa h=>by
 obtain ⟨p,q,u⟩:=a;obtain ⟨h,hn⟩:=h;dsimp only at h hn;subst h;exact sames_ok p hn
theorem samec_ok (L : List Cas) (hL : L.length <= 9223372036854775807) : Zc Try.prog 47 [(Yl Zr zBG).enc L,(Yl Zr zBG).enc L] (cB.enc true):=by
 refine zr (wd:=1) (by decide) zM (zb LMtg_ok) zN Try.func47 rfl _ (by show 2 <= _;decide) _ ?_;repeat' (first | (apply And.intro<;>intro hc<;>(first | exact Bool.noConfusion hc | (exfalso;first | exact absurd rfl hc | omega) | (simp only [zg] at hc<;>first | exact absurd rfl hc | (exfalso;first | exact absurd rfl hc | omega) | skip) | skip)) | (refine And.intro ze ?_) | (apply And.intro) | (intro s hs;subst hs))
 . exact λ_=>⟨rfl,zl _⟩
 . exact λ_=>⟨rfl,zl _⟩
 . exact rfl
 . show (Yt Zr L.length (zo Zr L)).length <= _;rw [QG];exact hL
 . conv=>whnf
   exact Done.mk (zG rfl)
abbrev samecE : Zm:=qy (AC.cons (Yl Zr zBG) (AC.cons (Yl Zr zBG) AC.nil)) (λa=>a.1 = a.2.1 /\ a.1.length <= 9223372036854775807) (λ_=>true) cB.enc
theorem samecE_ok : EntOk Try.prog 47 samecE:=zu ⟨_,Try.func47,rfl,by kernel_rfl⟩ λa h=>by
 obtain ⟨p,q,u⟩:=a;obtain ⟨h,hn⟩:=h;dsimp only at h hn;subst h;exact samec_ok p hn
end Go.Proofs.Ytfaibcgakcmhcaa.AX
namespace Go.Proofs.Ytfaibcgakcmhcaa.AX
open Go.RowKit
theorem rs1_0 (L : List Sed) (now draw : Int) (hv : ZC L = true) (s : MapI (Zo now) L) (hi : s.i = 0) (hil : s.i < L.length) (K : Kt) :
 Zs T (Zt LRs) 1 Try.f46.ntmps 0 (Zz (ZK 6 (Try.f46.body.getD Code.ret))) (SR1 L now draw s).fr (SR1 L now draw s).H (SR1 L now draw s).nx (QY (λfr H _=>Qz (SR1 L now draw) (λs=>L.length - s.i) 0 (L.length - s.i) fr H) K):=by
 have h8:=Zp hv;have hS : SdOk (L.getD s.i default):=(qk hv _ (zj hil)).2;obtain ⟨s',es'⟩ : ∃ s',s.next hil _ rfl = s':=⟨_,rfl⟩;have f1 : s'.M = s.M.set s.i (Zo now (L.getD s.i default)):=by rw [<- es'];rfl
 have f4 : s'.i = s.i + 1:=by rw [<- es'];rfl
 clear es';obtain ⟨i,M,hn,hi0,h1,h2⟩:=s;dsimp only at hi hil hS f1 f4;subst hi;have hiM : 0 < M.length:=by omega
 have e0:=h2 0 (Nat.le_refl _);rw [<- e0] at hS f1;have hk:=hS.k;have hh:=hS.n;have hmn:=hS.mn;unfold SR1;dsimp only;clear h1 h2 e0;repeat' (first | (apply And.intro<;>intro hc<;>(first | exact Bool.noConfusion hc | (exfalso;first | exact absurd rfl hc | omega) | (simp only [zg] at hc<;>first | exact absurd rfl hc | (exfalso;first | exact absurd rfl hc | omega) | skip) | skip)) | (refine And.intro ze ?_) | (apply And.intro) | (intro s hs;skip) | (refine Exists.intro _ (And.intro ⟨rfl,rfl,rfl⟩ ?_)))
 conv=>whnf
 obtain ⟨W,eW⟩ : ∃ W,QH now (M.getD 0 default).held (-1) = W:=⟨_,rfl⟩;have hWr : -1 <= W /\ W < 1073741824:=by rw [<- eW];exact zAC (zBX hS) ⟨Int.le_refl _,by decide⟩
 refine zQ (zT qr) (λs : {p : Nat × Int // p.1 <= (M.getD 0 default).held.length /\ QH now ((M.getD 0 default).held.drop p.1) p.2 = W}=>(⟨[(1,zO (.int .i64 now)),(2,zO (.int .u32 draw)),(9,zO (.os 1 0 M.length)),(10,zO .nils),(11,zO (.int .u32 0)),(31,zO (.int .i64 (L.length : Int))),(32,zO (.int .i64 ((0 : Nat) : Int))),(12,zO (.int .i64 ((0 : Nat) : Int))),(13,zO (.int .i64 s.1.2)),(39,zO (.os 2 0 (M.getD 0 default).held.length)),(40,zO (.int .i64 ((M.getD 0 default).held.length : Int))),(41,zO (.int .i64 (s.1.1 : Int)))],[(1,some (qt 2 M.length M)),(2,some (zV (M.getD 0 default).held)),(3,some (zV (M.getD 1 default).held)),(4,some (zV (M.getD 2 default).held)),(5,some (zV (M.getD 3 default).held)),(6,some (zV (M.getD 4 default).held)),(7,some (zV (M.getD 5 default).held)),(8,some (zV (M.getD 6 default).held)),(9,some (zV (M.getD 7 default).held))],10⟩ : Hd)) (λs=>(M.getD 0 default).held.length - s.1.1) (λ_=>rfl) ?_ ⟨(0,-1),Nat.zero_le _,eW⟩ [] ⟨rfl,⟨zA rfl,zA rfl,zE (zD rfl rfl),zE zW,zA rfl,zA rfl,zA rfl,zA rfl,zA rfl,zE (zD rfl rfl),zA rfl,zA rfl,trivial⟩,⟨⟨rfl,zP (by omega) (qF rfl rfl rfl rfl rfl rfl rfl rfl)⟩,⟨rfl,zB⟩,⟨rfl,zB⟩,⟨rfl,zB⟩,⟨rfl,zB⟩,⟨rfl,zB⟩,⟨rfl,zB⟩,⟨rfl,zB⟩,⟨rfl,zB⟩,trivial⟩⟩;rintro ⟨⟨k,l⟩,hkl,hW⟩;dsimp only at hkl hW ⊢;by_cases hkn : k < (M.getD 0 default).held.length
 . have w4 : IntKind.i64.wrap ((k : Int) + 1) = ((k + 1 : Nat) : Int):=(IntWalk.i64_in _ (by omega)).trans (by omega);have hst : QH now ((M.getD 0 default).held.drop (k + 1)) (if ((M.getD 0 default).held.getD k default).til <= now then ((M.getD 0 default).held.getD k default).num else l) = W:=by rw [<- hW,qL hkn];rfl
   have z0 : 0 + (k : Int).toNat = k:=Nat.zero_add k;repeat' (first | (simp only [z0,w4]) | (apply And.intro<;>intro hc<;>(first | exact Bool.noConfusion hc | (exfalso;first | exact absurd rfl hc | omega) | (simp only [zg] at hc<;>first | exact absurd rfl hc | (exfalso;first | exact absurd rfl hc | omega) | skip) | skip)) | (refine And.intro ze ?_) | (apply And.intro) | (intro s hs;skip) | (refine Exists.intro _ (And.intro ⟨rfl,rfl,rfl⟩ ?_)))
   . rw [if_pos hc] at hst;conv=>whnf
     exact ⟨⟨(k + 1,_),hkn,hst⟩,[],by dsimp only;omega,rfl,⟨zA rfl,zA rfl,zE (zD rfl rfl),zE zW,zA rfl,zA rfl,zA rfl,zA rfl,zA rfl,zE (zD rfl rfl),zA rfl,zA w4,trivial⟩,⟨⟨rfl,zP (by omega) (qF rfl rfl rfl rfl rfl rfl rfl rfl)⟩,⟨rfl,zB⟩,⟨rfl,zB⟩,⟨rfl,zB⟩,⟨rfl,zB⟩,⟨rfl,zB⟩,⟨rfl,zB⟩,⟨rfl,zB⟩,⟨rfl,zB⟩,trivial⟩⟩
   . rw [if_neg hc] at hst;conv=>whnf
     exact ⟨⟨(k + 1,l),hkn,hst⟩,[],by dsimp only;omega,rfl,⟨zA rfl,zA rfl,zE (zD rfl rfl),zE zW,zA rfl,zA rfl,zA rfl,zA rfl,zA rfl,zE (zD rfl rfl),zA rfl,zA w4,trivial⟩,⟨⟨rfl,zP (by omega) (qF rfl rfl rfl rfl rfl rfl rfl rfl)⟩,⟨rfl,zB⟩,⟨rfl,zB⟩,⟨rfl,zB⟩,⟨rfl,zB⟩,⟨rfl,zB⟩,⟨rfl,zB⟩,⟨rfl,zB⟩,⟨rfl,zB⟩,trivial⟩⟩
 . obtain rfl : l = W:=by
    rw [List.drop_of_length_le (by omega)] at hW;exact hW
   clear hW;have w5 : IntKind.i64.wrap (l + 1) = l + 1:=IntWalk.i64_in _ (by omega);have hcl : ql (M.getD 0 default) (l + 1) = Zo now (M.getD 0 default):=by rw [<- eW];exact YX hS
   obtain ⟨X,eX⟩ : ∃ X,Zo now (M.getD 0 default) = X:=⟨_,rfl⟩;rw [eX] at hcl f1;repeat' (first | (simp only [w5]) | (apply And.intro<;>intro hc<;>(first | exact Bool.noConfusion hc | (exfalso;first | exact absurd rfl hc | omega) | (simp only [zg] at hc<;>first | exact absurd rfl hc | (exfalso;first | exact absurd rfl hc | omega) | skip) | skip)) | (refine And.intro ze ?_) | (apply And.intro) | (intro s hs;(have q:=qp hs (YB rfl rfl (zL zR _)) hcl;clear hs;subst q)) | (refine Exists.intro _ (And.intro ⟨rfl,rfl,rfl⟩ ?_)))
   . exact Nat.le_of_eq (Nat.zero_add _)
   . exact ⟨rfl,rfl,λ_ _=>⟨rfl,zl _⟩⟩
   . exact Eq.mpr (congrArg KpI (zL zR _)) hk
   conv=>whnf
   refine ⟨s',[(2,some 19)],by show L.length - s'.i < _;rw [f4];omega,rfl,⟨zA rfl,zA rfl,zE (zD rfl (by rw [f1,List.length_set])),zE zW,zA rfl,zA rfl,zA (by rw [f4];rfl),trivial⟩,⟨⟨rfl,⟨rfl,by show _ = s'.M.length;rw [f1,List.length_set],rfl,rfl,λp hp j hj=>?_⟩⟩,⟨rfl,zF (by rw [f1,qH hiM])⟩,⟨rfl,zF (by rw [f1];exact congrArg Sed.held (zJ (by decide)).symm)⟩,⟨rfl,zF (by rw [f1];exact congrArg Sed.held (zJ (by decide)).symm)⟩,⟨rfl,zF (by rw [f1];exact congrArg Sed.held (zJ (by decide)).symm)⟩,⟨rfl,zF (by rw [f1];exact congrArg Sed.held (zJ (by decide)).symm)⟩,⟨rfl,zF (by rw [f1];exact congrArg Sed.held (zJ (by decide)).symm)⟩,⟨rfl,zF (by rw [f1];exact congrArg Sed.held (zJ (by decide)).symm)⟩,⟨rfl,zF (by rw [f1];exact congrArg Sed.held (zJ (by decide)).symm)⟩,trivial⟩⟩;have hp : p < M.length:=hp;have hj : j < 3:=hj;show ZX _ _ (ZT 2 s'.M p j);rw [f1];rcases (show p = 0 \/ p = 1 \/ p = 2 \/ p = 3 \/ p = 4 \/ p = 5 \/ p = 6 \/ p = 7 by omega) with rfl | rfl | rfl | rfl | rfl | rfl | rfl | rfl;all_goals first
    | exact ZG hj (by decide) (zq (by decide)) rfl
    | skip
   refine ZH hiM ?_;rcases j with _ | _ | _ | j
   . exact zC rfl
   . exact zC rfl
   . exact zD rfl rfl
   . omega
theorem rs1_1 (L : List Sed) (now draw : Int) (hv : ZC L = true) (s : MapI (Zo now) L) (hi : s.i = 1) (hil : s.i < L.length) (K : Kt) :
 Zs T (Zt LRs) 1 Try.f46.ntmps 0 (Zz (ZK 6 (Try.f46.body.getD Code.ret))) (SR1 L now draw s).fr (SR1 L now draw s).H (SR1 L now draw s).nx (QY (λfr H _=>Qz (SR1 L now draw) (λs=>L.length - s.i) 0 (L.length - s.i) fr H) K):=by
 have h8:=Zp hv;have hS : SdOk (L.getD s.i default):=(qk hv _ (zj hil)).2;obtain ⟨s',es'⟩ : ∃ s',s.next hil _ rfl = s':=⟨_,rfl⟩;have f1 : s'.M = s.M.set s.i (Zo now (L.getD s.i default)):=by rw [<- es'];rfl
 have f4 : s'.i = s.i + 1:=by rw [<- es'];rfl
 clear es';obtain ⟨i,M,hn,hi0,h1,h2⟩:=s;dsimp only at hi hil hS f1 f4;subst hi;have hiM : 1 < M.length:=by omega
 have e0:=h2 1 (Nat.le_refl _);rw [<- e0] at hS f1;have hk:=hS.k;have hh:=hS.n;have hmn:=hS.mn;unfold SR1;dsimp only;clear h1 h2 e0;repeat' (first | (apply And.intro<;>intro hc<;>(first | exact Bool.noConfusion hc | (exfalso;first | exact absurd rfl hc | omega) | (simp only [zg] at hc<;>first | exact absurd rfl hc | (exfalso;first | exact absurd rfl hc | omega) | skip) | skip)) | (refine And.intro ze ?_) | (apply And.intro) | (intro s hs;skip) | (refine Exists.intro _ (And.intro ⟨rfl,rfl,rfl⟩ ?_)))
 conv=>whnf
 obtain ⟨W,eW⟩ : ∃ W,QH now (M.getD 1 default).held (-1) = W:=⟨_,rfl⟩;have hWr : -1 <= W /\ W < 1073741824:=by rw [<- eW];exact zAC (zBX hS) ⟨Int.le_refl _,by decide⟩
 refine zQ (zT qr) (λs : {p : Nat × Int // p.1 <= (M.getD 1 default).held.length /\ QH now ((M.getD 1 default).held.drop p.1) p.2 = W}=>(⟨[(1,zO (.int .i64 now)),(2,zO (.int .u32 draw)),(9,zO (.os 1 0 M.length)),(10,zO .nils),(11,zO (.int .u32 0)),(31,zO (.int .i64 (L.length : Int))),(32,zO (.int .i64 ((1 : Nat) : Int))),(12,zO (.int .i64 ((1 : Nat) : Int))),(13,zO (.int .i64 s.1.2)),(39,zO (.os 3 0 (M.getD 1 default).held.length)),(40,zO (.int .i64 ((M.getD 1 default).held.length : Int))),(41,zO (.int .i64 (s.1.1 : Int)))],[(1,some (qt 2 M.length M)),(2,some (zV (M.getD 0 default).held)),(3,some (zV (M.getD 1 default).held)),(4,some (zV (M.getD 2 default).held)),(5,some (zV (M.getD 3 default).held)),(6,some (zV (M.getD 4 default).held)),(7,some (zV (M.getD 5 default).held)),(8,some (zV (M.getD 6 default).held)),(9,some (zV (M.getD 7 default).held))],10⟩ : Hd)) (λs=>(M.getD 1 default).held.length - s.1.1) (λ_=>rfl) ?_ ⟨(0,-1),Nat.zero_le _,eW⟩ [] ⟨rfl,⟨zA rfl,zA rfl,zE (zD rfl rfl),zE zW,zA rfl,zA rfl,zA rfl,zA rfl,zA rfl,zE (zD rfl rfl),zA rfl,zA rfl,trivial⟩,⟨⟨rfl,zP (by omega) (qF rfl rfl rfl rfl rfl rfl rfl rfl)⟩,⟨rfl,zB⟩,⟨rfl,zB⟩,⟨rfl,zB⟩,⟨rfl,zB⟩,⟨rfl,zB⟩,⟨rfl,zB⟩,⟨rfl,zB⟩,⟨rfl,zB⟩,trivial⟩⟩;rintro ⟨⟨k,l⟩,hkl,hW⟩;dsimp only at hkl hW ⊢;by_cases hkn : k < (M.getD 1 default).held.length
 . have w4 : IntKind.i64.wrap ((k : Int) + 1) = ((k + 1 : Nat) : Int):=(IntWalk.i64_in _ (by omega)).trans (by omega);have hst : QH now ((M.getD 1 default).held.drop (k + 1)) (if ((M.getD 1 default).held.getD k default).til <= now then ((M.getD 1 default).held.getD k default).num else l) = W:=by rw [<- hW,qL hkn];rfl
   have z0 : 0 + (k : Int).toNat = k:=Nat.zero_add k;repeat' (first | (simp only [z0,w4]) | (apply And.intro<;>intro hc<;>(first | exact Bool.noConfusion hc | (exfalso;first | exact absurd rfl hc | omega) | (simp only [zg] at hc<;>first | exact absurd rfl hc | (exfalso;first | exact absurd rfl hc | omega) | skip) | skip)) | (refine And.intro ze ?_) | (apply And.intro) | (intro s hs;skip) | (refine Exists.intro _ (And.intro ⟨rfl,rfl,rfl⟩ ?_)))
   . rw [if_pos hc] at hst;conv=>whnf
     exact ⟨⟨(k + 1,_),hkn,hst⟩,[],by dsimp only;omega,rfl,⟨zA rfl,zA rfl,zE (zD rfl rfl),zE zW,zA rfl,zA rfl,zA rfl,zA rfl,zA rfl,zE (zD rfl rfl),zA rfl,zA w4,trivial⟩,⟨⟨rfl,zP (by omega) (qF rfl rfl rfl rfl rfl rfl rfl rfl)⟩,⟨rfl,zB⟩,⟨rfl,zB⟩,⟨rfl,zB⟩,⟨rfl,zB⟩,⟨rfl,zB⟩,⟨rfl,zB⟩,⟨rfl,zB⟩,⟨rfl,zB⟩,trivial⟩⟩
   . rw [if_neg hc] at hst;conv=>whnf
     exact ⟨⟨(k + 1,l),hkn,hst⟩,[],by dsimp only;omega,rfl,⟨zA rfl,zA rfl,zE (zD rfl rfl),zE zW,zA rfl,zA rfl,zA rfl,zA rfl,zA rfl,zE (zD rfl rfl),zA rfl,zA w4,trivial⟩,⟨⟨rfl,zP (by omega) (qF rfl rfl rfl rfl rfl rfl rfl rfl)⟩,⟨rfl,zB⟩,⟨rfl,zB⟩,⟨rfl,zB⟩,⟨rfl,zB⟩,⟨rfl,zB⟩,⟨rfl,zB⟩,⟨rfl,zB⟩,⟨rfl,zB⟩,trivial⟩⟩
 . obtain rfl : l = W:=by
    rw [List.drop_of_length_le (by omega)] at hW;exact hW
   clear hW;have w5 : IntKind.i64.wrap (l + 1) = l + 1:=IntWalk.i64_in _ (by omega);have hcl : ql (M.getD 1 default) (l + 1) = Zo now (M.getD 1 default):=by rw [<- eW];exact YX hS
   obtain ⟨X,eX⟩ : ∃ X,Zo now (M.getD 1 default) = X:=⟨_,rfl⟩;rw [eX] at hcl f1;repeat' (first | (simp only [w5]) | (apply And.intro<;>intro hc<;>(first | exact Bool.noConfusion hc | (exfalso;first | exact absurd rfl hc | omega) | (simp only [zg] at hc<;>first | exact absurd rfl hc | (exfalso;first | exact absurd rfl hc | omega) | skip) | skip)) | (refine And.intro ze ?_) | (apply And.intro) | (intro s hs;(have q:=qp hs (YB rfl rfl (zL zR _)) hcl;clear hs;subst q)) | (refine Exists.intro _ (And.intro ⟨rfl,rfl,rfl⟩ ?_)))
   . exact Nat.le_of_eq (Nat.zero_add _)
   . exact ⟨rfl,rfl,λ_ _=>⟨rfl,zl _⟩⟩
   . exact Eq.mpr (congrArg KpI (zL zR _)) hk
   conv=>whnf
   refine ⟨s',[(3,some 19)],by show L.length - s'.i < _;rw [f4];omega,rfl,⟨zA rfl,zA rfl,zE (zD rfl (by rw [f1,List.length_set])),zE zW,zA rfl,zA rfl,zA (by rw [f4];rfl),trivial⟩,⟨⟨rfl,⟨rfl,by show _ = s'.M.length;rw [f1,List.length_set],rfl,rfl,λp hp j hj=>?_⟩⟩,⟨rfl,zF (by rw [f1];exact congrArg Sed.held (zJ (by decide)).symm)⟩,⟨rfl,zF (by rw [f1,qH hiM])⟩,⟨rfl,zF (by rw [f1];exact congrArg Sed.held (zJ (by decide)).symm)⟩,⟨rfl,zF (by rw [f1];exact congrArg Sed.held (zJ (by decide)).symm)⟩,⟨rfl,zF (by rw [f1];exact congrArg Sed.held (zJ (by decide)).symm)⟩,⟨rfl,zF (by rw [f1];exact congrArg Sed.held (zJ (by decide)).symm)⟩,⟨rfl,zF (by rw [f1];exact congrArg Sed.held (zJ (by decide)).symm)⟩,⟨rfl,zF (by rw [f1];exact congrArg Sed.held (zJ (by decide)).symm)⟩,trivial⟩⟩;have hp : p < M.length:=hp;have hj : j < 3:=hj;show ZX _ _ (ZT 2 s'.M p j);rw [f1];rcases (show p = 0 \/ p = 1 \/ p = 2 \/ p = 3 \/ p = 4 \/ p = 5 \/ p = 6 \/ p = 7 by omega) with rfl | rfl | rfl | rfl | rfl | rfl | rfl | rfl;all_goals first
    | exact ZG hj (by decide) (zq (by decide)) rfl
    | skip
   refine ZH hiM ?_;rcases j with _ | _ | _ | j
   . exact zC rfl
   . exact zC rfl
   . exact zD rfl rfl
   . omega
theorem rs1_2 (L : List Sed) (now draw : Int) (hv : ZC L = true) (s : MapI (Zo now) L) (hi : s.i = 2) (hil : s.i < L.length) (K : Kt) :
 Zs T (Zt LRs) 1 Try.f46.ntmps 0 (Zz (ZK 6 (Try.f46.body.getD Code.ret))) (SR1 L now draw s).fr (SR1 L now draw s).H (SR1 L now draw s).nx (QY (λfr H _=>Qz (SR1 L now draw) (λs=>L.length - s.i) 0 (L.length - s.i) fr H) K):=by
 have h8:=Zp hv;have hS : SdOk (L.getD s.i default):=(qk hv _ (zj hil)).2;obtain ⟨s',es'⟩ : ∃ s',s.next hil _ rfl = s':=⟨_,rfl⟩;have f1 : s'.M = s.M.set s.i (Zo now (L.getD s.i default)):=by rw [<- es'];rfl
 have f4 : s'.i = s.i + 1:=by rw [<- es'];rfl
 clear es';obtain ⟨i,M,hn,hi0,h1,h2⟩:=s;dsimp only at hi hil hS f1 f4;subst hi;have hiM : 2 < M.length:=by omega
 have e0:=h2 2 (Nat.le_refl _);rw [<- e0] at hS f1;have hk:=hS.k;have hh:=hS.n;have hmn:=hS.mn;unfold SR1;dsimp only;clear h1 h2 e0;repeat' (first | (apply And.intro<;>intro hc<;>(first | exact Bool.noConfusion hc | (exfalso;first | exact absurd rfl hc | omega) | (simp only [zg] at hc<;>first | exact absurd rfl hc | (exfalso;first | exact absurd rfl hc | omega) | skip) | skip)) | (refine And.intro ze ?_) | (apply And.intro) | (intro s hs;skip) | (refine Exists.intro _ (And.intro ⟨rfl,rfl,rfl⟩ ?_)))
 conv=>whnf
 obtain ⟨W,eW⟩ : ∃ W,QH now (M.getD 2 default).held (-1) = W:=⟨_,rfl⟩;have hWr : -1 <= W /\ W < 1073741824:=by rw [<- eW];exact zAC (zBX hS) ⟨Int.le_refl _,by decide⟩
 refine zQ (zT qr) (λs : {p : Nat × Int // p.1 <= (M.getD 2 default).held.length /\ QH now ((M.getD 2 default).held.drop p.1) p.2 = W}=>(⟨[(1,zO (.int .i64 now)),(2,zO (.int .u32 draw)),(9,zO (.os 1 0 M.length)),(10,zO .nils),(11,zO (.int .u32 0)),(31,zO (.int .i64 (L.length : Int))),(32,zO (.int .i64 ((2 : Nat) : Int))),(12,zO (.int .i64 ((2 : Nat) : Int))),(13,zO (.int .i64 s.1.2)),(39,zO (.os 4 0 (M.getD 2 default).held.length)),(40,zO (.int .i64 ((M.getD 2 default).held.length : Int))),(41,zO (.int .i64 (s.1.1 : Int)))],[(1,some (qt 2 M.length M)),(2,some (zV (M.getD 0 default).held)),(3,some (zV (M.getD 1 default).held)),(4,some (zV (M.getD 2 default).held)),(5,some (zV (M.getD 3 default).held)),(6,some (zV (M.getD 4 default).held)),(7,some (zV (M.getD 5 default).held)),(8,some (zV (M.getD 6 default).held)),(9,some (zV (M.getD 7 default).held))],10⟩ : Hd)) (λs=>(M.getD 2 default).held.length - s.1.1) (λ_=>rfl) ?_ ⟨(0,-1),Nat.zero_le _,eW⟩ [] ⟨rfl,⟨zA rfl,zA rfl,zE (zD rfl rfl),zE zW,zA rfl,zA rfl,zA rfl,zA rfl,zA rfl,zE (zD rfl rfl),zA rfl,zA rfl,trivial⟩,⟨⟨rfl,zP (by omega) (qF rfl rfl rfl rfl rfl rfl rfl rfl)⟩,⟨rfl,zB⟩,⟨rfl,zB⟩,⟨rfl,zB⟩,⟨rfl,zB⟩,⟨rfl,zB⟩,⟨rfl,zB⟩,⟨rfl,zB⟩,⟨rfl,zB⟩,trivial⟩⟩;rintro ⟨⟨k,l⟩,hkl,hW⟩;dsimp only at hkl hW ⊢;by_cases hkn : k < (M.getD 2 default).held.length
 . have w4 : IntKind.i64.wrap ((k : Int) + 1) = ((k + 1 : Nat) : Int):=(IntWalk.i64_in _ (by omega)).trans (by omega);have hst : QH now ((M.getD 2 default).held.drop (k + 1)) (if ((M.getD 2 default).held.getD k default).til <= now then ((M.getD 2 default).held.getD k default).num else l) = W:=by rw [<- hW,qL hkn];rfl
   have z0 : 0 + (k : Int).toNat = k:=Nat.zero_add k;repeat' (first | (simp only [z0,w4]) | (apply And.intro<;>intro hc<;>(first | exact Bool.noConfusion hc | (exfalso;first | exact absurd rfl hc | omega) | (simp only [zg] at hc<;>first | exact absurd rfl hc | (exfalso;first | exact absurd rfl hc | omega) | skip) | skip)) | (refine And.intro ze ?_) | (apply And.intro) | (intro s hs;skip) | (refine Exists.intro _ (And.intro ⟨rfl,rfl,rfl⟩ ?_)))
   . rw [if_pos hc] at hst;conv=>whnf
     exact ⟨⟨(k + 1,_),hkn,hst⟩,[],by dsimp only;omega,rfl,⟨zA rfl,zA rfl,zE (zD rfl rfl),zE zW,zA rfl,zA rfl,zA rfl,zA rfl,zA rfl,zE (zD rfl rfl),zA rfl,zA w4,trivial⟩,⟨⟨rfl,zP (by omega) (qF rfl rfl rfl rfl rfl rfl rfl rfl)⟩,⟨rfl,zB⟩,⟨rfl,zB⟩,⟨rfl,zB⟩,⟨rfl,zB⟩,⟨rfl,zB⟩,⟨rfl,zB⟩,⟨rfl,zB⟩,⟨rfl,zB⟩,trivial⟩⟩
   . rw [if_neg hc] at hst;conv=>whnf
     exact ⟨⟨(k + 1,l),hkn,hst⟩,[],by dsimp only;omega,rfl,⟨zA rfl,zA rfl,zE (zD rfl rfl),zE zW,zA rfl,zA rfl,zA rfl,zA rfl,zA rfl,zE (zD rfl rfl),zA rfl,zA w4,trivial⟩,⟨⟨rfl,zP (by omega) (qF rfl rfl rfl rfl rfl rfl rfl rfl)⟩,⟨rfl,zB⟩,⟨rfl,zB⟩,⟨rfl,zB⟩,⟨rfl,zB⟩,⟨rfl,zB⟩,⟨rfl,zB⟩,⟨rfl,zB⟩,⟨rfl,zB⟩,trivial⟩⟩
 . obtain rfl : l = W:=by
    rw [List.drop_of_length_le (by omega)] at hW;exact hW
   clear hW;have w5 : IntKind.i64.wrap (l + 1) = l + 1:=IntWalk.i64_in _ (by omega);have hcl : ql (M.getD 2 default) (l + 1) = Zo now (M.getD 2 default):=by rw [<- eW];exact YX hS
   obtain ⟨X,eX⟩ : ∃ X,Zo now (M.getD 2 default) = X:=⟨_,rfl⟩;rw [eX] at hcl f1;repeat' (first | (simp only [w5]) | (apply And.intro<;>intro hc<;>(first | exact Bool.noConfusion hc | (exfalso;first | exact absurd rfl hc | omega) | (simp only [zg] at hc<;>first | exact absurd rfl hc | (exfalso;first | exact absurd rfl hc | omega) | skip) | skip)) | (refine And.intro ze ?_) | (apply And.intro) | (intro s hs;(have q:=qp hs (YB rfl rfl (zL zR _)) hcl;clear hs;subst q)) | (refine Exists.intro _ (And.intro ⟨rfl,rfl,rfl⟩ ?_)))
   . exact Nat.le_of_eq (Nat.zero_add _)
   . exact ⟨rfl,rfl,λ_ _=>⟨rfl,zl _⟩⟩
   . exact Eq.mpr (congrArg KpI (zL zR _)) hk
   conv=>whnf
   refine ⟨s',[(4,some 19)],by show L.length - s'.i < _;rw [f4];omega,rfl,⟨zA rfl,zA rfl,zE (zD rfl (by rw [f1,List.length_set])),zE zW,zA rfl,zA rfl,zA (by rw [f4];rfl),trivial⟩,⟨⟨rfl,⟨rfl,by show _ = s'.M.length;rw [f1,List.length_set],rfl,rfl,λp hp j hj=>?_⟩⟩,⟨rfl,zF (by rw [f1];exact congrArg Sed.held (zJ (by decide)).symm)⟩,⟨rfl,zF (by rw [f1];exact congrArg Sed.held (zJ (by decide)).symm)⟩,⟨rfl,zF (by rw [f1,qH hiM])⟩,⟨rfl,zF (by rw [f1];exact congrArg Sed.held (zJ (by decide)).symm)⟩,⟨rfl,zF (by rw [f1];exact congrArg Sed.held (zJ (by decide)).symm)⟩,⟨rfl,zF (by rw [f1];exact congrArg Sed.held (zJ (by decide)).symm)⟩,⟨rfl,zF (by rw [f1];exact congrArg Sed.held (zJ (by decide)).symm)⟩,⟨rfl,zF (by rw [f1];exact congrArg Sed.held (zJ (by decide)).symm)⟩,trivial⟩⟩;have hp : p < M.length:=hp;have hj : j < 3:=hj;show ZX _ _ (ZT 2 s'.M p j);rw [f1];rcases (show p = 0 \/ p = 1 \/ p = 2 \/ p = 3 \/ p = 4 \/ p = 5 \/ p = 6 \/ p = 7 by omega) with rfl | rfl | rfl | rfl | rfl | rfl | rfl | rfl;all_goals first
    | exact ZG hj (by decide) (zq (by decide)) rfl
    | skip
   refine ZH hiM ?_;rcases j with _ | _ | _ | j
   . exact zC rfl
   . exact zC rfl
   . exact zD rfl rfl
   . omega
theorem rs1_3 (L : List Sed) (now draw : Int) (hv : ZC L = true) (s : MapI (Zo now) L) (hi : s.i = 3) (hil : s.i < L.length) (K : Kt) :
 Zs T (Zt LRs) 1 Try.f46.ntmps 0 (Zz (ZK 6 (Try.f46.body.getD Code.ret))) (SR1 L now draw s).fr (SR1 L now draw s).H (SR1 L now draw s).nx (QY (λfr H _=>Qz (SR1 L now draw) (λs=>L.length - s.i) 0 (L.length - s.i) fr H) K):=by
 have h8:=Zp hv;have hS : SdOk (L.getD s.i default):=(qk hv _ (zj hil)).2;obtain ⟨s',es'⟩ : ∃ s',s.next hil _ rfl = s':=⟨_,rfl⟩;have f1 : s'.M = s.M.set s.i (Zo now (L.getD s.i default)):=by rw [<- es'];rfl
 have f4 : s'.i = s.i + 1:=by rw [<- es'];rfl
 clear es';obtain ⟨i,M,hn,hi0,h1,h2⟩:=s;dsimp only at hi hil hS f1 f4;subst hi;have hiM : 3 < M.length:=by omega
 have e0:=h2 3 (Nat.le_refl _);rw [<- e0] at hS f1;have hk:=hS.k;have hh:=hS.n;have hmn:=hS.mn;unfold SR1;dsimp only;clear h1 h2 e0;repeat' (first | (apply And.intro<;>intro hc<;>(first | exact Bool.noConfusion hc | (exfalso;first | exact absurd rfl hc | omega) | (simp only [zg] at hc<;>first | exact absurd rfl hc | (exfalso;first | exact absurd rfl hc | omega) | skip) | skip)) | (refine And.intro ze ?_) | (apply And.intro) | (intro s hs;skip) | (refine Exists.intro _ (And.intro ⟨rfl,rfl,rfl⟩ ?_)))
 conv=>whnf
 obtain ⟨W,eW⟩ : ∃ W,QH now (M.getD 3 default).held (-1) = W:=⟨_,rfl⟩;have hWr : -1 <= W /\ W < 1073741824:=by rw [<- eW];exact zAC (zBX hS) ⟨Int.le_refl _,by decide⟩
 refine zQ (zT qr) (λs : {p : Nat × Int // p.1 <= (M.getD 3 default).held.length /\ QH now ((M.getD 3 default).held.drop p.1) p.2 = W}=>(⟨[(1,zO (.int .i64 now)),(2,zO (.int .u32 draw)),(9,zO (.os 1 0 M.length)),(10,zO .nils),(11,zO (.int .u32 0)),(31,zO (.int .i64 (L.length : Int))),(32,zO (.int .i64 ((3 : Nat) : Int))),(12,zO (.int .i64 ((3 : Nat) : Int))),(13,zO (.int .i64 s.1.2)),(39,zO (.os 5 0 (M.getD 3 default).held.length)),(40,zO (.int .i64 ((M.getD 3 default).held.length : Int))),(41,zO (.int .i64 (s.1.1 : Int)))],[(1,some (qt 2 M.length M)),(2,some (zV (M.getD 0 default).held)),(3,some (zV (M.getD 1 default).held)),(4,some (zV (M.getD 2 default).held)),(5,some (zV (M.getD 3 default).held)),(6,some (zV (M.getD 4 default).held)),(7,some (zV (M.getD 5 default).held)),(8,some (zV (M.getD 6 default).held)),(9,some (zV (M.getD 7 default).held))],10⟩ : Hd)) (λs=>(M.getD 3 default).held.length - s.1.1) (λ_=>rfl) ?_ ⟨(0,-1),Nat.zero_le _,eW⟩ [] ⟨rfl,⟨zA rfl,zA rfl,zE (zD rfl rfl),zE zW,zA rfl,zA rfl,zA rfl,zA rfl,zA rfl,zE (zD rfl rfl),zA rfl,zA rfl,trivial⟩,⟨⟨rfl,zP (by omega) (qF rfl rfl rfl rfl rfl rfl rfl rfl)⟩,⟨rfl,zB⟩,⟨rfl,zB⟩,⟨rfl,zB⟩,⟨rfl,zB⟩,⟨rfl,zB⟩,⟨rfl,zB⟩,⟨rfl,zB⟩,⟨rfl,zB⟩,trivial⟩⟩;rintro ⟨⟨k,l⟩,hkl,hW⟩;dsimp only at hkl hW ⊢;by_cases hkn : k < (M.getD 3 default).held.length
 . have w4 : IntKind.i64.wrap ((k : Int) + 1) = ((k + 1 : Nat) : Int):=(IntWalk.i64_in _ (by omega)).trans (by omega);have hst : QH now ((M.getD 3 default).held.drop (k + 1)) (if ((M.getD 3 default).held.getD k default).til <= now then ((M.getD 3 default).held.getD k default).num else l) = W:=by rw [<- hW,qL hkn];rfl
   have z0 : 0 + (k : Int).toNat = k:=Nat.zero_add k;repeat' (first | (simp only [z0,w4]) | (apply And.intro<;>intro hc<;>(first | exact Bool.noConfusion hc | (exfalso;first | exact absurd rfl hc | omega) | (simp only [zg] at hc<;>first | exact absurd rfl hc | (exfalso;first | exact absurd rfl hc | omega) | skip) | skip)) | (refine And.intro ze ?_) | (apply And.intro) | (intro s hs;skip) | (refine Exists.intro _ (And.intro ⟨rfl,rfl,rfl⟩ ?_)))
   . rw [if_pos hc] at hst;conv=>whnf
     exact ⟨⟨(k + 1,_),hkn,hst⟩,[],by dsimp only;omega,rfl,⟨zA rfl,zA rfl,zE (zD rfl rfl),zE zW,zA rfl,zA rfl,zA rfl,zA rfl,zA rfl,zE (zD rfl rfl),zA rfl,zA w4,trivial⟩,⟨⟨rfl,zP (by omega) (qF rfl rfl rfl rfl rfl rfl rfl rfl)⟩,⟨rfl,zB⟩,⟨rfl,zB⟩,⟨rfl,zB⟩,⟨rfl,zB⟩,⟨rfl,zB⟩,⟨rfl,zB⟩,⟨rfl,zB⟩,⟨rfl,zB⟩,trivial⟩⟩
   . rw [if_neg hc] at hst;conv=>whnf
     exact ⟨⟨(k + 1,l),hkn,hst⟩,[],by dsimp only;omega,rfl,⟨zA rfl,zA rfl,zE (zD rfl rfl),zE zW,zA rfl,zA rfl,zA rfl,zA rfl,zA rfl,zE (zD rfl rfl),zA rfl,zA w4,trivial⟩,⟨⟨rfl,zP (by omega) (qF rfl rfl rfl rfl rfl rfl rfl rfl)⟩,⟨rfl,zB⟩,⟨rfl,zB⟩,⟨rfl,zB⟩,⟨rfl,zB⟩,⟨rfl,zB⟩,⟨rfl,zB⟩,⟨rfl,zB⟩,⟨rfl,zB⟩,trivial⟩⟩
 . obtain rfl : l = W:=by
    rw [List.drop_of_length_le (by omega)] at hW;exact hW
   clear hW;have w5 : IntKind.i64.wrap (l + 1) = l + 1:=IntWalk.i64_in _ (by omega);have hcl : ql (M.getD 3 default) (l + 1) = Zo now (M.getD 3 default):=by rw [<- eW];exact YX hS
   obtain ⟨X,eX⟩ : ∃ X,Zo now (M.getD 3 default) = X:=⟨_,rfl⟩;rw [eX] at hcl f1;repeat' (first | (simp only [w5]) | (apply And.intro<;>intro hc<;>(first | exact Bool.noConfusion hc | (exfalso;first | exact absurd rfl hc | omega) | (simp only [zg] at hc<;>first | exact absurd rfl hc | (exfalso;first | exact absurd rfl hc | omega) | skip) | skip)) | (refine And.intro ze ?_) | (apply And.intro) | (intro s hs;(have q:=qp hs (YB rfl rfl (zL zR _)) hcl;clear hs;subst q)) | (refine Exists.intro _ (And.intro ⟨rfl,rfl,rfl⟩ ?_)))
   . exact Nat.le_of_eq (Nat.zero_add _)
   . exact ⟨rfl,rfl,λ_ _=>⟨rfl,zl _⟩⟩
   . exact Eq.mpr (congrArg KpI (zL zR _)) hk
   conv=>whnf
   refine ⟨s',[(5,some 19)],by show L.length - s'.i < _;rw [f4];omega,rfl,⟨zA rfl,zA rfl,zE (zD rfl (by rw [f1,List.length_set])),zE zW,zA rfl,zA rfl,zA (by rw [f4];rfl),trivial⟩,⟨⟨rfl,⟨rfl,by show _ = s'.M.length;rw [f1,List.length_set],rfl,rfl,λp hp j hj=>?_⟩⟩,⟨rfl,zF (by rw [f1];exact congrArg Sed.held (zJ (by decide)).symm)⟩,⟨rfl,zF (by rw [f1];exact congrArg Sed.held (zJ (by decide)).symm)⟩,⟨rfl,zF (by rw [f1];exact congrArg Sed.held (zJ (by decide)).symm)⟩,⟨rfl,zF (by rw [f1,qH hiM])⟩,⟨rfl,zF (by rw [f1];exact congrArg Sed.held (zJ (by decide)).symm)⟩,⟨rfl,zF (by rw [f1];exact congrArg Sed.held (zJ (by decide)).symm)⟩,⟨rfl,zF (by rw [f1];exact congrArg Sed.held (zJ (by decide)).symm)⟩,⟨rfl,zF (by rw [f1];exact congrArg Sed.held (zJ (by decide)).symm)⟩,trivial⟩⟩;have hp : p < M.length:=hp;have hj : j < 3:=hj;show ZX _ _ (ZT 2 s'.M p j);rw [f1];rcases (show p = 0 \/ p = 1 \/ p = 2 \/ p = 3 \/ p = 4 \/ p = 5 \/ p = 6 \/ p = 7 by omega) with rfl | rfl | rfl | rfl | rfl | rfl | rfl | rfl;all_goals first
    | exact ZG hj (by decide) (zq (by decide)) rfl
    | skip
   refine ZH hiM ?_;rcases j with _ | _ | _ | j
   . exact zC rfl
   . exact zC rfl
   . exact zD rfl rfl
   . omega
theorem rs1_4 (L : List Sed) (now draw : Int) (hv : ZC L = true) (s : MapI (Zo now) L) (hi : s.i = 4) (hil : s.i < L.length) (K : Kt) :
 Zs T (Zt LRs) 1 Try.f46.ntmps 0 (Zz (ZK 6 (Try.f46.body.getD Code.ret))) (SR1 L now draw s).fr (SR1 L now draw s).H (SR1 L now draw s).nx (QY (λfr H _=>Qz (SR1 L now draw) (λs=>L.length - s.i) 0 (L.length - s.i) fr H) K):=by
 have h8:=Zp hv;have hS : SdOk (L.getD s.i default):=(qk hv _ (zj hil)).2;obtain ⟨s',es'⟩ : ∃ s',s.next hil _ rfl = s':=⟨_,rfl⟩;have f1 : s'.M = s.M.set s.i (Zo now (L.getD s.i default)):=by rw [<- es'];rfl
 have f4 : s'.i = s.i + 1:=by rw [<- es'];rfl
 clear es';obtain ⟨i,M,hn,hi0,h1,h2⟩:=s;dsimp only at hi hil hS f1 f4;subst hi;have hiM : 4 < M.length:=by omega
 have e0:=h2 4 (Nat.le_refl _);rw [<- e0] at hS f1;have hk:=hS.k;have hh:=hS.n;have hmn:=hS.mn;unfold SR1;dsimp only;clear h1 h2 e0;repeat' (first | (apply And.intro<;>intro hc<;>(first | exact Bool.noConfusion hc | (exfalso;first | exact absurd rfl hc | omega) | (simp only [zg] at hc<;>first | exact absurd rfl hc | (exfalso;first | exact absurd rfl hc | omega) | skip) | skip)) | (refine And.intro ze ?_) | (apply And.intro) | (intro s hs;skip) | (refine Exists.intro _ (And.intro ⟨rfl,rfl,rfl⟩ ?_)))
 conv=>whnf
 obtain ⟨W,eW⟩ : ∃ W,QH now (M.getD 4 default).held (-1) = W:=⟨_,rfl⟩;have hWr : -1 <= W /\ W < 1073741824:=by rw [<- eW];exact zAC (zBX hS) ⟨Int.le_refl _,by decide⟩
 refine zQ (zT qr) (λs : {p : Nat × Int // p.1 <= (M.getD 4 default).held.length /\ QH now ((M.getD 4 default).held.drop p.1) p.2 = W}=>(⟨[(1,zO (.int .i64 now)),(2,zO (.int .u32 draw)),(9,zO (.os 1 0 M.length)),(10,zO .nils),(11,zO (.int .u32 0)),(31,zO (.int .i64 (L.length : Int))),(32,zO (.int .i64 ((4 : Nat) : Int))),(12,zO (.int .i64 ((4 : Nat) : Int))),(13,zO (.int .i64 s.1.2)),(39,zO (.os 6 0 (M.getD 4 default).held.length)),(40,zO (.int .i64 ((M.getD 4 default).held.length : Int))),(41,zO (.int .i64 (s.1.1 : Int)))],[(1,some (qt 2 M.length M)),(2,some (zV (M.getD 0 default).held)),(3,some (zV (M.getD 1 default).held)),(4,some (zV (M.getD 2 default).held)),(5,some (zV (M.getD 3 default).held)),(6,some (zV (M.getD 4 default).held)),(7,some (zV (M.getD 5 default).held)),(8,some (zV (M.getD 6 default).held)),(9,some (zV (M.getD 7 default).held))],10⟩ : Hd)) (λs=>(M.getD 4 default).held.length - s.1.1) (λ_=>rfl) ?_ ⟨(0,-1),Nat.zero_le _,eW⟩ [] ⟨rfl,⟨zA rfl,zA rfl,zE (zD rfl rfl),zE zW,zA rfl,zA rfl,zA rfl,zA rfl,zA rfl,zE (zD rfl rfl),zA rfl,zA rfl,trivial⟩,⟨⟨rfl,zP (by omega) (qF rfl rfl rfl rfl rfl rfl rfl rfl)⟩,⟨rfl,zB⟩,⟨rfl,zB⟩,⟨rfl,zB⟩,⟨rfl,zB⟩,⟨rfl,zB⟩,⟨rfl,zB⟩,⟨rfl,zB⟩,⟨rfl,zB⟩,trivial⟩⟩;rintro ⟨⟨k,l⟩,hkl,hW⟩;dsimp only at hkl hW ⊢;by_cases hkn : k < (M.getD 4 default).held.length
 . have w4 : IntKind.i64.wrap ((k : Int) + 1) = ((k + 1 : Nat) : Int):=(IntWalk.i64_in _ (by omega)).trans (by omega);have hst : QH now ((M.getD 4 default).held.drop (k + 1)) (if ((M.getD 4 default).held.getD k default).til <= now then ((M.getD 4 default).held.getD k default).num else l) = W:=by rw [<- hW,qL hkn];rfl
   have z0 : 0 + (k : Int).toNat = k:=Nat.zero_add k;repeat' (first | (simp only [z0,w4]) | (apply And.intro<;>intro hc<;>(first | exact Bool.noConfusion hc | (exfalso;first | exact absurd rfl hc | omega) | (simp only [zg] at hc<;>first | exact absurd rfl hc | (exfalso;first | exact absurd rfl hc | omega) | skip) | skip)) | (refine And.intro ze ?_) | (apply And.intro) | (intro s hs;skip) | (refine Exists.intro _ (And.intro ⟨rfl,rfl,rfl⟩ ?_)))
   . rw [if_pos hc] at hst;conv=>whnf
     exact ⟨⟨(k + 1,_),hkn,hst⟩,[],by dsimp only;omega,rfl,⟨zA rfl,zA rfl,zE (zD rfl rfl),zE zW,zA rfl,zA rfl,zA rfl,zA rfl,zA rfl,zE (zD rfl rfl),zA rfl,zA w4,trivial⟩,⟨⟨rfl,zP (by omega) (qF rfl rfl rfl rfl rfl rfl rfl rfl)⟩,⟨rfl,zB⟩,⟨rfl,zB⟩,⟨rfl,zB⟩,⟨rfl,zB⟩,⟨rfl,zB⟩,⟨rfl,zB⟩,⟨rfl,zB⟩,⟨rfl,zB⟩,trivial⟩⟩
   . rw [if_neg hc] at hst;conv=>whnf
     exact ⟨⟨(k + 1,l),hkn,hst⟩,[],by dsimp only;omega,rfl,⟨zA rfl,zA rfl,zE (zD rfl rfl),zE zW,zA rfl,zA rfl,zA rfl,zA rfl,zA rfl,zE (zD rfl rfl),zA rfl,zA w4,trivial⟩,⟨⟨rfl,zP (by omega) (qF rfl rfl rfl rfl rfl rfl rfl rfl)⟩,⟨rfl,zB⟩,⟨rfl,zB⟩,⟨rfl,zB⟩,⟨rfl,zB⟩,⟨rfl,zB⟩,⟨rfl,zB⟩,⟨rfl,zB⟩,⟨rfl,zB⟩,trivial⟩⟩
 . obtain rfl : l = W:=by
    rw [List.drop_of_length_le (by omega)] at hW;exact hW
   clear hW;have w5 : IntKind.i64.wrap (l + 1) = l + 1:=IntWalk.i64_in _ (by omega);have hcl : ql (M.getD 4 default) (l + 1) = Zo now (M.getD 4 default):=by rw [<- eW];exact YX hS
   obtain ⟨X,eX⟩ : ∃ X,Zo now (M.getD 4 default) = X:=⟨_,rfl⟩;rw [eX] at hcl f1;repeat' (first | (simp only [w5]) | (apply And.intro<;>intro hc<;>(first | exact Bool.noConfusion hc | (exfalso;first | exact absurd rfl hc | omega) | (simp only [zg] at hc<;>first | exact absurd rfl hc | (exfalso;first | exact absurd rfl hc | omega) | skip) | skip)) | (refine And.intro ze ?_) | (apply And.intro) | (intro s hs;(have q:=qp hs (YB rfl rfl (zL zR _)) hcl;clear hs;subst q)) | (refine Exists.intro _ (And.intro ⟨rfl,rfl,rfl⟩ ?_)))
   . exact Nat.le_of_eq (Nat.zero_add _)
   . exact ⟨rfl,rfl,λ_ _=>⟨rfl,zl _⟩⟩
   . exact Eq.mpr (congrArg KpI (zL zR _)) hk
   conv=>whnf
   refine ⟨s',[(6,some 19)],by show L.length - s'.i < _;rw [f4];omega,rfl,⟨zA rfl,zA rfl,zE (zD rfl (by rw [f1,List.length_set])),zE zW,zA rfl,zA rfl,zA (by rw [f4];rfl),trivial⟩,⟨⟨rfl,⟨rfl,by show _ = s'.M.length;rw [f1,List.length_set],rfl,rfl,λp hp j hj=>?_⟩⟩,⟨rfl,zF (by rw [f1];exact congrArg Sed.held (zJ (by decide)).symm)⟩,⟨rfl,zF (by rw [f1];exact congrArg Sed.held (zJ (by decide)).symm)⟩,⟨rfl,zF (by rw [f1];exact congrArg Sed.held (zJ (by decide)).symm)⟩,⟨rfl,zF (by rw [f1];exact congrArg Sed.held (zJ (by decide)).symm)⟩,⟨rfl,zF (by rw [f1,qH hiM])⟩,⟨rfl,zF (by rw [f1];exact congrArg Sed.held (zJ (by decide)).symm)⟩,⟨rfl,zF (by rw [f1];exact congrArg Sed.held (zJ (by decide)).symm)⟩,⟨rfl,zF (by rw [f1];exact congrArg Sed.held (zJ (by decide)).symm)⟩,trivial⟩⟩;have hp : p < M.length:=hp;have hj : j < 3:=hj;show ZX _ _ (ZT 2 s'.M p j);rw [f1];rcases (show p = 0 \/ p = 1 \/ p = 2 \/ p = 3 \/ p = 4 \/ p = 5 \/ p = 6 \/ p = 7 by omega) with rfl | rfl | rfl | rfl | rfl | rfl | rfl | rfl;all_goals first
    | exact ZG hj (by decide) (zq (by decide)) rfl
    | skip
   refine ZH hiM ?_;rcases j with _ | _ | _ | j
   . exact zC rfl
   . exact zC rfl
   . exact zD rfl rfl
   . omega
theorem rs1_5 (L : List Sed) (now draw : Int) (hv : ZC L = true) (s : MapI (Zo now) L) (hi : s.i = 5) (hil : s.i < L.length) (K : Kt) :
 Zs T (Zt LRs) 1 Try.f46.ntmps 0 (Zz (ZK 6 (Try.f46.body.getD Code.ret))) (SR1 L now draw s).fr (SR1 L now draw s).H (SR1 L now draw s).nx (QY (λfr H _=>Qz (SR1 L now draw) (λs=>L.length - s.i) 0 (L.length - s.i) fr H) K):=by
 have h8:=Zp hv;have hS : SdOk (L.getD s.i default):=(qk hv _ (zj hil)).2;obtain ⟨s',es'⟩ : ∃ s',s.next hil _ rfl = s':=⟨_,rfl⟩;have f1 : s'.M = s.M.set s.i (Zo now (L.getD s.i default)):=by rw [<- es'];rfl
 have f4 : s'.i = s.i + 1:=by rw [<- es'];rfl
 clear es';obtain ⟨i,M,hn,hi0,h1,h2⟩:=s;dsimp only at hi hil hS f1 f4;subst hi;have hiM : 5 < M.length:=by omega
 have e0:=h2 5 (Nat.le_refl _);rw [<- e0] at hS f1;have hk:=hS.k;have hh:=hS.n;have hmn:=hS.mn;unfold SR1;dsimp only;clear h1 h2 e0;repeat' (first | (apply And.intro<;>intro hc<;>(first | exact Bool.noConfusion hc | (exfalso;first | exact absurd rfl hc | omega) | (simp only [zg] at hc<;>first | exact absurd rfl hc | (exfalso;first | exact absurd rfl hc | omega) | skip) | skip)) | (refine And.intro ze ?_) | (apply And.intro) | (intro s hs;skip) | (refine Exists.intro _ (And.intro ⟨rfl,rfl,rfl⟩ ?_)))
 conv=>whnf
 obtain ⟨W,eW⟩ : ∃ W,QH now (M.getD 5 default).held (-1) = W:=⟨_,rfl⟩;have hWr : -1 <= W /\ W < 1073741824:=by rw [<- eW];exact zAC (zBX hS) ⟨Int.le_refl _,by decide⟩
 refine zQ (zT qr) (λs : {p : Nat × Int // p.1 <= (M.getD 5 default).held.length /\ QH now ((M.getD 5 default).held.drop p.1) p.2 = W}=>(⟨[(1,zO (.int .i64 now)),(2,zO (.int .u32 draw)),(9,zO (.os 1 0 M.length)),(10,zO .nils),(11,zO (.int .u32 0)),(31,zO (.int .i64 (L.length : Int))),(32,zO (.int .i64 ((5 : Nat) : Int))),(12,zO (.int .i64 ((5 : Nat) : Int))),(13,zO (.int .i64 s.1.2)),(39,zO (.os 7 0 (M.getD 5 default).held.length)),(40,zO (.int .i64 ((M.getD 5 default).held.length : Int))),(41,zO (.int .i64 (s.1.1 : Int)))],[(1,some (qt 2 M.length M)),(2,some (zV (M.getD 0 default).held)),(3,some (zV (M.getD 1 default).held)),(4,some (zV (M.getD 2 default).held)),(5,some (zV (M.getD 3 default).held)),(6,some (zV (M.getD 4 default).held)),(7,some (zV (M.getD 5 default).held)),(8,some (zV (M.getD 6 default).held)),(9,some (zV (M.getD 7 default).held))],10⟩ : Hd)) (λs=>(M.getD 5 default).held.length - s.1.1) (λ_=>rfl) ?_ ⟨(0,-1),Nat.zero_le _,eW⟩ [] ⟨rfl,⟨zA rfl,zA rfl,zE (zD rfl rfl),zE zW,zA rfl,zA rfl,zA rfl,zA rfl,zA rfl,zE (zD rfl rfl),zA rfl,zA rfl,trivial⟩,⟨⟨rfl,zP (by omega) (qF rfl rfl rfl rfl rfl rfl rfl rfl)⟩,⟨rfl,zB⟩,⟨rfl,zB⟩,⟨rfl,zB⟩,⟨rfl,zB⟩,⟨rfl,zB⟩,⟨rfl,zB⟩,⟨rfl,zB⟩,⟨rfl,zB⟩,trivial⟩⟩;rintro ⟨⟨k,l⟩,hkl,hW⟩;dsimp only at hkl hW ⊢;by_cases hkn : k < (M.getD 5 default).held.length
 . have w4 : IntKind.i64.wrap ((k : Int) + 1) = ((k + 1 : Nat) : Int):=(IntWalk.i64_in _ (by omega)).trans (by omega);have hst : QH now ((M.getD 5 default).held.drop (k + 1)) (if ((M.getD 5 default).held.getD k default).til <= now then ((M.getD 5 default).held.getD k default).num else l) = W:=by rw [<- hW,qL hkn];rfl
   have z0 : 0 + (k : Int).toNat = k:=Nat.zero_add k;repeat' (first | (simp only [z0,w4]) | (apply And.intro<;>intro hc<;>(first | exact Bool.noConfusion hc | (exfalso;first | exact absurd rfl hc | omega) | (simp only [zg] at hc<;>first | exact absurd rfl hc | (exfalso;first | exact absurd rfl hc | omega) | skip) | skip)) | (refine And.intro ze ?_) | (apply And.intro) | (intro s hs;skip) | (refine Exists.intro _ (And.intro ⟨rfl,rfl,rfl⟩ ?_)))
   . rw [if_pos hc] at hst;conv=>whnf
     exact ⟨⟨(k + 1,_),hkn,hst⟩,[],by dsimp only;omega,rfl,⟨zA rfl,zA rfl,zE (zD rfl rfl),zE zW,zA rfl,zA rfl,zA rfl,zA rfl,zA rfl,zE (zD rfl rfl),zA rfl,zA w4,trivial⟩,⟨⟨rfl,zP (by omega) (qF rfl rfl rfl rfl rfl rfl rfl rfl)⟩,⟨rfl,zB⟩,⟨rfl,zB⟩,⟨rfl,zB⟩,⟨rfl,zB⟩,⟨rfl,zB⟩,⟨rfl,zB⟩,⟨rfl,zB⟩,⟨rfl,zB⟩,trivial⟩⟩
   . rw [if_neg hc] at hst;conv=>whnf
     exact ⟨⟨(k + 1,l),hkn,hst⟩,[],by dsimp only;omega,rfl,⟨zA rfl,zA rfl,zE (zD rfl rfl),zE zW,zA rfl,zA rfl,zA rfl,zA rfl,zA rfl,zE (zD rfl rfl),zA rfl,zA w4,trivial⟩,⟨⟨rfl,zP (by omega) (qF rfl rfl rfl rfl rfl rfl rfl rfl)⟩,⟨rfl,zB⟩,⟨rfl,zB⟩,⟨rfl,zB⟩,⟨rfl,zB⟩,⟨rfl,zB⟩,⟨rfl,zB⟩,⟨rfl,zB⟩,⟨rfl,zB⟩,trivial⟩⟩
 . obtain rfl : l = W:=by
    rw [List.drop_of_length_le (by omega)] at hW;exact hW
   clear hW;have w5 : IntKind.i64.wrap (l + 1) = l + 1:=IntWalk.i64_in _ (by omega);have hcl : ql (M.getD 5 default) (l + 1) = Zo now (M.getD 5 default):=by rw [<- eW];exact YX hS
   obtain ⟨X,eX⟩ : ∃ X,Zo now (M.getD 5 default) = X:=⟨_,rfl⟩;rw [eX] at hcl f1;repeat' (first | (simp only [w5]) | (apply And.intro<;>intro hc<;>(first | exact Bool.noConfusion hc | (exfalso;first | exact absurd rfl hc | omega) | (simp only [zg] at hc<;>first | exact absurd rfl hc | (exfalso;first | exact absurd rfl hc | omega) | skip) | skip)) | (refine And.intro ze ?_) | (apply And.intro) | (intro s hs;(have q:=qp hs (YB rfl rfl (zL zR _)) hcl;clear hs;subst q)) | (refine Exists.intro _ (And.intro ⟨rfl,rfl,rfl⟩ ?_)))
   . exact Nat.le_of_eq (Nat.zero_add _)
   . exact ⟨rfl,rfl,λ_ _=>⟨rfl,zl _⟩⟩
   . exact Eq.mpr (congrArg KpI (zL zR _)) hk
   conv=>whnf
   refine ⟨s',[(7,some 19)],by show L.length - s'.i < _;rw [f4];omega,rfl,⟨zA rfl,zA rfl,zE (zD rfl (by rw [f1,List.length_set])),zE zW,zA rfl,zA rfl,zA (by rw [f4];rfl),trivial⟩,⟨⟨rfl,⟨rfl,by show _ = s'.M.length;rw [f1,List.length_set],rfl,rfl,λp hp j hj=>?_⟩⟩,⟨rfl,zF (by rw [f1];exact congrArg Sed.held (zJ (by decide)).symm)⟩,⟨rfl,zF (by rw [f1];exact congrArg Sed.held (zJ (by decide)).symm)⟩,⟨rfl,zF (by rw [f1];exact congrArg Sed.held (zJ (by decide)).symm)⟩,⟨rfl,zF (by rw [f1];exact congrArg Sed.held (zJ (by decide)).symm)⟩,⟨rfl,zF (by rw [f1];exact congrArg Sed.held (zJ (by decide)).symm)⟩,⟨rfl,zF (by rw [f1,qH hiM])⟩,⟨rfl,zF (by rw [f1];exact congrArg Sed.held (zJ (by decide)).symm)⟩,⟨rfl,zF (by rw [f1];exact congrArg Sed.held (zJ (by decide)).symm)⟩,trivial⟩⟩;have hp : p < M.length:=hp;have hj : j < 3:=hj;show ZX _ _ (ZT 2 s'.M p j);rw [f1];rcases (show p = 0 \/ p = 1 \/ p = 2 \/ p = 3 \/ p = 4 \/ p = 5 \/ p = 6 \/ p = 7 by omega) with rfl | rfl | rfl | rfl | rfl | rfl | rfl | rfl;all_goals first
    | exact ZG hj (by decide) (zq (by decide)) rfl
    | skip
   refine ZH hiM ?_;rcases j with _ | _ | _ | j
   . exact zC rfl
   . exact zC rfl
   . exact zD rfl rfl
   . omega
theorem rs1_6 (L : List Sed) (now draw : Int) (hv : ZC L = true) (s : MapI (Zo now) L) (hi : s.i = 6) (hil : s.i < L.length) (K : Kt) :
 Zs T (Zt LRs) 1 Try.f46.ntmps 0 (Zz (ZK 6 (Try.f46.body.getD Code.ret))) (SR1 L now draw s).fr (SR1 L now draw s).H (SR1 L now draw s).nx (QY (λfr H _=>Qz (SR1 L now draw) (λs=>L.length - s.i) 0 (L.length - s.i) fr H) K):=by
 have h8:=Zp hv;have hS : SdOk (L.getD s.i default):=(qk hv _ (zj hil)).2;obtain ⟨s',es'⟩ : ∃ s',s.next hil _ rfl = s':=⟨_,rfl⟩;have f1 : s'.M = s.M.set s.i (Zo now (L.getD s.i default)):=by rw [<- es'];rfl
 have f4 : s'.i = s.i + 1:=by rw [<- es'];rfl
 clear es';obtain ⟨i,M,hn,hi0,h1,h2⟩:=s;dsimp only at hi hil hS f1 f4;subst hi;have hiM : 6 < M.length:=by omega
 have e0:=h2 6 (Nat.le_refl _);rw [<- e0] at hS f1;have hk:=hS.k;have hh:=hS.n;have hmn:=hS.mn;unfold SR1;dsimp only;clear h1 h2 e0;repeat' (first | (apply And.intro<;>intro hc<;>(first | exact Bool.noConfusion hc | (exfalso;first | exact absurd rfl hc | omega) | (simp only [zg] at hc<;>first | exact absurd rfl hc | (exfalso;first | exact absurd rfl hc | omega) | skip) | skip)) | (refine And.intro ze ?_) | (apply And.intro) | (intro s hs;skip) | (refine Exists.intro _ (And.intro ⟨rfl,rfl,rfl⟩ ?_)))
 conv=>whnf
 obtain ⟨W,eW⟩ : ∃ W,QH now (M.getD 6 default).held (-1) = W:=⟨_,rfl⟩;have hWr : -1 <= W /\ W < 1073741824:=by rw [<- eW];exact zAC (zBX hS) ⟨Int.le_refl _,by decide⟩
 refine zQ (zT qr) (λs : {p : Nat × Int // p.1 <= (M.getD 6 default).held.length /\ QH now ((M.getD 6 default).held.drop p.1) p.2 = W}=>(⟨[(1,zO (.int .i64 now)),(2,zO (.int .u32 draw)),(9,zO (.os 1 0 M.length)),(10,zO .nils),(11,zO (.int .u32 0)),(31,zO (.int .i64 (L.length : Int))),(32,zO (.int .i64 ((6 : Nat) : Int))),(12,zO (.int .i64 ((6 : Nat) : Int))),(13,zO (.int .i64 s.1.2)),(39,zO (.os 8 0 (M.getD 6 default).held.length)),(40,zO (.int .i64 ((M.getD 6 default).held.length : Int))),(41,zO (.int .i64 (s.1.1 : Int)))],[(1,some (qt 2 M.length M)),(2,some (zV (M.getD 0 default).held)),(3,some (zV (M.getD 1 default).held)),(4,some (zV (M.getD 2 default).held)),(5,some (zV (M.getD 3 default).held)),(6,some (zV (M.getD 4 default).held)),(7,some (zV (M.getD 5 default).held)),(8,some (zV (M.getD 6 default).held)),(9,some (zV (M.getD 7 default).held))],10⟩ : Hd)) (λs=>(M.getD 6 default).held.length - s.1.1) (λ_=>rfl) ?_ ⟨(0,-1),Nat.zero_le _,eW⟩ [] ⟨rfl,⟨zA rfl,zA rfl,zE (zD rfl rfl),zE zW,zA rfl,zA rfl,zA rfl,zA rfl,zA rfl,zE (zD rfl rfl),zA rfl,zA rfl,trivial⟩,⟨⟨rfl,zP (by omega) (qF rfl rfl rfl rfl rfl rfl rfl rfl)⟩,⟨rfl,zB⟩,⟨rfl,zB⟩,⟨rfl,zB⟩,⟨rfl,zB⟩,⟨rfl,zB⟩,⟨rfl,zB⟩,⟨rfl,zB⟩,⟨rfl,zB⟩,trivial⟩⟩;rintro ⟨⟨k,l⟩,hkl,hW⟩;dsimp only at hkl hW ⊢;by_cases hkn : k < (M.getD 6 default).held.length
 . have w4 : IntKind.i64.wrap ((k : Int) + 1) = ((k + 1 : Nat) : Int):=(IntWalk.i64_in _ (by omega)).trans (by omega);have hst : QH now ((M.getD 6 default).held.drop (k + 1)) (if ((M.getD 6 default).held.getD k default).til <= now then ((M.getD 6 default).held.getD k default).num else l) = W:=by rw [<- hW,qL hkn];rfl
   have z0 : 0 + (k : Int).toNat = k:=Nat.zero_add k;repeat' (first | (simp only [z0,w4]) | (apply And.intro<;>intro hc<;>(first | exact Bool.noConfusion hc | (exfalso;first | exact absurd rfl hc | omega) | (simp only [zg] at hc<;>first | exact absurd rfl hc | (exfalso;first | exact absurd rfl hc | omega) | skip) | skip)) | (refine And.intro ze ?_) | (apply And.intro) | (intro s hs;skip) | (refine Exists.intro _ (And.intro ⟨rfl,rfl,rfl⟩ ?_)))
   . rw [if_pos hc] at hst;conv=>whnf
     exact ⟨⟨(k + 1,_),hkn,hst⟩,[],by dsimp only;omega,rfl,⟨zA rfl,zA rfl,zE (zD rfl rfl),zE zW,zA rfl,zA rfl,zA rfl,zA rfl,zA rfl,zE (zD rfl rfl),zA rfl,zA w4,trivial⟩,⟨⟨rfl,zP (by omega) (qF rfl rfl rfl rfl rfl rfl rfl rfl)⟩,⟨rfl,zB⟩,⟨rfl,zB⟩,⟨rfl,zB⟩,⟨rfl,zB⟩,⟨rfl,zB⟩,⟨rfl,zB⟩,⟨rfl,zB⟩,⟨rfl,zB⟩,trivial⟩⟩
   . rw [if_neg hc] at hst;conv=>whnf
     exact ⟨⟨(k + 1,l),hkn,hst⟩,[],by dsimp only;omega,rfl,⟨zA rfl,zA rfl,zE (zD rfl rfl),zE zW,zA rfl,zA rfl,zA rfl,zA rfl,zA rfl,zE (zD rfl rfl),zA rfl,zA w4,trivial⟩,⟨⟨rfl,zP (by omega) (qF rfl rfl rfl rfl rfl rfl rfl rfl)⟩,⟨rfl,zB⟩,⟨rfl,zB⟩,⟨rfl,zB⟩,⟨rfl,zB⟩,⟨rfl,zB⟩,⟨rfl,zB⟩,⟨rfl,zB⟩,⟨rfl,zB⟩,trivial⟩⟩
 . obtain rfl : l = W:=by
    rw [List.drop_of_length_le (by omega)] at hW;exact hW
   clear hW;have w5 : IntKind.i64.wrap (l + 1) = l + 1:=IntWalk.i64_in _ (by omega);have hcl : ql (M.getD 6 default) (l + 1) = Zo now (M.getD 6 default):=by rw [<- eW];exact YX hS
   obtain ⟨X,eX⟩ : ∃ X,Zo now (M.getD 6 default) = X:=⟨_,rfl⟩;rw [eX] at hcl f1;repeat' (first | (simp only [w5]) | (apply And.intro<;>intro hc<;>(first | exact Bool.noConfusion hc | (exfalso;first | exact absurd rfl hc | omega) | (simp only [zg] at hc<;>first | exact absurd rfl hc | (exfalso;first | exact absurd rfl hc | omega) | skip) | skip)) | (refine And.intro ze ?_) | (apply And.intro) | (intro s hs;(have q:=qp hs (YB rfl rfl (zL zR _)) hcl;clear hs;subst q)) | (refine Exists.intro _ (And.intro ⟨rfl,rfl,rfl⟩ ?_)))
   . exact Nat.le_of_eq (Nat.zero_add _)
   . exact ⟨rfl,rfl,λ_ _=>⟨rfl,zl _⟩⟩
   . exact Eq.mpr (congrArg KpI (zL zR _)) hk
   conv=>whnf
   refine ⟨s',[(8,some 19)],by show L.length - s'.i < _;rw [f4];omega,rfl,⟨zA rfl,zA rfl,zE (zD rfl (by rw [f1,List.length_set])),zE zW,zA rfl,zA rfl,zA (by rw [f4];rfl),trivial⟩,⟨⟨rfl,⟨rfl,by show _ = s'.M.length;rw [f1,List.length_set],rfl,rfl,λp hp j hj=>?_⟩⟩,⟨rfl,zF (by rw [f1];exact congrArg Sed.held (zJ (by decide)).symm)⟩,⟨rfl,zF (by rw [f1];exact congrArg Sed.held (zJ (by decide)).symm)⟩,⟨rfl,zF (by rw [f1];exact congrArg Sed.held (zJ (by decide)).symm)⟩,⟨rfl,zF (by rw [f1];exact congrArg Sed.held (zJ (by decide)).symm)⟩,⟨rfl,zF (by rw [f1];exact congrArg Sed.held (zJ (by decide)).symm)⟩,⟨rfl,zF (by rw [f1];exact congrArg Sed.held (zJ (by decide)).symm)⟩,⟨rfl,zF (by rw [f1,qH hiM])⟩,⟨rfl,zF (by rw [f1];exact congrArg Sed.held (zJ (by decide)).symm)⟩,trivial⟩⟩;have hp : p < M.length:=hp;have hj : j < 3:=hj;show ZX _ _ (ZT 2 s'.M p j);rw [f1];rcases (show p = 0 \/ p = 1 \/ p = 2 \/ p = 3 \/ p = 4 \/ p = 5 \/ p = 6 \/ p = 7 by omega) with rfl | rfl | rfl | rfl | rfl | rfl | rfl | rfl;all_goals first
    | exact ZG hj (by decide) (zq (by decide)) rfl
    | skip
   refine ZH hiM ?_;rcases j with _ | _ | _ | j
   . exact zC rfl
   . exact zC rfl
   . exact zD rfl rfl
   . omega
theorem rs1_7 (L : List Sed) (now draw : Int) (hv : ZC L = true) (s : MapI (Zo now) L) (hi : s.i = 7) (hil : s.i < L.length) (K : Kt) :
 Zs T (Zt LRs) 1 Try.f46.ntmps 0 (Zz (ZK 6 (Try.f46.body.getD Code.ret))) (SR1 L now draw s).fr (SR1 L now draw s).H (SR1 L now draw s).nx (QY (λfr H _=>Qz (SR1 L now draw) (λs=>L.length - s.i) 0 (L.length - s.i) fr H) K):=by
 have h8:=Zp hv;have hS : SdOk (L.getD s.i default):=(qk hv _ (zj hil)).2;obtain ⟨s',es'⟩ : ∃ s',s.next hil _ rfl = s':=⟨_,rfl⟩;have f1 : s'.M = s.M.set s.i (Zo now (L.getD s.i default)):=by rw [<- es'];rfl
 have f4 : s'.i = s.i + 1:=by rw [<- es'];rfl
 clear es';obtain ⟨i,M,hn,hi0,h1,h2⟩:=s;dsimp only at hi hil hS f1 f4;subst hi;have hiM : 7 < M.length:=by omega
 have e0:=h2 7 (Nat.le_refl _);rw [<- e0] at hS f1;have hk:=hS.k;have hh:=hS.n;have hmn:=hS.mn;unfold SR1;dsimp only;clear h1 h2 e0;repeat' (first | (apply And.intro<;>intro hc<;>(first | exact Bool.noConfusion hc | (exfalso;first | exact absurd rfl hc | omega) | (simp only [zg] at hc<;>first | exact absurd rfl hc | (exfalso;first | exact absurd rfl hc | omega) | skip) | skip)) | (refine And.intro ze ?_) | (apply And.intro) | (intro s hs;skip) | (refine Exists.intro _ (And.intro ⟨rfl,rfl,rfl⟩ ?_)))
 conv=>whnf
 obtain ⟨W,eW⟩ : ∃ W,QH now (M.getD 7 default).held (-1) = W:=⟨_,rfl⟩;have hWr : -1 <= W /\ W < 1073741824:=by rw [<- eW];exact zAC (zBX hS) ⟨Int.le_refl _,by decide⟩
 refine zQ (zT qr) (λs : {p : Nat × Int // p.1 <= (M.getD 7 default).held.length /\ QH now ((M.getD 7 default).held.drop p.1) p.2 = W}=>(⟨[(1,zO (.int .i64 now)),(2,zO (.int .u32 draw)),(9,zO (.os 1 0 M.length)),(10,zO .nils),(11,zO (.int .u32 0)),(31,zO (.int .i64 (L.length : Int))),(32,zO (.int .i64 ((7 : Nat) : Int))),(12,zO (.int .i64 ((7 : Nat) : Int))),(13,zO (.int .i64 s.1.2)),(39,zO (.os 9 0 (M.getD 7 default).held.length)),(40,zO (.int .i64 ((M.getD 7 default).held.length : Int))),(41,zO (.int .i64 (s.1.1 : Int)))],[(1,some (qt 2 M.length M)),(2,some (zV (M.getD 0 default).held)),(3,some (zV (M.getD 1 default).held)),(4,some (zV (M.getD 2 default).held)),(5,some (zV (M.getD 3 default).held)),(6,some (zV (M.getD 4 default).held)),(7,some (zV (M.getD 5 default).held)),(8,some (zV (M.getD 6 default).held)),(9,some (zV (M.getD 7 default).held))],10⟩ : Hd)) (λs=>(M.getD 7 default).held.length - s.1.1) (λ_=>rfl) ?_ ⟨(0,-1),Nat.zero_le _,eW⟩ [] ⟨rfl,⟨zA rfl,zA rfl,zE (zD rfl rfl),zE zW,zA rfl,zA rfl,zA rfl,zA rfl,zA rfl,zE (zD rfl rfl),zA rfl,zA rfl,trivial⟩,⟨⟨rfl,zP (by omega) (qF rfl rfl rfl rfl rfl rfl rfl rfl)⟩,⟨rfl,zB⟩,⟨rfl,zB⟩,⟨rfl,zB⟩,⟨rfl,zB⟩,⟨rfl,zB⟩,⟨rfl,zB⟩,⟨rfl,zB⟩,⟨rfl,zB⟩,trivial⟩⟩;rintro ⟨⟨k,l⟩,hkl,hW⟩;dsimp only at hkl hW ⊢;by_cases hkn : k < (M.getD 7 default).held.length
 . have w4 : IntKind.i64.wrap ((k : Int) + 1) = ((k + 1 : Nat) : Int):=(IntWalk.i64_in _ (by omega)).trans (by omega);have hst : QH now ((M.getD 7 default).held.drop (k + 1)) (if ((M.getD 7 default).held.getD k default).til <= now then ((M.getD 7 default).held.getD k default).num else l) = W:=by rw [<- hW,qL hkn];rfl
   have z0 : 0 + (k : Int).toNat = k:=Nat.zero_add k;repeat' (first | (simp only [z0,w4]) | (apply And.intro<;>intro hc<;>(first | exact Bool.noConfusion hc | (exfalso;first | exact absurd rfl hc | omega) | (simp only [zg] at hc<;>first | exact absurd rfl hc | (exfalso;first | exact absurd rfl hc | omega) | skip) | skip)) | (refine And.intro ze ?_) | (apply And.intro) | (intro s hs;skip) | (refine Exists.intro _ (And.intro ⟨rfl,rfl,rfl⟩ ?_)))
   . rw [if_pos hc] at hst;conv=>whnf
     exact ⟨⟨(k + 1,_),hkn,hst⟩,[],by dsimp only;omega,rfl,⟨zA rfl,zA rfl,zE (zD rfl rfl),zE zW,zA rfl,zA rfl,zA rfl,zA rfl,zA rfl,zE (zD rfl rfl),zA rfl,zA w4,trivial⟩,⟨⟨rfl,zP (by omega) (qF rfl rfl rfl rfl rfl rfl rfl rfl)⟩,⟨rfl,zB⟩,⟨rfl,zB⟩,⟨rfl,zB⟩,⟨rfl,zB⟩,⟨rfl,zB⟩,⟨rfl,zB⟩,⟨rfl,zB⟩,⟨rfl,zB⟩,trivial⟩⟩
   . rw [if_neg hc] at hst;conv=>whnf
     exact ⟨⟨(k + 1,l),hkn,hst⟩,[],by dsimp only;omega,rfl,⟨zA rfl,zA rfl,zE (zD rfl rfl),zE zW,zA rfl,zA rfl,zA rfl,zA rfl,zA rfl,zE (zD rfl rfl),zA rfl,zA w4,trivial⟩,⟨⟨rfl,zP (by omega) (qF rfl rfl rfl rfl rfl rfl rfl rfl)⟩,⟨rfl,zB⟩,⟨rfl,zB⟩,⟨rfl,zB⟩,⟨rfl,zB⟩,⟨rfl,zB⟩,⟨rfl,zB⟩,⟨rfl,zB⟩,⟨rfl,zB⟩,trivial⟩⟩
 . obtain rfl : l = W:=by
    rw [List.drop_of_length_le (by omega)] at hW;exact hW
   clear hW;have w5 : IntKind.i64.wrap (l + 1) = l + 1:=IntWalk.i64_in _ (by omega);have hcl : ql (M.getD 7 default) (l + 1) = Zo now (M.getD 7 default):=by rw [<- eW];exact YX hS
   obtain ⟨X,eX⟩ : ∃ X,Zo now (M.getD 7 default) = X:=⟨_,rfl⟩;rw [eX] at hcl f1;repeat' (first | (simp only [w5]) | (apply And.intro<;>intro hc<;>(first | exact Bool.noConfusion hc | (exfalso;first | exact absurd rfl hc | omega) | (simp only [zg] at hc<;>first | exact absurd rfl hc | (exfalso;first | exact absurd rfl hc | omega) | skip) | skip)) | (refine And.intro ze ?_) | (apply And.intro) | (intro s hs;(have q:=qp hs (YB rfl rfl (zL zR _)) hcl;clear hs;subst q)) | (refine Exists.intro _ (And.intro ⟨rfl,rfl,rfl⟩ ?_)))
   . exact Nat.le_of_eq (Nat.zero_add _)
   . exact ⟨rfl,rfl,λ_ _=>⟨rfl,zl _⟩⟩
   . exact Eq.mpr (congrArg KpI (zL zR _)) hk
   conv=>whnf
   refine ⟨s',[(9,some 19)],by show L.length - s'.i < _;rw [f4];omega,rfl,⟨zA rfl,zA rfl,zE (zD rfl (by rw [f1,List.length_set])),zE zW,zA rfl,zA rfl,zA (by rw [f4];rfl),trivial⟩,⟨⟨rfl,⟨rfl,by show _ = s'.M.length;rw [f1,List.length_set],rfl,rfl,λp hp j hj=>?_⟩⟩,⟨rfl,zF (by rw [f1];exact congrArg Sed.held (zJ (by decide)).symm)⟩,⟨rfl,zF (by rw [f1];exact congrArg Sed.held (zJ (by decide)).symm)⟩,⟨rfl,zF (by rw [f1];exact congrArg Sed.held (zJ (by decide)).symm)⟩,⟨rfl,zF (by rw [f1];exact congrArg Sed.held (zJ (by decide)).symm)⟩,⟨rfl,zF (by rw [f1];exact congrArg Sed.held (zJ (by decide)).symm)⟩,⟨rfl,zF (by rw [f1];exact congrArg Sed.held (zJ (by decide)).symm)⟩,⟨rfl,zF (by rw [f1];exact congrArg Sed.held (zJ (by decide)).symm)⟩,⟨rfl,zF (by rw [f1,qH hiM])⟩,trivial⟩⟩;have hp : p < M.length:=hp;have hj : j < 3:=hj;show ZX _ _ (ZT 2 s'.M p j);rw [f1];rcases (show p = 0 \/ p = 1 \/ p = 2 \/ p = 3 \/ p = 4 \/ p = 5 \/ p = 6 \/ p = 7 by omega) with rfl | rfl | rfl | rfl | rfl | rfl | rfl | rfl;all_goals first
    | exact ZG hj (by decide) (zq (by decide)) rfl
    | skip
   refine ZH hiM ?_;rcases j with _ | _ | _ | j
   . exact zC rfl
   . exact zC rfl
   . exact zD rfl rfl
   . omega
theorem rs1_all (L : List Sed) (now draw : Int) (hv : ZC L = true) (s : MapI (Zo now) L) (hil : s.i < L.length) (K : Kt) :
 Zs T (Zt LRs) 1 Try.f46.ntmps 0 (Zz (ZK 6 (Try.f46.body.getD Code.ret))) (SR1 L now draw s).fr (SR1 L now draw s).H (SR1 L now draw s).nx (QY (λfr H _=>Qz (SR1 L now draw) (λs=>L.length - s.i) 0 (L.length - s.i) fr H) K):=by
 have h8:=Zp hv;rcases (show s.i = 0 \/ s.i = 1 \/ s.i = 2 \/ s.i = 3 \/ s.i = 4 \/ s.i = 5 \/ s.i = 6 \/ s.i = 7 by omega) with h | h | h | h | h | h | h | h
 . exact rs1_0 L now draw hv s h hil K
 . exact rs1_1 L now draw hv s h hil K
 . exact rs1_2 L now draw hv s h hil K
 . exact rs1_3 L now draw hv s h hil K
 . exact rs1_4 L now draw hv s h hil K
 . exact rs1_5 L now draw hv s h hil K
 . exact rs1_6 L now draw hv s h hil K
 . exact rs1_7 L now draw hv s h hil K
end Go.Proofs.Ytfaibcgakcmhcaa.AX
