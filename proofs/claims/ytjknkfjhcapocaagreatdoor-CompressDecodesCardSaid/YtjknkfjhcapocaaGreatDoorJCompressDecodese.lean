/- Texts of one's own in one file: Rd8p, Dq, Dr, BJ, Re4, PkT2, PkT3, PkT4, PkT5, PkN, PkU, Ib, Db, Db2, PacketNoticesA, Tp5, IhW, CoP, CoW, CoE, IphcShortA, CoF, BMu, Mu2, CoR, Rd8q, Rd8, CoD, CoT, CoL, Jc, Jd, CqE, CqL, Re5h, Re5g, Re5f, Re5e, Re5d, Re5c. -/
import Derived.Test.YtjknkfjhcapocaaGreatDoorJCompressDecodesd
import Derived.Test.YtjknkfjhcapocaaGreatDoorJCompressDecodesb
import Derived.Test.YtjknkfjhcapocaaGreatDoorJCompressDecodesc
set_option linter.unusedVariables false
set_option linter.unusedSimpArgs false
set_option maxHeartbeats 16000000
set_option maxRecDepth 20000
namespace Go.Proofs.YtjknkfjhcapocaaGreatDoor.AX
open Go.RowKit
theorem uniR_ok (b : List Int) (q : Int) (ctx : Bool) (m : Int) (k : Adr) (l : List Ctx) (id now : Int) (hr : RdOk b q) (hl : bytesL l) (hm : 0 <= m /\ m <= 3) : ze Tryz.prog 96 [cB.enc ctx,(cI .i64).enc m,(cE ZF).enc k,zCi.enc (l,id,now)] (qW true b q) (Yq (qz b ctx m k (zK l id now) q).1) (qW true b (qz b ctx m k (zK l id now) q).2):=by
 have h : m = 0 \/ m = 1 \/ m = 2 \/ m = 3:=by omega
 cases ctx with
 | true=>
   rcases h with rfl | rfl | rfl | rfl
   . exact unid_t0 b q k l id now hr hl
   . exact unid_t1 b q k l id now hr hl
   . exact unid_t2 b q k l id now hr hl
   . exact unid_t3 b q k l id now hr hl
 | false=>
   rcases h with rfl | rfl | rfl | rfl
   . exact unid_f0 b q k l id now hr hl
   . exact unid_f1 b q k l id now hr hl
   . exact unid_f2 b q k l id now hr hl
   . exact unid_f3 b q k l id now hr hl
theorem grpR_ok (b : List Int) (q m : Int) (hr : RdOk b q) (hm : 0 <= m /\ m <= 3) : ze Tryz.prog 97 [(cI .i64).enc m] (qW true b q) (Yq (zAb b m q).1) (qW true b (zAb b m q).2):=by
 have h : m = 0 \/ m = 1 \/ m = 2 \/ m = 3:=by omega
 rcases h with rfl | rfl | rfl | rfl
 . exact grpd_0 b q hr
 . exact grpd_1 b q hr
 . exact grpd_2 b q hr
 . exact grpd_3 b q hr
abbrev uniRA : AC (Bool × Int × Adr × (List Ctx × Int × Int) × Unit):=AC.cons cB (AC.cons (cI .i64) (AC.cons (cE ZF) (AC.cons zCi AC.nil)))
abbrev uniRE : ZD:=rdE uniRA (λb q a=>RdOk b q /\ bytesL a.2.2.2.1.1 /\ 0 <= a.2.1 /\ a.2.1 <= 3) (λb q a=>qz b a.1 a.2.1 a.2.2.1 (zK a.2.2.2.1.1 a.2.2.2.1.2.1 a.2.2.2.1.2.2) q) Yq
abbrev grpRE : ZD:=rdE (AC.cons (cI .i64) AC.nil) (λb q a=>RdOk b q /\ 0 <= a.1 /\ a.1 <= 3) (λb q a=>zAb b a.1 q) Yq
def mkfE : ZD:=inl0E T (mkQ LRd3) 1 Tryz.f93.ntmps Tryz.f93.results.toList (Tryz.f93.body.getD Code.ret)
theorem mkfE_ok : EntOk Tryz.prog 93 mkfE:=inl0E_ok (by decide) zM (zT QG) (ZE QG) zN Tryz.func93 rfl rfl
theorem Qc {α β : Type} {b : List Int} {x : RD α} {z : β} {f : α -> Int -> RD β} (hx : RdOk b x.2) (hf : ∀ v q,RdOk b q -> RdOk b (f v q).2) : RdOk b (zo x z f).2:=by
 unfold zo;split
 . exact hf _ _ hx
 . exact hx
theorem Yl {α : Type} {b : List Int} {p : Prop} [Decidable p] {x y : RD α} (hx : RdOk b x.2) (hy : RdOk b y.2) : RdOk b (if p then x else y).2:=by
 split
 . exact hx
 . exact hy
theorem ip_r {b : List Int} {q : Int} (h : RdOk b q) : RdOk b (QT b q).2:=by
 have h1:=h.lo;have h2:=h.hi;unfold QT;split
 . exact h
 . exact ⟨h.bl,h.len,by dsimp only;omega,by dsimp only;omega⟩
theorem zD1 {b : List Int} {x q : Int} (h : RdOk b q) : RdOk b (zL b x q).2:=by
 unfold zL;refine Qc (Yl (zw h) h) λc q h=>Qc (Yl (zw h) h) λfl q h=>Yl h (Qc (Yl (zw h) h) λnx q h=>Yl h (Qc (Yl (zw h) h) λhp q h=>h))
theorem zBB {α β : Type} {P : β -> Prop} {x : RD α} {z : β} {f : α -> Int -> RD β} (hz : P z) (hf : ∀ v q,P (f v q).1.1) : P (zo x z f).1.1:=by
 unfold zo;split
 . exact hf _ _
 . exact hz
theorem Yz {α : Type} {P : α -> Prop} {c : Prop} [Decidable c] {x y : RD α} (hx : P x.1.1) (hy : P y.1.1) : P (if c then x else y).1.1:=by
 split
 . exact hx
 . exact hy
theorem zH3 (b : List Int) (x q : Int) : (zL b x q).1.1.src = zI:=
 zBB (P:=λh : Hdr=>h.src = zI) rfl λc q=>zBB (P:=λh : Hdr=>h.src = zI) rfl λfl q=>Yz (P:=λh : Hdr=>h.src = zI) rfl (zBB (P:=λh : Hdr=>h.src = zI) rfl λnx q=>Yz (P:=λh : Hdr=>h.src = zI) rfl (zBB (P:=λh : Hdr=>h.src = zI) rfl λhp q=>rfl))
theorem uniD_r {b : List Int} {ctx : Bool} {m q : Int} {k : Adr} {C : Ctx × Bool} (h : RdOk b q) : RdOk b (qz b ctx m k C q).2:=by
 unfold qz zBs;exact Yl h (Yl h (Yl h (Qc (Yl (ip_r h) (Yl (Qc (zw h) λv q h=>h) (Yl (Qc (zw h) λv q h=>h) h))) λa q h=>Yl h h)))
theorem grpD_r {b : List Int} {m q : Int} (h : RdOk b q) : RdOk b (zAb b m q).2:=by
 unfold zAb;exact Yl (Qc (ip_r h) λa q h=>Yl h h) (Qc (zw h) λv q h=>h)
theorem zFh {b : List Int} {q : Int} (h : RdOk b q) : RdOk b (qR b q).2:=by
 unfold qR;exact Qc (zw h) λx q h=>Yl h (Qc (zw h) λy q h=>Yl h (Yl (Qc (zw h) λi q h=>h) h))
structure StR (s : I3) : Prop where
 x : 96 <= s.1 /\ s.1 <= 127
 y : 0 <= s.2.1 /\ s.2.1 < 256
 ids : 0 <= s.2.2 /\ s.2.2 < 256
 bad : zBW s.2.1 = false
theorem zH4 {b : List Int} {q : Int} (hb : BL b) (h : (qR b q).1.2 = 0) : StR (qR b q).1.1:=by
 unfold qR zo at h ⊢;have v1:=ZU (q:=q) hb;have v2:=ZU (q:=(zB b q 1).2) hb;have v3:=ZU (q:=(zB b (zB b q 1).2 1).2) hb;dsimp only at h ⊢;split at h
 . rename_i c1;rw [if_pos c1];split at h
   . exact absurd (show (5 : Int) = 0 from h) (by decide)
   . rename_i c2;rw [if_neg c2];split at h
     . rename_i c3;rw [if_pos c3];split at h
       . exact absurd (show (5 : Int) = 0 from h) (by decide)
       . rename_i c4;rw [if_neg c4];have c4' : zBW (zB b (zB b q 1).2 1).1.1 = false:=by
          cases hc : zBW (zB b (zB b q 1).2 1).1.1 with
          | false=>rfl
          | true=>exact absurd hc c4
         split at h
         . rename_i c5;rw [if_pos c5];split at h
           . rename_i c6;rw [if_pos c6];exact ⟨by dsimp only;omega,v2,v3,c4'⟩
           . rename_i c6;exact absurd h c6
         . rename_i c5;rw [if_neg c5];exact ⟨by dsimp only;omega,v2,⟨Int.le_refl 0,(by decide : (0 : Int) < 256)⟩,c4'⟩
     . rename_i c3;exact absurd h c3
 . rename_i c1;exact absurd h c1
theorem raw_bits : ∀ y : Fin 256,(bits .and .i64 (y.1 : Int) 64 != 0) = qG y.1 64 /\ (bits .and .i64 (y.1 : Int) 4 != 0) = qG y.1 4 /\ (bits .and .i64 (y.1 : Int) 8 != 0) = qG y.1 8 /\ bits .and .i64 (Zn .i64 (y.1 : Int) 4) 3 = y.1 / 16 % 4 /\ bits .and .i64 (y.1 : Int) 3 = y.1 % 4 /\ Zn .i64 (y.1 : Int) 4 = y.1 / 16 /\ bits .and .i64 (y.1 : Int) 15 = y.1 % 16:=by decide +kernel
theorem zAy {y : Int} (h : 0 <= y /\ y < 256) : (bits .and .i64 y 64 != 0) = qG y 64 /\ (bits .and .i64 y 4 != 0) = qG y 4 /\ (bits .and .i64 y 8 != 0) = qG y 8 /\ bits .and .i64 (Zn .i64 y 4) 3 = y / 16 % 4 /\ bits .and .i64 y 3 = y % 4 /\ Zn .i64 y 4 = y / 16 /\ bits .and .i64 y 15 = y % 16:=by
 obtain ⟨m,rfl⟩ : ∃ m : Nat,y = m:=⟨y.toNat,by omega⟩;exact raw_bits ⟨m,by omega⟩
abbrev zAN (r : (Zz × Int) × Int) : FV:=.tup [zAk Yv eB r.1.1,.c (.int .i64 r.1.2),.c (.int .i64 r.2)]
section
variable {b : List Int} {f t : Adr} {l : List Ctx} {now : Int}
theorem decI_0 {Ck : Int} (hC : Zj f t l now = Ck) (h : ¬ Ck = 0) : Zr b f t l now = (((zJ,[]),0),Ck):=by
 subst hC;exact if_pos h
theorem zBI {R : RD Hdr} {e : Int} (h : Zj f t l now = 0) (hR : qi b f t l now = R) (hee : R.1.2 = e) (he : ¬ e = 0) : Zr b f t l now = (((zJ,[]),0),e):=by
 subst hR;subst hee;unfold Zr;rw [if_neg (λx=>x h),if_neg he]
theorem zFi {H : Hdr} {q : Int} (h : Zj f t l now = 0) (hR : qi b f t l now = ((H,0),q)) : Zr b f t l now = (((H,[]),q),0):=by
 unfold Zr;rw [if_neg (λx=>x h),hR];exact if_pos rfl
theorem read_1 {S : RD I3} (hS : qR b 0 = S) (h : ¬ S.1.2 = 0) : qi b f t l now = ((zJ,S.1.2),S.2):=by
 subst hS;exact if_neg h
theorem read_2 {S : RD I3} {F : RD Hdr} (hS : qR b 0 = S) (hF : zL b S.1.1.1 S.2 = F) (h : S.1.2 = 0) (h2 : ¬ F.1.2 = 0) : qi b f t l now = ((zJ,F.1.2),F.2):=by
 subst hS;subst hF;exact (if_pos h).trans (if_neg h2)
theorem read_3 {S : RD I3} {F : RD Hdr} {X : RD (Fin 16 -> Int)} (hS : qR b 0 = S) (hF : zL b S.1.1.1 S.2 = F) (hX : zDs b S.1.1.2.1 S.1.1.2.2 f l now F.2 = X) (h : S.1.2 = 0) (h2 : F.1.2 = 0) (h3 : ¬ X.1.2 = 0) : qi b f t l now = ((zJ,X.1.2),X.2):=by
 subst hS;subst hF;subst hX;exact (if_pos h).trans ((if_pos h2).trans (if_neg h3))
theorem zHI {S : RD I3} {F : RD Hdr} {X Y : RD (Fin 16 -> Int)} (hS : qR b 0 = S) (hF : zL b S.1.1.1 S.2 = F) (hX : zDs b S.1.1.2.1 S.1.1.2.2 f l now F.2 = X) (hY : zCa b S.1.1.2.1 S.1.1.2.2 t l now X.2 = Y) (h : S.1.2 = 0) (h2 : F.1.2 = 0) (h3 : X.1.2 = 0) (h4 : ¬ Y.1.2 = 0) : qi b f t l now = ((zJ,Y.1.2),Y.2):=by
 subst hS;subst hF;subst hX;subst hY;exact (if_pos h).trans ((if_pos h2).trans ((if_pos h3).trans (if_neg h4)))
theorem zHJ {S : RD I3} {F : RD Hdr} {X Y : RD (Fin 16 -> Int)} (hS : qR b 0 = S) (hF : zL b S.1.1.1 S.2 = F) (hX : zDs b S.1.1.2.1 S.1.1.2.2 f l now F.2 = X) (hY : zCa b S.1.1.2.1 S.1.1.2.2 t l now X.2 = Y) (h : S.1.2 = 0) (h2 : F.1.2 = 0) (h3 : X.1.2 = 0) (h4 : Y.1.2 = 0) : qi b f t l now = (({ F.1.1 with src:=X.1.1,dst:=Y.1.1 },0),Y.2):=by
 subst hS;subst hF;subst hX;subst hY;exact (if_pos h).trans ((if_pos h2).trans ((if_pos h3).trans (if_pos h4)))
end
structure J (R : RD Hdr) (e : Int) (rest : RD Hdr) : Prop where
 ok : e = 0 -> R = rest
 err : e ≠ 0 -> R.1.2 = e
section
variable {R : RD Hdr} {b : List Int} {e q : Int}
theorem zC4 {n : Int} {K : Int -> Int -> RD Hdr} (h : J R e (zo (zB b q n) zJ K)) : J R (ZM b q e n).2.2 (K (ZM b q e n).1 (ZM b q e n).2.1):=by
 unfold ZM;by_cases he : e = 0
 . rw [if_pos he];have h1:=h.ok he;unfold zo at h1;refine ⟨λh2=>?_,λh2=>?_⟩
   . rw [if_pos h2] at h1;exact h1
   . rw [if_neg h2] at h1;rw [h1]
 . rw [if_neg he];exact ⟨λh2=>absurd h2 he,λ_=>h.err he⟩
theorem zGa {bad : Bool} {c : Int} {z : Hdr} {q : Int} {rest : RD Hdr} (hc : c ≠ 0) (h : J R e (if bad = true then ((z,c),q) else rest)) : J R (za e bad c) rest:=by
 unfold za;by_cases he : e = 0
 . have h1:=h.ok he;cases hb : bad with
   | true=>
     rw [hb,if_pos rfl] at h1;rw [if_pos ⟨rfl,he⟩];exact ⟨λh2=>absurd h2 hc,λ_=>by rw [h1]⟩
   | false=>
     rw [hb,if_neg (by decide)] at h1;rw [if_neg (λx=>Bool.noConfusion x.1)];exact ⟨λ_=>h1,λh2=>absurd he h2⟩
 . rw [if_neg (λx=>he x.2)];exact ⟨λh2=>absurd h2 he,λ_=>h.err he⟩
theorem J_if {c : Prop} [Decidable c] {x y : RD Hdr} (h : J R e (if c then x else y)) : (c -> J R e x) /\ (¬ c -> J R e y):=by
 refine ⟨λhc=>?_,λhc=>?_⟩
 . rw [if_pos hc] at h;exact h
 . rw [if_neg hc] at h;exact h
end
theorem zA4 {α β γ : Type} {x : RD α} {z : β} {z' : γ} {f : α -> Int -> RD β} {g : β -> Int -> RD γ} : zo (zo x z f) z' g = zo x z' λv q=>zo (f v q) z' g:=by
 unfold zo;by_cases h : x.1.2 = 0
 . rw [if_pos h,if_pos h]
 . rw [if_neg h,if_neg h];exact (if_neg h).symm
theorem YC {α β : Type} {c : Prop} [Decidable c] {x y : RD α} {z : β} {f : α -> Int -> RD β} : zo (if c then x else y) z f = if c then zo x z f else zo y z f:=by
 split<;>rfl
theorem zGb {α β : Type} {v : α} {q : Int} {z : β} {f : α -> Int -> RD β} : zo ((v,5),q) z f = ((z,5),q):=if_neg (show ¬ (5 : Int) = 0 by decide)
section
variable (b : List Int) (f t : Adr) (l : List Ctx) (now : Int)
def K2 (y ids : Int) (h : Hdr) (q : Int) : RD Hdr:=zo (zCa b y ids t l now q) zJ λdst q=>(({ h with dst:=dst },0),q)
def K1 (y ids : Int) (h : Hdr) (q : Int) : RD Hdr:=zo (zDs b y ids f l now q) zJ λsrc q=>K2 b t l now y ids { h with src:=src } q
def KH (x y ids c fl nx q : Int) : RD Hdr:=zo (if x % 4 = 0 then zB b q 1 else ((Qr (x % 4),0),q)) zJ λhp q=>K1 b f t l now y ids ⟨c,fl,nx,hp,zI,zI,0,0⟩ q
def KN (x y ids c fl q : Int) : RD Hdr:=zo (if x / 4 % 2 = 0 then zB b q 1 else ((17,0),q)) zJ λnx q=>if x / 4 % 2 = 0 /\ nx = 17 then ((zJ,5),q) else KH b f t l now x y ids c fl nx q
def KL (x y ids c fl q : Int) : RD Hdr:=if 1048575 < fl then ((zJ,5),q) else KN b f t l now x y ids c fl q
def K0 (x y ids q : Int) : RD Hdr:=
 zo (if x / 8 % 4 = 0 \/ x / 8 % 4 = 2 then zB b q 1 else ((0,0),q)) zJ λc q=>
 zo (if x / 8 % 4 = 0 \/ x / 8 % 4 = 1 then zB b q 3 else ((0,0),q)) zJ λfl q=>KL b f t l now x y ids c fl q
def KI (x y q : Int) : RD Hdr:=if 128 <= y then zo (zB b q 1) zJ λi q=>K0 b f t l now x y i q else K0 b f t l now x y 0 q
theorem read_K : qi b f t l now = zo (zB b 0 1) zJ λx q=>if x < 96 \/ 127 < x then ((zJ,5),q) else zo (zB b q 1) zJ λy q=>if zBW y = true then ((zJ,5),q) else KI b f t l now x y q:=by
 have hK : ∀ x y i q,zo (((x,y,i),0),q) zJ (λ(s : I3) q=>zo (zL b s.1 q) zJ λh q=>zo (zDs b s.2.1 s.2.2 f l now q) zJ λsrc q=>zo (zCa b s.2.1 s.2.2 t l now q) zJ λdst q=>(({ h with src:=src,dst:=dst },0),q)) = K0 b f t l now x y i q:=by
  intro x y i q;rw [YK];unfold zL K0 KL KN KH K1 K2;simp only [zA4,YC,zGb,YK]
 unfold qi qR KI;simp only [zA4,YC,zGb,hK]
end
theorem YB {e c : Int} {bad : Bool} (h : e ≠ 0) : za e bad c = e:=if_neg (λx=>h x.2)
theorem zC2 {c : Int} : za 0 true c = c:=if_pos ⟨rfl,rfl⟩
theorem zC3 {c : Int} : za 0 false c = 0:=if_neg (λx=>Bool.noConfusion x.1)
theorem zBK {b : List Int} {q e n : Int} (h : e ≠ 0) : (ZY b q e n).2 = (q,e):=by
 unfold ZY;rw [YB h,if_neg h]
theorem zHS {b : List Int} {q e n : Int} (h : e ≠ 0) : ZM b q e n = (0,q,e):=if_neg h
theorem uintS_0 {b : List Int} {q n : Int} : ZM b q 0 n = ((zB b q n).1.1,(zB b q n).2,(zB b q n).1.2):=if_pos rfl
theorem adrV_ne {b : List Int} {q E m first own : Int} (h : E ≠ 0) : (zCX b q E m first own).2 = (q,E):=by
 unfold zCX;split
 . exact zBK h
 . split
   . rw [zHS h]
   . split
     . rw [zHS h]
     . rfl
theorem zGZ {b : List Int} {q : Int} (hr : RdOk b q) (n : Nat) (hn : n <= 16) : (q + n <= b.length /\ ZY b q 0 n = ((b.drop q.toNat).take n,q + n,0)) \/ (¬ q + n <= b.length /\ ZY b q 0 n = (List.replicate n 0,q,4)):=by
 have h1:=hr.lo;have h2:=hr.hi;have h3:=hr.len;have w0 : IntKind.i64.wrap ((b.length : Int) - q) = b.length - q:=IntWalk.i64_in _ (by omega);unfold ZY;rw [w0,Int.toNat_natCast];by_cases h : (b.length : Int) - q < n
 . rw [decide_eq_true h,zC2,if_neg (by decide)];exact .inr ⟨by omega,rfl⟩
 . rw [decide_eq_false h,zC3,if_pos rfl];exact .inl ⟨by omega,rfl⟩
theorem ip_take {b : List Int} {q : Int} (h : q + 16 <= b.length) (h0 : 0 <= q) : zEs ((b.drop q.toNat).take 16) = ipAt b q:=by
 funext i
 have:=i.2;exact zBd b q.toNat 16 i.1 (by omega) (by omega)
theorem adrV_0 {b : List Int} {q m first : Int} {k : Adr} {P : Pfx} (hr : RdOk b q) (hm : 0 <= m /\ m <= 3) (hf : ∀ y,ofF first y = jn P.ip y) : (zCX b q 0 m first (ZJ k).1).2 = ((zBs b m k P q).2,(zBs b m k P q).1.2) /\ ((zBs b m k P q).1.2 = 0 -> (zCX b q 0 m first (ZJ k).1).1 = (zBs b m k P q).1.1):=by
 have h1:=hr.lo;unfold zCX zBs;by_cases c0 : m = 0
 . rw [if_pos c0,if_pos c0];have ht:=zGZ hr 16 (by decide);rcases ht with ⟨g1,g2⟩ | ⟨g1,g2⟩
   . have g2' : ZY b q 0 16 = ((b.drop q.toNat).take 16,q + 16,0):=g2;have e1 : QT b q = ((ipAt b q,0),q + 16):=if_neg (by omega);rw [g2',e1];exact ⟨rfl,λ_=>ip_take g1 h1⟩
   . have g2' : ZY b q 0 16 = (List.replicate 16 0,q,4):=g2;have e1 : QT b q = ((zI,4),q):=if_pos (by omega);rw [g2',e1];exact ⟨rfl,λh=>absurd (show (4 : Int) = 0 from h) (by decide)⟩
 . rw [if_neg c0,if_neg c0];by_cases c1 : m = 1
   . rw [if_pos c1,if_pos c1,uintS_0];unfold zo;by_cases h : (zB b q 8).1.2 = 0
     . rw [if_pos h,h];exact ⟨rfl,λ_=>hf _⟩
     . rw [if_neg h];exact ⟨rfl,λg=>absurd g h⟩
   . rw [if_neg c1,if_neg c1];by_cases c2 : m = 2
     . rw [if_pos c2,if_pos c2,uintS_0];unfold zo;by_cases h : (zB b q 2).1.2 = 0
       . rw [if_pos h,h];exact ⟨rfl,λ_=>(hf _).trans (congrArg (jn P.ip) (Int.add_comm _ _))⟩
       . rw [if_neg h];exact ⟨rfl,λg=>absurd g h⟩
     . rw [if_neg c2,if_neg c2];exact ⟨rfl,λ_=>hf _⟩
section
variable {R : RD Hdr} {b : List Int} {e q : Int}
theorem J_uniV {m first : Int} {k : Adr} {P : Pfx} {K : (Fin 16 -> Int) -> Int -> RD Hdr} (hr : RdOk b q) (hm : 0 <= m /\ m <= 3) (hf : ∀ y,ofF first y = jn P.ip y) (h : R = zo (zo (zBs b m k P q) zI λa q=>if ZP a = true then ((zI,5),q) else ((a,0),q)) zJ K) :
 J R (za (zCX b q 0 m first (ZJ k).1).2.2 (ZP (zCX b q 0 m first (ZJ k).1).1) 5) (K (zCX b q 0 m first (ZJ k).1).1 (zCX b q 0 m first (ZJ k).1).2.1):=by
 obtain ⟨h1,h2⟩:=adrV_0 (k:=k) hr hm hf;obtain ⟨U,eU⟩ : ∃ x,zBs b m k P q = x:=⟨_,rfl⟩;obtain ⟨V,eV⟩ : ∃ x,zCX b q 0 m first (ZJ k).1 = x:=⟨_,rfl⟩
 rw [eU,eV] at h1 h2;rw [eU] at h;rw [eV];have e1 : V.2.1 = U.2:=congrArg Prod.fst h1;have e2 : V.2.2 = U.1.2:=congrArg Prod.snd h1;rw [zA4] at h;unfold zo at h;by_cases hu : U.1.2 = 0
 . rw [if_pos hu] at h;dsimp only at h;rw [e1,e2,h2 hu,hu];cases hc : ZP U.1.1 with
   | true=>
     rw [hc,if_pos rfl,if_neg (show ¬ (5 : Int) = 0 by decide)] at h;rw [zC2];exact ⟨λg=>absurd g (by decide),λ_=>by rw [h]⟩
   | false=>
     rw [hc] at h;rw [zC3];exact ⟨λ_=>h,λg=>absurd rfl g⟩
 . rw [if_neg hu] at h;rw [e2,YB hu];exact ⟨λg=>absurd g hu,λ_=>by rw [h]⟩
theorem J_adr {ctx : Bool} {m : Int} {k : Adr} {C : Ctx × Bool} {K : (Fin 16 -> Int) -> Int -> RD Hdr} (hr : RdOk b q) (hm : 0 <= m /\ m <= 3) (hb : byteOk C.1.ip) (h : J R e (zo (qz b ctx m k C q) zJ K)) :
 J R (za (qa b q e ctx m k C).2.2 (ZP (qa b q e ctx m k C).1) 5) (K (qa b q e ctx m k C).1 (qa b q e ctx m k C).2.1):=by
 unfold qa;by_cases he : e = 0
 . subst he;have h1:=h.ok rfl;unfold qz at h1;have eE : ∀ x,((m == 3) && !(ZJ k).2) = x -> zBL 0 ctx m k C = if ctx = true /\ za 0 x 5 = 0 then za (za (za 0 x 5) (!C.2) 9) (decide (64 < C.1.bits)) 5 else za 0 x 5:=λx hx=>by unfold zBL;rw [hx]
   have eF : ∀ x,((m == 3) && !(ZJ k).2) = x -> zBt 0 ctx m k C = if ctx = true /\ za 0 x 5 = 0 then hiF C.1.ip else 18338657682652659712:=λx hx=>by unfold zBt;rw [hx]
   have stop : ∀ c : Int,c ≠ 0 -> zBL 0 ctx m k C = c -> R = zo ((zI,c),q) zJ K -> J R (za (zCX b q (zBL 0 ctx m k C) m (zBt 0 ctx m k C) (ZJ k).1).2.2 (ZP (zCX b q (zBL 0 ctx m k C) m (zBt 0 ctx m k C) (ZJ k).1).1) 5) (K (zCX b q (zBL 0 ctx m k C) m (zBt 0 ctx m k C) (ZJ k).1).1 (zCX b q (zBL 0 ctx m k C) m (zBt 0 ctx m k C) (ZJ k).1).2.1):=λc hc hE hR=>by
    rw [hE];have:=adrV_ne (b:=b) (q:=q) (m:=m) (first:=zBt 0 ctx m k C) (own:=(ZJ k).1) hc;rw [this,YB hc];rw [zCP hc] at hR;exact ⟨λg=>absurd g hc,λ_=>by rw [hR]⟩
   by_cases c1 : m = 3 /\ (ZJ k).2 = false
   . rw [if_pos c1] at h1;have hx : ((m == 3) && !(ZJ k).2) = true:=by rw [c1.1,c1.2];rfl
     refine stop 5 (by decide) ?_ h1;rw [eE _ hx,zC2,if_neg (λx=>absurd x.2 (by decide))]
   . rw [if_neg c1] at h1;have hx : ((m == 3) && !(ZJ k).2) = false:=by
      cases hi : (ZJ k).2 with
      | true=>simp
      | false=>
        have : ¬ m = 3:=λh=>c1 ⟨h,hi⟩;rw [show (m == 3) = false from beq_eq_false_iff_ne.2 this];rfl
     have eE:=eE _ hx;have eF:=eF _ hx;rw [zC3] at eE eF;cases hctx : ctx with
     | true=>
       rw [hctx] at eE eF h1 stop;rw [if_pos ⟨rfl,rfl⟩] at eE eF;by_cases c2 : C.2 = false
       . rw [if_pos ⟨rfl,c2⟩] at h1;refine stop 9 (by decide) ?_ h1;rw [eE,c2];show za (za 0 true 9) _ 5 = 9;rw [zC2,YB (show (9 : Int) ≠ 0 by decide)]
       . have c2' : C.2 = true:=by simpa using c2
         rw [if_neg (λx=>c2 x.2)] at h1;rw [c2'] at eE;by_cases c3 : 64 < C.1.bits
         . rw [if_pos ⟨rfl,c3⟩] at h1;refine stop 5 (by decide) ?_ h1;rw [eE,decide_eq_true c3];rfl
         . rw [if_neg (λx=>c3 x.2)] at h1;have eE' : zBL 0 true m k C = 0:=by rw [eE,decide_eq_false c3];rfl
           rw [eE',eF];exact J_uniV (P:=Zy C.1) hr hm (λy=>of_hi hb y) h1
     | false=>
       rw [hctx] at eE eF h1;rw [if_neg (λx=>Bool.noConfusion x.1)] at eE eF;rw [if_neg (λx=>Bool.noConfusion x.1),if_neg (λx=>Bool.noConfusion x.1)] at h1;rw [eE,eF];exact J_uniV (P:=llP) hr hm llP_of h1
 . have eE : zBL e ctx m k C = e:=by
    unfold zBL;rw [YB he,if_neg (λx=>he x.2)]
   rw [eE];have:=adrV_ne (b:=b) (q:=q) (m:=m) (first:=zBt e ctx m k C) (own:=(ZJ k).1) he;rw [this,YB he];exact ⟨λg=>absurd g he,λ_=>h.err he⟩
theorem grpS_ne {m : Int} (h : e ≠ 0) : (Yn b q e m).2 = (q,e):=by
 unfold Yn;split
 . exact zBK h
 . split
   . exact zBK h
   . split
     . exact zBK h
     . exact zBK h
theorem mc_grp (n : Nat) (w : List Int) : ZP (zBi n w) = true:=rfl
theorem J_take {n : Nat} {K : (Fin 16 -> Int) -> Int -> RD Hdr} (hr : RdOk b q) (hn : 1 <= n /\ n <= 8) (h : R = zo (zo (zB b q n) zI λv q'=>((zBi n ((b.drop q.toNat).take n),0),q')) zJ K) :
 J R (za (ZY b q 0 n).2.2 (ZP (zBi n (ZY b q 0 n).1) != true) 5) (K (zBi n (ZY b q 0 n).1) (ZY b q 0 n).2.1):=by
 rw [mc_grp];have h0:=hr.lo;rcases zGZ hr n (by omega) with ⟨g1,g2⟩ | ⟨g1,g2⟩
 . have e1 : (zB b q n).1.2 = 0 /\ (zB b q n).2 = q + n:=by
    unfold zB ZL;rw [if_pos (show 1 <= (n : Int) /\ (n : Int) <= 8 /\ 0 <= q /\ q <= b.length - n by omega)];exact ⟨rfl,rfl⟩
   rw [g2];unfold zo at h;rw [if_pos e1.1,e1.2,if_pos rfl] at h;exact ⟨λ_=>h,λg=>absurd zC3 g⟩
 . have e1 : zB b q n = ((0,4),q):=by
    unfold zB;rw [if_neg];intro hc;have:=zBM hc;omega
   rw [g2];rw [e1,zCP (show (4 : Int) ≠ 0 by decide),zCP (show (4 : Int) ≠ 0 by decide)] at h;exact ⟨λg=>absurd ((YB (show (4 : Int) ≠ 0 by decide)).symm.trans g) (show ¬ (4 : Int) = 0 by decide),λ_=>by rw [h];exact (YB (show (4 : Int) ≠ 0 by decide)).symm⟩
theorem J_grp {m : Int} {K : (Fin 16 -> Int) -> Int -> RD Hdr} (hr : RdOk b q) (hm : 0 <= m /\ m <= 3) (h : J R e (zo (zAb b m q) zJ K)) :
 J R (za (Yn b q e m).2.2 (ZP (Yn b q e m).1 != true) 5) (K (Yn b q e m).1 (Yn b q e m).2.1):=by
 by_cases he : e = 0
 . subst he;have h1:=h.ok rfl;unfold zAb at h1;unfold Yn;by_cases c0 : m = 0
   . rw [if_pos c0] at h1 ⊢;rw [zA4] at h1;rcases zGZ hr 16 (by decide) with ⟨g1,g2⟩ | ⟨g1,g2⟩
     . have g2' : ZY b q 0 16 = ((b.drop q.toNat).take 16,q + 16,0):=g2;have e1 : QT b q = ((ipAt b q,0),q + 16):=if_neg (by omega);rw [e1,YK] at h1;rw [g2'];dsimp only;rw [ip_take g1 hr.lo];cases hc : ZP (ipAt b q) with
       | true=>
         rw [hc,if_pos rfl,YK] at h1;exact ⟨λ_=>h1,λg=>absurd zC3 g⟩
       | false=>
         rw [hc,if_neg (by decide),zGb] at h1;exact ⟨λg=>absurd (zC2.symm.trans g) (show ¬ (5 : Int) = 0 by decide),λ_=>by rw [h1];rfl⟩
     . have g2' : ZY b q 0 16 = (List.replicate 16 0,q,4):=g2;have e1 : QT b q = ((zI,4),q):=if_pos (by omega);rw [e1,zCP (show (4 : Int) ≠ 0 by decide)] at h1;rw [g2'];exact ⟨λg=>absurd ((YB (show (4 : Int) ≠ 0 by decide)).symm.trans g) (show ¬ (4 : Int) = 0 by decide),λ_=>by rw [h1];exact (YB (show (4 : Int) ≠ 0 by decide)).symm⟩
   . rw [if_neg c0] at h1 ⊢;by_cases c1 : m = 1
     . subst c1;rw [if_pos rfl];exact J_take (n:=6) hr (by decide) h1
     . rw [if_neg c1];by_cases c2 : m = 2
       . subst c2;rw [if_pos rfl];exact J_take (n:=4) hr (by decide) h1
       . rw [if_neg c2];have c3 : m = 3:=by omega
         subst c3;exact J_take (n:=1) hr (by decide) h1
 . rw [grpS_ne he,YB he];exact ⟨λg=>absurd g he,λ_=>h.err he⟩
end
structure Sem (P : Program) (nt np : Nat) (c : Code) (fr : Fr) (H : Hp) (nx : Nat) (K : Kt) : Prop where
 run : ∀ (cx : Cx) (fx : Qj),(∀ k b,cx.pin k = some b -> k < np) -> ∀ a w,Is cx nt np fx fr H nx a w -> c.wp P (lift cx nt np fx K) a w
section
variable {P : Program} {T : Tys} {Q : Qs} {wd nt np : Nat}
theorem zFj (hwd : 0 < wd) (hT : qO P T) (hQ : zBR P Q) (hm : P.follows .mixedOrders = true) {c : Code} {fr : Fr} {H : Hp} {nx : Nat} {K : Kt} (h : qo T Q wd nt np c fr H nx K) : Sem P nt np c fr H nx K:=
 ⟨λcx fx hpin=>exec_ok hwd hT hQ hm hpin c fr H nx K h⟩
theorem sem_seq {a b : Code} {fr : Fr} {H : Hp} {nx : Nat} {K : Kt} (h : Sem P nt np a fr H nx (seqK (λfr H nx=>Sem P nt np b fr H nx K) K)) : Sem P nt np (.seq a b) fr H nx K:=by
 refine ⟨λcx fx hpin a' w hs=>?_⟩;refine wp_seq (wp_mono (h.run cx fx hpin a' w hs) λe a2 w2 hq=>?_);obtain ⟨fr',H',nx',hk,hs'⟩:=hq;cases e<;>first | exact ⟨fr',H',nx',hk,hs'⟩ | exact hk.run cx fx hpin a2 w2 hs'
theorem sem_to {σ : Type} (S : σ -> Hd) (s : σ) (rho : List (Nat × Option Nat)) {c : Code} {fr : Fr} {H : Hp} {nx : Nat} {K : Kt} (hnp : Nat.ble np (S s).nx = true) (h0 : To S np fr H s rho) (h : Sem P nt np c (S s).fr (S s).H (S s).nx K) : Sem P nt np c fr H nx K:=by
 refine ⟨λcx fx hpin a w hs=>?_⟩;obtain ⟨r,st,hf,hnm,hts,hdf,hnp',hfx⟩:=hs;obtain ⟨g1,g2,g3,g4⟩:=weaken (c:=⟨H,(S s).H,rho,(S s).nx,false⟩) st hf hpin hnp h0.1 rfl h0.2.1 h0.2.2;exact h.run cx fx hpin a w ⟨_,g1,g2,g3,hts,hdf,Nat.le_of_ble_eq_true hnp,λk hk=>(g4 k hk).trans (hfx k hk)⟩
theorem zBC (hwd : 0 < wd) (hT : qO P T) (hQ : zBR P Q) (hM : zCn Q) (hm : P.follows .mixedOrders = true) {a b : Code} {fr : Fr} {H : Hp} {nx : Nat} {K : Kt} {σ : Type} (S : σ -> Hd) (hnp : ∀ s,Nat.ble np (S s).nx = true)
 (h1 : qo T Q wd nt np a fr H nx (seqK (λfr H _=>∃ s rho,To S np fr H s rho) K)) (h2 : ∀ s,Sem P nt np b (S s).fr (S s).H (S s).nx K) : Sem P nt np (.seq a b) fr H nx K:=by
 refine sem_seq (zFj hwd hT hQ hm (zAh hM a _ _ (zCM (λfr H nx h=>?_) (λ_ _ _ _ h=>h)) _ _ _ h1));obtain ⟨s,rho,h⟩:=h;exact sem_to S s rho (hnp s) h (h2 s)
theorem YO (hwd : 0 < wd) (hT : qO P T) (hQ : zBR P Q) (hm : P.follows .mixedOrders = true) {a b : Code} {fr : Fr} {H : Hp} {nx : Nat} {K : Kt} (h : qo T Q wd nt np a fr H nx (seqK (λfr H nx=>Sem P nt np b fr H nx K) K)) : Sem P nt np (.seq a b) fr H nx K:=sem_seq (zFj hwd hT hQ hm h)
theorem fn_runS {cx : Cx} {f : FuncId} (hT : qO P T) {fn : Func} {c : Code} (hf : P.funcs[f]? = some fn) (hb : fn.body = some c) {args : List FV} (hn : args.length <= fn.ntmps) {H0 : Hp} {post : FV -> Hp -> Nat -> Prop}
 (h : Sem P fn.ntmps np c (Ya args 0) H0 np (YQ T fn.results.toList post)) (hpin : ∀ k b,cx.pin k = some b -> k < np) {r : Qj} {w : World} {vals : Array Value} (st : St cx r H0 w) (hrel : zBS r cx.X (wr r H0) w args vals) (hnm : ∀ k,np <= k -> r k = none /\ zP H0 k = none) :
 Calls P f vals w λe w'=>∃ v r' x Hf nf,e = .returned v /\ post x Hf nf /\ St cx r' Hf w' /\ (∀ k,nf <= k -> r' k = none /\ zP Hf k = none) /\ x.rel r' cx.X (wr r' Hf) w' v /\ ∀ k,k < np -> r' k = r k:=by
 refine calls_of_wp hf hb ?_;have hsz : vals.size = args.length:=hrel.1;have fr0 : zAG cx r H0 w (Ya args 0) (vals ++ Array.replicate (fn.ntmps - vals.size) undef):=by
  intro t;rw [zF2,if_pos (Nat.zero_le _),Nat.sub_zero];cases hx : args[t]? with
  | none=>trivial
  | some x=>
    have hlt : t < vals.size:=by rw [hsz];exact (List.getElem?_eq_some_iff.1 hx).1
    have hv : vals[t]? = some vals[t]:=Array.getElem?_eq_getElem hlt;have e1 : (vals ++ Array.replicate (fn.ntmps - vals.size) undef).getD t undef = vals[t]:=by
     rw [Array.getD_eq_getD_getElem?,Array.getElem?_append_left hlt,hv];rfl
    rw [e1];exact hrel.2 t x _ hx hv
 refine wp_mono (h.run cx r hpin _ w ⟨_,st,fr0,hnm,by simp;omega,rfl,Nat.le_refl _,λ_ _=>rfl⟩) λe a' w' hq=>?_;obtain ⟨fr,H,nx,hk,r',st',hfr,hnm',_,hdf,_,hfx'⟩:=hq;have main : ∀ l,resL T fr H fn.results.toList = some l -> post (asF l) H nx -> a'.defers = [] /\ ∃ v,(results fn a'.tmps).run P w' = .ok v w' /\ ∃ u r' x Hf nf,Ending.returned v = .returned u /\ post x Hf nf /\ St cx r' Hf w' /\ (∀ k,nf <= k -> r' k = none /\ zP Hf k = none) /\ x.rel r' cx.X (wr r' Hf) w' u /\ ∀ k,k < np -> r' k = r k:=by
  intro l hl hp;obtain ⟨v,g1,g2⟩:=zE6 hT st' hfr hl;exact ⟨hdf,v,g1,v,r',_,H,nx,rfl,hp,st',hnm',g2,hfx'⟩
 cases e with
 | ret=>
   simp only [YQ] at hk;split at hk
   . rename_i l hl;exact main l hl hk
   . exact hk.elim
 | normal=>
   simp only [YQ] at hk;split at hk
   . rename_i l hl;exact main l hl hk
   . exact hk.elim
 | exit=>exact hk.elim
 | goto=>exact hk.elim
 | panic=>exact hk.elim
 | outgrown=>exact hk.elim
theorem zH5 (hT : qO P T) {f : FuncId} {fn : Func} {c : Code} (hf : P.funcs[f]? = some fn) (hb : fn.body = some c) (args : List FV) (hn : args.length <= fn.ntmps) (spec : FV)
 (h : Sem P fn.ntmps 0 c (Ya args 0) [] 0 (YQ T fn.results.toList λx H _=>Done H x spec)) : zY P f args spec:=by
 intro X w vals hrel hX;have hrel' : zBS (λ_=>none) X (wr (λ_=>none) []) w args vals:=by rw [wr_nil];exact hrel
 refine (fn_runS hT hf hb hn h (λ_ _ h=>by cases h) (zE1 hX) hrel' (λ_ _=>⟨rfl,rfl⟩)).mono λe w' he=>?_;obtain ⟨v,r',x,Hf,nf,rfl,hfin,st,_,hx,_⟩:=he;refine ⟨v,rfl,⟨st.os,st.tape,st.output,st.size,λb hb=>st.kept b hb id⟩,?_⟩;have h1:=hfin.le (λk e' h=>by cases h) _ r' w' v st hx;rw [ren_nil] at h1;refine FV.rel_w (λb hb=>?_) _ _ h1;exact .inr ⟨rfl,hb⟩
end
theorem QL {c : Wc} {b : List Int} {q q' e e' : Int} (hf : c.fin = false) (h : q = q') (h2 : e = e') : LeN c (Yp false b q e) (Yp false b q' e'):=
 zh ⟨⟨⟨trivial,(cl_slB eB b) c hf⟩,zA h⟩,zA h2⟩
theorem zAO {b : List Int} {q e n : Int} (h : RdOk b q) : RdOk b (ZM b q e n).2.1:=by
 unfold ZM;split
 . exact zw h
 . exact h
theorem zCE {b : List Int} {q e : Int} (hb : BL b) : 0 <= (ZM b q e 1).1 /\ (ZM b q e 1).1 < 256:=by
 unfold ZM;split
 . exact ZU hb
 . exact ⟨(by decide : (0 : Int) <= 0),(by decide : (0 : Int) < 256)⟩
theorem uintS_3 {b : List Int} {q e : Int} (hb : BL b) : 0 <= (ZM b q e 3).1 /\ (ZM b q e 3).1 < 16777216:=by
 unfold ZM;split
 . exact Qy hb
 . exact ⟨(by decide : (0 : Int) <= 0),(by decide : (0 : Int) < 16777216)⟩
theorem zCz {b : List Int} {q e : Int} (h : RdOk b q) (n : Nat) (hn : n <= 16) : RdOk b (ZY b q e n).2.1:=by
 by_cases he : e = 0
 . subst he;have h0:=h.lo;rcases zGZ h n hn with ⟨g1,g2⟩ | ⟨g1,g2⟩
   . rw [g2];exact ⟨h.bl,h.len,by dsimp only;omega,g1⟩
   . rw [g2];exact h
 . rw [zBK he];exact h
theorem grpS_r {b : List Int} {q e m : Int} (h : RdOk b q) : RdOk b (Yn b q e m).2.1:=by
 have h16:=zCz (e:=e) h 16 (by decide);have h6:=zCz (e:=e) h 6 (by decide);have h4:=zCz (e:=e) h 4 (by decide);have h1:=zCz (e:=e) h 1 (by decide);unfold Yn;split
 . exact h16
 . split
   . exact h6
   . split
     . exact h4
     . exact h1
theorem adrS_r {b : List Int} {q e m : Int} {ctx : Bool} {k : Adr} {C : Ctx × Bool} (h : RdOk b q) : RdOk b (qa b q e ctx m k C).2.1:=by
 unfold qa;obtain ⟨E,eE⟩ : ∃ x,zBL e ctx m k C = x:=⟨_,rfl⟩;rw [eE];have h16:=zCz (e:=E) h 16 (by decide);unfold zCX;split
 . exact h16
 . split
   . exact zAO h
   . split
     . exact zAO h
     . exact h
theorem zDe {y : Int} (h : 0 <= y /\ y < 256) (k n : Int) (hk : 0 < k) (hn : 0 < n) : (IntKind.i64.wrap (y.tdiv k)).tmod n = y / k % n:=by
 have h1 : 0 <= y / k:=Int.ediv_nonneg h.1 (Int.le_of_lt hk);have h2 : y / k <= y:=Int.ediv_le_self k h.1;rw [Int.tdiv_eq_ediv_of_nonneg h.1,IntWalk.i64_in _ (by omega),Int.tmod_eq_emod_of_nonneg h1]
theorem raw_d {y : Int} (h : 0 <= y /\ y < 256) (k : Int) (hk : 0 < k) : IntKind.i64.wrap (y.tdiv k) = y / k:=by
 have h1 : 0 <= y / k:=Int.ediv_nonneg h.1 (Int.le_of_lt hk);have h2 : y / k <= y:=Int.ediv_le_self k h.1;rw [Int.tdiv_eq_ediv_of_nonneg h.1,IntWalk.i64_in _ (by omega)]
abbrev md (a c : Int) : Int:=a % c
def zC0 (a : Adr) : Ent:=⟨33,1,3,true,λ_=>ZF.cell a⟩
def pkB (h : Hdr) : Ent:=⟨28,1,39,true,λ_=>QH Yv h .nils⟩
section
variable (b : List Int) (f t : Adr) (l : List Ctx) (now : Int)
structure RS1 where
 x : Int
 q : Int
 e : Int
 hr : RdOk b q
 hx : 0 <= x /\ x < 256
 j : J (qi b f t l now) e (zo (zB b q 1) zJ λy q=>if zBW y = true then ((zJ,5),q) else KI b f t l now x y q)
def HS1 (s : RS1 b f t l now) : Hd:=⟨[(3,one (.sl false l.length zb.sz (zn zb l))),(4,one (.int .i64 now)),(6,one (.ptr 0 0 0 false)),(7,one (.ptr 1 0 0 false)),(10,one (.ptr 2 0 0 false)),(14,one (.ptr 15 0 0 false)),(15,one (.int .i64 s.x))],
 [(0,some (zC0 f)),(1,some (zC0 t)),(2,some ⟨28,1,39,true,λ_ _=>.top⟩),(15,some (Yp false b s.q s.e))],50⟩
structure RS2 where
 x : Int
 y : Int
 q : Int
 e : Int
 hr : RdOk b q
 hx : 0 <= x /\ x < 256
 hy : 0 <= y /\ y < 256
 j : J (qi b f t l now) e (KI b f t l now x y q)
def HS2 (s : RS2 b f t l now) : Hd:=⟨[(3,one (.sl false l.length zb.sz (zn zb l))),(4,one (.int .i64 now)),(6,one (.ptr 0 0 0 false)),(7,one (.ptr 1 0 0 false)),(10,one (.ptr 2 0 0 false)),(14,one (.ptr 15 0 0 false)),(15,one (.int .i64 s.x)),(16,one (.int .i64 s.y)),(17,one (.bool (qG s.y 8))),(18,one (.bool (qG s.y 4))),(19,one (.int .i64 (s.y % 4)))],
 [(0,some (zC0 f)),(1,some (zC0 t)),(2,some ⟨28,1,39,true,λ_ _=>.top⟩),(15,some (Yp false b s.q s.e))],80⟩
structure RS3 where
 x : Int
 y : Int
 ids : Int
 q : Int
 e : Int
 hr : RdOk b q
 hx : 0 <= x /\ x < 256
 hy : 0 <= y /\ y < 256
 hi : 0 <= ids /\ ids < 256
 j : J (qi b f t l now) e (K0 b f t l now x y ids q)
def HS3 (s : RS3 b f t l now) : Hd:=⟨[(3,one (.sl false l.length zb.sz (zn zb l))),(4,one (.int .i64 now)),(6,one (.ptr 0 0 0 false)),(7,one (.ptr 1 0 0 false)),(10,one (.ptr 2 0 0 false)),(14,one (.ptr 15 0 0 false)),(15,one (.int .i64 s.x)),(16,one (.int .i64 s.y)),(17,one (.bool (qG s.y 8))),(18,one (.bool (qG s.y 4))),(19,one (.int .i64 (s.y % 4))),(20,one (.int .i64 s.ids))],
 [(0,some (zC0 f)),(1,some (zC0 t)),(2,some ⟨28,1,39,true,λ_ _=>.top⟩),(15,some (Yp false b s.q s.e))],100⟩
structure RS4 where
 x : Int
 y : Int
 ids : Int
 c : Int
 fl : Int
 q : Int
 e : Int
 hr : RdOk b q
 hx : 0 <= x /\ x < 256
 hy : 0 <= y /\ y < 256
 hi : 0 <= ids /\ ids < 256
 hf : 0 <= fl /\ fl < 16777216
 j : J (qi b f t l now) e (KL b f t l now x y ids c fl q)
def HS4 (s : RS4 b f t l now) : Hd:=⟨[(3,one (.sl false l.length zb.sz (zn zb l))),(4,one (.int .i64 now)),(6,one (.ptr 0 0 0 false)),(7,one (.ptr 1 0 0 false)),(10,one (.ptr 2 0 0 false)),(14,one (.ptr 15 0 0 false)),(15,one (.int .i64 s.x)),(16,one (.int .i64 s.y)),(17,one (.bool (qG s.y 8))),(18,one (.bool (qG s.y 4))),(19,one (.int .i64 (s.y % 4))),(20,one (.int .i64 s.ids)),(21,one (.ptr 106 0 0 false))],
 [(0,some (zC0 f)),(1,some (zC0 t)),(2,some ⟨28,1,39,true,λ_ _=>.top⟩),(15,some (Yp false b s.q s.e)),(106,some (pkB ⟨s.c,s.fl,17,Qr (s.x % 4),zI,zI,0,0⟩))],200⟩
structure RS5 where
 x : Int
 y : Int
 ids : Int
 c : Int
 fl : Int
 nx : Int
 q : Int
 e : Int
 hr : RdOk b q
 hx : 0 <= x /\ x < 256
 hy : 0 <= y /\ y < 256
 hi : 0 <= ids /\ ids < 256
 j : J (qi b f t l now) e (KH b f t l now x y ids c fl nx q)
def HS5 (s : RS5 b f t l now) : Hd:=⟨[(3,one (.sl false l.length zb.sz (zn zb l))),(4,one (.int .i64 now)),(6,one (.ptr 0 0 0 false)),(7,one (.ptr 1 0 0 false)),(10,one (.ptr 2 0 0 false)),(14,one (.ptr 15 0 0 false)),(15,one (.int .i64 s.x)),(16,one (.int .i64 s.y)),(17,one (.bool (qG s.y 8))),(18,one (.bool (qG s.y 4))),(19,one (.int .i64 (s.y % 4))),(20,one (.int .i64 s.ids)),(21,one (.ptr 106 0 0 false))],
 [(0,some (zC0 f)),(1,some (zC0 t)),(2,some ⟨28,1,39,true,λ_ _=>.top⟩),(15,some (Yp false b s.q s.e)),(106,some (pkB ⟨s.c,s.fl,s.nx,Qr (s.x % 4),zI,zI,0,0⟩))],300⟩
structure RS6 where
 y : Int
 ids : Int
 h : Hdr
 q : Int
 e : Int
 hr : RdOk b q
 hy : 0 <= y /\ y < 256
 hi : 0 <= ids /\ ids < 256
 hs : h.src = zI
 hd : h.dst = zI
 j : J (qi b f t l now) e (K1 b f t l now y ids h q)
def HS6 (s : RS6 b f t l now) : Hd:=⟨[(3,one (.sl false l.length zb.sz (zn zb l))),(4,one (.int .i64 now)),(6,one (.ptr 0 0 0 false)),(7,one (.ptr 1 0 0 false)),(10,one (.ptr 2 0 0 false)),(14,one (.ptr 15 0 0 false)),(16,one (.int .i64 s.y)),(17,one (.bool (qG s.y 8))),(18,one (.bool (qG s.y 4))),(19,one (.int .i64 (s.y % 4))),(20,one (.int .i64 s.ids)),(21,one (.ptr 106 0 0 false))],
 [(0,some (zC0 f)),(1,some (zC0 t)),(2,some ⟨28,1,39,true,λ_ _=>.top⟩),(15,some (Yp false b s.q s.e)),(106,some (pkB s.h))],400⟩
structure RS7 where
 y : Int
 ids : Int
 h : Hdr
 q : Int
 e : Int
 hr : RdOk b q
 hy : 0 <= y /\ y < 256
 hi : 0 <= ids /\ ids < 256
 hd : h.dst = zI
 j : J (qi b f t l now) e (K2 b t l now y ids h q)
def HS7 (s : RS7 b f t l now) : Hd:=⟨[(3,one (.sl false l.length zb.sz (zn zb l))),(4,one (.int .i64 now)),(6,one (.ptr 0 0 0 false)),(7,one (.ptr 1 0 0 false)),(10,one (.ptr 2 0 0 false)),(14,one (.ptr 15 0 0 false)),(16,one (.int .i64 s.y)),(17,one (.bool (qG s.y 8))),(18,one (.bool (qG s.y 4))),(19,one (.int .i64 (s.y % 4))),(20,one (.int .i64 s.ids)),(21,one (.ptr 106 0 0 false))],
 [(0,some (zC0 f)),(1,some (zC0 t)),(2,some ⟨28,1,39,true,λ_ _=>.top⟩),(15,some (Yp false b s.q s.e)),(106,some (pkB s.h))],500⟩
structure RS8 where
 y : Int
 h : Hdr
 q : Int
 e : Int
 hr : RdOk b q
 hy : 0 <= y /\ y < 256
 j : J (qi b f t l now) (za e (ZP h.dst != qG y 8) 5) ((h,0),q)
def HS8 (s : RS8 b f t l now) : Hd:=⟨[(10,one (.ptr 2 0 0 false)),(14,one (.ptr 15 0 0 false)),(17,one (.bool (qG s.y 8))),(21,one (.ptr 106 0 0 false))],
 [(2,some ⟨28,1,39,true,λ_ _=>.top⟩),(15,some (Yp false b s.q s.e)),(106,some (pkB s.h))],600⟩
end
def zC1 : Nat -> Code -> Code
 | n + 1,.seq _ b=>zC1 n b
 | _,c=>c
theorem encB_up (p : Zz) (s : Int) : Qx p s = ((((qk (1610612736 + p.1.cls * 1048576 + p.1.flow) 4 ++ qk (ZB p - 40) 2) ++ [p.1.nxt,p.1.hops]) ++ YN p.1.src) ++ YN p.1.dst) ++ upB p s:=by
 unfold Qx upB zCb;rw [List.append_assoc _ _ p.2]
theorem zI6 (p : Zz) (s0 : Int) (hp : PkW p) (hl : p.2.length <= 70368744170000) (hs0 : 0 <= s0 /\ s0 < 65536) : ql Tryz.prog 58 [cPk.enc p,(cI .u16).enc s0] (some (Qx p s0).length) none (qD eB 5 (Qx p s0)):=by
 obtain ⟨w,eW⟩ : ∃ w,Qx p s0 = w:=⟨_,rfl⟩;rw [eW];have c1:=hp.cls;have c2:=hp.flow;have w1 : IntKind.u64.wrap p.1.cls = p.1.cls:=IntWalk.u64_in _ (by omega);have w2 : zCZ .u64 (IntKind.u64.wrap p.1.cls) 20 = p.1.cls * 1048576:=by
  rw [w1];unfold zCZ;rw [show min (20 : Int).toNat (IntKind.bits .u64) = 20 from rfl];exact IntWalk.u64_in _ (by omega)
 have w3 : IntKind.u64.wrap (IntKind.u64.wrap (1610612736 + zCZ .u64 (IntKind.u64.wrap p.1.cls) 20) + IntKind.u64.wrap p.1.flow) = 1610612736 + p.1.cls * 1048576 + p.1.flow:=by
  rw [w2,IntWalk.u64_in p.1.flow (by omega),IntWalk.u64_in (1610612736 + p.1.cls * 1048576) (by omega)];exact IntWalk.u64_in _ (by omega)
 have w4:=wlen (p:=p) (by omega);refine ZR (wd:=1) (by decide) zM (zT zEh) zN Tryz.func58 rfl _ (by show 2 <= _;decide) (λi _ j _=>qU eB _ i j) ?_;repeat' (first | (apply And.intro<;>intro hc<;>(first | exact Bool.noConfusion hc | (simp only [Zi] at hc<;>first | exact absurd rfl hc | skip) | skip)) | (refine And.intro Za ?_) | (apply And.intro) | (intro s hs;(first | (have q : s = ZB p:=hs.trans (congrArg ZB (ZX p _));clear hs;subst q) | (have hq2 : s = upB p s0:=hs.trans (congrArg (λx=>upB x s0) (ZX p _));clear hs;have hun:=upB_len p s0;rw [<- hq2] at hun) | (dsimp only at hs;(first | rw [Zv] at hs | rw [zEf] at hs);have hln:=app_le hs;try rw [List.length_nil] at hln) | skip)))
 all_goals first
  | (dsimp only;rw [zx];omega)
  | (dsimp only;rw [Zv];omega)
  | (dsimp only;rw [zEf];decide)
  | (dsimp only;rw [ZX];exact hp)
  | exact rfl
  | (dsimp only;omega)
  | omega
  | skip
 . rename_i z1 hz1 l1 s2;have hz2:=hs;clear hs;have e : w = (((s2 ++ [p.1.nxt,p.1.hops]) ++ YN p.1.src) ++ YN p.1.dst) ++ s:=by
    rw [<- eW,encB_up,hz2,hz1,hq2,w3,w4];rfl
   rw [e];clear e hz1 hz2 hq2 hun;refine ⟨⟨some _,qM (zy rfl ?_),Zg ?_ (zD ?_ (zD ?_ (zD ?_ (zD rfl (QK _) λk hk=>?_) λk hk=>?_) λk hk=>?_) λk hk=>?_)⟩⟩
   . simp only [List.length_append,Zh,List.length_cons,List.length_nil]
   . simp only [List.length_append,Zh,List.length_cons,List.length_nil]
   . simp only [List.length_append,Zh,List.length_cons,List.length_nil]
   . simp only [List.length_append,Zh,List.length_cons,List.length_nil]
   . simp only [List.length_append,Zh,List.length_cons,List.length_nil]
   . rw [show s2.length + k - s2.length = k by omega];rcases k with _ | _ | k
     . rfl
     . rfl
     . exact absurd hk (by show ¬ _ < 2;omega)
   . have h16 : k < 16:=by rw [Zh] at hk;exact hk
     exact (zAJ (k:=k) (by omega) h16).trans (ip_at rfl hk)
   . have h16 : k < 16:=by rw [Zh] at hk;exact hk
     exact (zAK (k:=k) (by omega) h16).trans (ip_at rfl hk)
   . show CV.int .u8 (s.getD (0 + (s2.length + 2 + (16 - 0) + (16 - 0) + k - (s2.length + 2 + (16 - 0) + (16 - 0)))) default) = _;rw [show 0 + (s2.length + 2 + (16 - 0) + (16 - 0) + k - (s2.length + 2 + (16 - 0) + (16 - 0))) = k by omega]
abbrev rencE0 : ZD:=zBu (AC.cons cPk (AC.cons (cI .u16) AC.nil)) (λa=>PkW a.1 /\ a.1.2.length <= 70368744170000 /\ 0 <= a.2.1 /\ a.2.1 < 65536) (λa=>Qx a.1 a.2.1) (λL=>some L.length) (λ_=>none) (λL=>qD eB 5 L)
def LRp3 : Qb:=(58,some rencE0) :: LRp2
theorem LRp3_ok : ZC Tryz.prog LRp3:=⟨QF ⟨_,Tryz.func58,rfl,by kernel_rfl⟩ (λs l h=>by cases h) λa h=>zI6 a.1 a.2.1 h.1 h.2.1 h.2.2,zEh⟩
theorem zI7 (p : Zz) (hp : PkW p) (hl : p.2.length <= 140737488355328) : ql Tryz.prog 34 [cPk.enc p] (some ((zAC p).getD []).length) (some [zB8 (ecR (zAC p))]) (qD eB 5 ((zAC p).getD [])):=by
 refine ZR (wd:=1) (by decide) zM (zT LRp3_ok) zN Tryz.func34 rfl _ (by show 1 <= _;decide) (λi _ j _=>qU eB _ i j) ?_;repeat' (first | (apply And.intro<;>intro hc<;>(first | exact Bool.noConfusion hc | (simp only [Zi] at hc<;>first | exact absurd rfl hc | skip) | skip)) | (refine And.intro Za ?_) | (apply And.intro) | (intro s hs;(first | (have hs' : s = zj p:=hs.trans (congrArg zj (ZX p _));clear hs;subst hs') | (have hs' : s = qZ p:=hs.trans (congrArg qZ (ZX p _));clear hs;subst hs') | (have hq : s = Qx p (qZ p):=hs.trans (congrArg (λx=>Qx x (qZ p)) (ZX p _));clear hs) | skip)))
 all_goals
  try (have hvv : zj p = true:=by assumption)
  try (have hvl:=YT hvv)
 all_goals first
  | (dsimp only;rw [ZX];exact hp)
  | (dsimp only;rw [zx];omega)
  | exact (zBn p).1
  | exact (zBn p).2
  | skip
 . have e : zAC p = none:=if_neg (λh=>by simp_all);rw [e];exact ⟨⟨none,zE ⟨qN rfl,zA rfl,trivial⟩,rfl,rfl,by decide⟩⟩
 . have hv : zj p = true:=by simp_all
   have e : zAC p = some s:=by unfold zAC;rw [if_pos hv,hq]
   rw [e];exact ⟨⟨some _,zE ⟨zy rfl rfl,zA rfl,trivial⟩,qp⟩⟩
abbrev rencE : ZD:=zBu PA (λa=>PkW a.1 /\ a.1.2.length <= 140737488355328) (λa=>zAC a.1) (λs=>some (s.getD []).length) (λs=>some [zB8 (ecR s)]) (λs=>qD eB 5 (s.getD []))
def LRp4 : Qb:=(34,some rencE) :: LRp3
theorem zEk : ZC Tryz.prog LRp4:=⟨QF ⟨_,Tryz.func34,rfl,by kernel_rfl⟩ (λs l h x hx=>by injection h with h;subst h;obtain rfl:=List.mem_singleton.1 hx;exact zC7 QS) λa h=>zI7 a.1 h.1 h.2,LRp3_ok⟩
def upTo (b : List Int) (o i : Nat) : Fin 16 -> Int:=λq=>if q.1 < i then b.getD (o + q.1) default else 0
def hdI (b : List Int) (v : Int) (i : Nat) : Hdr:=⟨IntKind.u8.wrap (Zn .u64 v 20),IntKind.u32.wrap (v.tmod 1048576),b.getD 6 default,b.getD 7 default,upTo b 8 i,upTo b 24 i,0,0⟩
theorem zCU (b : List Int) (o i q : Nat) (hq : q < 16) : zQ (upTo b o (i + 1)) q = if q = i then b.getD (o + i) default else zQ (upTo b o i) q:=by
 rw [ZV _ hq,ZV _ hq];unfold upTo;dsimp only;by_cases h : q = i
 . subst h;rw [if_pos (by omega),if_pos rfl]
 . rw [if_neg h];by_cases h2 : q < i
   . rw [if_pos (by omega),if_pos h2]
   . rw [if_neg (by omega),if_neg h2]
theorem hd_step {c : Wc} {b : List Int} {v : Int} {i : Nat} (hi : i < 16) {o1 o2 : Nat} (h1 : o1 = 4 + i) (h2 : o2 = 20 + i) {x1 x2 : Int} (e1 : x1 = b.getD (8 + i) default) (e2 : x2 = b.getD (24 + i) default) (j : Nat) (hj : j < 39) :
 LeC c (ovs (ovs (QH Yv (hdI b v i) .nils) o1 1 λ_=>.int .u8 x1) o2 1 (λ_=>.int .u8 x2) j) (QH Yv (hdI b v (i + 1)) .nils j):=by
 subst h1 h2 e1 e2;rw [zDn,zDn];rcases Nat.lt_or_ge j 38 with hj2 | hj2
 . by_cases c2 : j = 20 + i
   . subst c2;rw [ovrI (by omega),zAK (k:=i) rfl hi,show (hdI b v (i + 1)).dst = upTo b 24 (i + 1) from rfl,zCU _ _ _ _ hi,if_pos rfl];exact zA rfl
   . rw [ovrO (by omega)];by_cases c1 : j = 4 + i
     . subst c1;rw [ovrI (by omega),zAJ (k:=i) rfl hi,show (hdI b v (i + 1)).src = upTo b 8 (i + 1) from rfl,zCU _ _ _ _ hi,if_pos rfl];exact zA rfl
     . rw [ovrO (by omega)];rcases Nat.lt_or_ge j 4 with g | g
       . rcases j with _ | _ | _ | _ | j
         . exact zA rfl
         . exact zA rfl
         . exact zA rfl
         . exact zA rfl
         . omega
       . rcases Nat.lt_or_ge j 20 with g2 | g2
         . obtain ⟨q,rfl⟩ : ∃ q,j = 4 + q:=⟨j - 4,by omega⟩;rw [zAJ (k:=q) rfl (by omega),zAJ (k:=q) rfl (by omega),show (hdI b v (i + 1)).src = upTo b 8 (i + 1) from rfl,zCU _ _ _ _ (by omega),if_neg (by omega)];exact zA rfl
         . rcases Nat.lt_or_ge j 36 with g3 | g3
           . obtain ⟨q,rfl⟩ : ∃ q,j = 20 + q:=⟨j - 20,by omega⟩;rw [zAK (k:=q) rfl (by omega),zAK (k:=q) rfl (by omega),show (hdI b v (i + 1)).dst = upTo b 24 (i + 1) from rfl,zCU _ _ _ _ (by omega),if_neg (by omega)];exact zA rfl
           . rcases (show j = 36 \/ j = 37 by omega) with rfl | rfl
             . exact zA rfl
             . exact zA rfl
 . obtain rfl : j = 38:=by omega
   rw [ovrO (by omega),ovrO (by omega)];exact zm
theorem zH7 {b : List Int} {Z : Nat -> Nat -> CV} (a : Nat) : IsRow (λq j=>Zm (Nat.blt (0 + q) 0) (Z (0 + q) j) (zn eB b (a + (0 + q - 0)) j)) (b.drop a):=⟨λk hk=>by
 rw [zBm];show Zm false _ (.int .u8 (b.getD (a + (0 + k - 0)) default)) = _;rw [Yg,show 0 + k - 0 = k by omega]⟩
theorem tail_le {c : Wc} {h : Hdr} {j : Nat} : LeC c (QH Yv h .nils j) (QH Yv h .nils j):=by
 unfold QH;cases Nat.blt j Yv.sz with
 | true=>exact (Yv.flat _ _).le
 | false=>exact zm
theorem parse_ok (b : List Int) (hb : BL b) (hl : 40 <= b.length /\ b.length <= 1280) (h17 : b.getD 6 default = 17 -> 48 <= b.length) : zY Tryz.prog 99 [(qf eB Zb).enc b] (.tup [zAk Yv eB (pkF b),.c (.int .u16 (Yy b))]):=by
 obtain ⟨W,eW⟩ : ∃ W : Zz × Int,(pkF b,Yy b) = W:=⟨_,rfl⟩;rw [show pkF b = W.1 from congrArg Prod.fst eW,show Yy b = W.2 from congrArg Prod.snd eW];have hl2 : b.length <= 70368744177664:=by omega
 refine zG (wd:=1) (by decide) zM (zT zEk) zN Tryz.func99 rfl _ (by show 1 <= _;decide) _ ?_;repeat' (first | (apply And.intro<;>intro hc<;>(first | exact Bool.noConfusion hc | (simp only [Zi] at hc<;>first | exact absurd rfl hc | skip) | skip)) | (refine And.intro Za ?_) | (apply And.intro) | (intro s hs;skip))
 . dsimp only;rw [zx];exact hb
 . dsimp only;rw [zx];exact hl2
 have ev : s.1 = uI b 0 4:=congrArg Prod.fst (hs.trans (congrArg (λx=>ZL x 0 4) (zx b)));clear hs;obtain ⟨v,vb⟩:=s;have ev : v = uI b 0 4:=ev;have hf : IntKind.u32.wrap (v.tmod 1048576) = IntKind.u32.wrap (bits .and .u64 (uI b 0 4) 1048575):=by
  have h0:=hb.get 0;have h1:=hb.get 1;have h2:=hb.get 2;have h3:=hb.get 3;have e4:=uI_4 (b:=b) (by omega);rw [ev,and20 (by omega),Int.tmod_eq_emod_of_nonneg (by omega)]
 refine zp (ZE zEk) (λi : {i : Nat // i <= 16}=>(⟨[(0,one (.sl false b.length eB.sz (zn eB b))),(2,one (.ptr 0 0 0 false)),(3,one (.int .u16 0)),(6,one (.ptr 22 0 0 false)),(7,one (.int .i64 (i.1 : Int)))],
  [(0,some ⟨28,1,39,true,λ_=>QH Yv pk0.1 .nils⟩),(22,some ⟨28,1,39,true,λ_=>QH Yv (hdI b v i.1) .nils⟩)],25⟩ : Hd)) (λi=>16 - i.1) (λ_=>rfl) ?_ ⟨0,by omega⟩ [] ?_
 . rintro ⟨i,hi⟩;dsimp only at hi ⊢;have w8 : IntKind.i64.wrap (8 + (i : Int)) = 8 + i:=IntWalk.i64_in _ (by omega);have w24 : IntKind.i64.wrap (24 + (i : Int)) = 24 + i:=IntWalk.i64_in _ (by omega);repeat' (first | (apply And.intro<;>intro hc<;>(first | exact Bool.noConfusion hc | (simp only [Zi] at hc<;>first | exact absurd rfl hc | skip) | skip)) | (refine And.intro Za ?_) | (apply And.intro) | (intro s hs;(dsimp only at hs;rw [zx] at hs)))
   all_goals first
    | (rw [w8];omega)
    | (rw [w24];omega)
    | (dsimp only;rw [zx];exact hb)
    | (dsimp only;rw [zx];exact hl2)
    | (show (0 : Int) <= _;omega)
    | skip
   . refine ⟨⟨i + 1,by omega⟩,[],by dsimp only;omega,rfl,?_,?_⟩
     . repeat' (first | exact qH | refine zF ?_ | refine zC ?_ | exact qI | apply And.intro)
       refine (IntWalk.i64_in _ ?_).trans ?_
       . constructor<;>omega
       . dsimp only;omega
     . repeat' (first | exact qH | refine zF ?_ | refine zC ?_ | exact qI | apply And.intro)
       all_goals first
        | exact Ys λj _=>tail_le
        | (refine Ys λj hj=>hd_step (by omega) ?_ ?_ ?_ ?_ j hj
           . omega
           . omega
           . exact congrArg (λz=>b.getD (Int.toNat z) default) w8
           . exact congrArg (λz=>b.getD (Int.toNat z) default) w24)
        | skip
   . have h48:=h17 ‹_›;omega
   . obtain rfl : i = 16:=by omega
     have h6 : b.getD 6 default = 17:=by assumption
     have h48:=h17 h6;rename_i z1 hz1 z2 hz2 _;have e : W = (pkU b,IntKind.u16.wrap (uI b 46 2)):=by rw [<- eW];unfold pkF Yy;rw [if_pos h6,if_pos h6]
     rw [e];have e1 : z1.1 = uI b 40 2:=congrArg Prod.fst hz1;have e2 : z2.1 = uI b 42 2:=congrArg Prod.fst hz2;have e3 : s.1 = uI b 46 2:=congrArg Prod.fst hs;refine Done.mk (zE ⟨zk rfl (λj hj=>?_) (zX (l:=b.drop 48) rfl rfl rfl ?_ ?_ ?_),zA (by rw [e3]),trivial⟩)
     . rcases j with _ | _ | j
       . exact zA (by rw [ev];rfl)
       . exact zA hf
       . iterate 34 (rcases j with _ | j;exact zA rfl)
         rcases j with _ | _ | j
         . exact zA (by rw [e1];rfl)
         . exact zA (by rw [e2];rfl)
         . exact absurd hj (by show ¬ _ < 38;omega)
     . rw [List.length_drop];show 0 + (b.length - 48) = _;omega
     . exact Nat.le_refl _
     . exact zH7 (Z:=λ_=>nth [.int .u8 0]) 48
   . obtain rfl : i = 16:=by omega
     have h6 : b.getD 6 default ≠ 17:=by assumption
     have e : W = (pkN b,0):=by rw [<- eW];unfold pkF Yy;rw [if_neg h6,if_neg h6]
     rw [e];refine Done.mk (zE ⟨zk rfl (λj hj=>?_) (zX (l:=b.drop 40) rfl rfl rfl ?_ ?_ ?_),zA rfl,trivial⟩)
     . rcases j with _ | _ | j
       . exact zA (by rw [ev];rfl)
       . exact zA hf
       . iterate 36 (rcases j with _ | j;exact zA rfl)
         exact absurd hj (by show ¬ _ < 38;omega)
     . rw [List.length_drop];show 0 + (b.length - 40) = _;omega
     . exact Nat.le_refl _
     . exact zH7 (Z:=λ_=>nth [.int .u8 0]) 40
 . refine ⟨rfl,?_,?_⟩
   . exact QI
   . repeat' (first | exact qH | refine zF ?_ | refine zC ?_ | exact qI | apply And.intro)
     all_goals
      refine zh ?_;repeat' (first | exact trivial | exact zA rfl | exact zm | apply And.intro)
def encPS (s : Zz × Int) : FV:=.tup [zAk Yv eB s.1,.c (.int .u16 s.2)]
abbrev parseE : ZD:=ZH (AC.cons (qf eB Zb) AC.nil) (λa=>BL a.1 /\ (40 <= a.1.length /\ a.1.length <= 1280) /\ (a.1.getD 6 default = 17 -> 48 <= a.1.length)) (λa=>(pkF a.1,Yy a.1)) encPS
def LRp5 : Qb:=(99,some parseE) :: LRp4
theorem LRp5_ok : ZC Tryz.prog LRp5:=⟨zO ⟨_,Tryz.func99,rfl,by kernel_rfl⟩ λa h=>parse_ok a.1 h.1 h.2.1 h.2.2,zEk⟩
theorem zI5 (b : List Int) (hb : BL b) (hl : b.length <= 140737488355328) : zY Tryz.prog 64 [(qf eB Zb).enc b] (zB7 (rdecF b)):=by
 obtain ⟨P,eP⟩ : ∃ P,pkF b = P:=⟨_,rfl⟩;obtain ⟨R,eR⟩ : ∃ R,Yy b = R:=⟨_,rfl⟩;have hR : 0 <= R /\ R < 65536:=by
  rw [<- eR];unfold Yy;split
  . exact zCB _
  . omega
 obtain ⟨W,eW⟩ : ∃ W,rdecF b = W:=⟨_,rfl⟩;rw [eW];have hP : 40 <= b.length -> b.length <= 1280 -> PkW P /\ P.2.length <= 1280:=λh1 h2=>by
  rw [<- eP];refine ⟨pkF_w hb h1,?_⟩;rw [zG2];split
  . rw [List.length_drop];omega
  . rw [List.length_drop];omega
 unfold rdecF at eW;rw [eP,eR] at eW;have hn : P.1.nxt = b.getD 6 default:=by rw [<- eP];exact zCR b
 refine zG (wd:=1) (by decide) zM (zT LRp5_ok) zN Tryz.func64 rfl _ (by show 1 <= _;decide) _ ?_;repeat' (first | (apply And.intro<;>intro hc<;>(first | exact Bool.noConfusion hc | (simp only [Zi] at hc<;>first | exact absurd rfl hc | skip) | skip)) | (refine And.intro Za ?_) | (apply And.intro) | (intro s hs;(first | (have q : s = (P,R):=(by (rw [hs];dsimp only;rw [zx,eP,eR]));clear hs;subst q) | (have q : s = zj P:=hs.trans (congrArg zj (ZX P _));clear hs;subst q) | (have q : s = qZ P:=hs.trans (congrArg qZ (ZX P _));clear hs;subst q) | (have hE : s = Qx P R:=hs.trans (congrArg (λx=>Qx x R) (ZX P _));clear hs) | (have hS:=hs;dsimp only at hS;rw [Zv,zx] at hS;clear hs) | skip)))
 all_goals
  try (have h6 : b.getD 6 default = 17:=by assumption)
  try (have h6 : ¬ b.getD 6 default = 17:=by assumption)
 all_goals first
  | (dsimp only;rw [zx];exact hb)
  | (dsimp only;rw [zx];omega)
  | exact rfl
  | exact Eq.mp (congrArg PkW (ZX P _).symm) (hP (by omega) (by omega)).1
  | (show (Zw eB _ _).length <= _;rw [zS];have:=(hP (by omega) (by omega)).2;omega)
  | (have hq:=zAv P R;have hz:=(hP (by omega) (by omega)).2;dsimp only;rw [Zv,hE];unfold ZB at hq;split at hq<;>omega)
  | exact hR.1
  | exact hR.2
  | (dsimp only;rw [zx];intro h;omega)
  | (have e : W = (pk0,3):=by rw [<- eW,if_pos (by omega)]
     rw [e];exact zq3)
  | (have e : W = (pk0,4):=by rw [<- eW,if_neg (by omega),if_pos (by omega)]
     rw [e];exact zq3)
  | (have hv : zj P = false:=by assumption
     have e : W = (pk0,5):=by rw [<- eW,if_neg (by omega),if_neg (by omega),if_pos (.inl hv)]
     rw [e];exact zq3)
  | (have hv:=of_decide_eq_false (hS.symm.trans ‹_›)
     rw [hE] at hv;have e : W = (pk0,5):=by rw [<- eW,if_neg (by omega),if_neg (by omega),if_pos (.inr hv)]
     rw [e];exact zq3)
  | (have hv:=of_decide_eq_true (hS.symm.trans ‹_›)
     rw [hE] at hv;have hvv : zj P = true:=by assumption
     have n5 : ¬ (zj P = false \/ Qx P R ≠ b):=λh=>h.elim (λh=>Bool.noConfusion (hvv.symm.trans h)) (λh=>h hv);first
      | (have e : W = (pk0,6):=by rw [<- eW,if_neg (by omega),if_neg (by omega),if_neg n5,if_pos ⟨by omega,by assumption⟩]
         rw [e];exact zq3)
      | (have e : W = (P,0):=by rw [<- eW,if_neg (by omega),if_neg (by omega),if_neg n5,if_neg (λh=>by first | exact h.2 ‹_› | omega)]
         rw [e];refine Done.mk (zE ⟨zk rfl (λj hj=>?_) (qh (λ_=>rfl) rfl rfl λi _ j _=>zA rfl),zA rfl,trivial⟩);revert j;exact zt9))
  | skip
def LRp6 : Qb:=(64,some decE) :: LRp5
theorem LRp6_ok : ZC Tryz.prog LRp6:=⟨zO ⟨_,Tryz.func64,rfl,by kernel_rfl⟩ λa h=>(rdec_eq h.1) ▸ zI5 a.1 h.1 h.2,LRp5_ok⟩
def LRp7 : Qb:=LRp6
theorem LRp7_ok : ZC Tryz.prog LRp7:=LRp6_ok
theorem zH6 {f : Nat -> CV} : ∀ (n off : Nat),(∀ i,i < n -> Qp (f (off + i)) (f (off + i)) = true) -> zz f f n off = true:=λn off h=>zAE.2 h
theorem zEj (a : Fin 16 -> Int) (g : Nat -> CV) (h : ∀ j,j < 16 -> g j = .int .u8 (zQ a j)) : zz g g 16 0 = true:=zH6 16 0 λi hi=>by
 rw [Nat.zero_add,h i hi];show (zQ a i == zQ a i) = true;exact beq_self_eq_true _
theorem rsame_ok (p : Zz) (hl : p.2.length <= 140737488355328) : zY Tryz.prog 37 [cPk.enc p,cPk.enc p] (cB.enc true):=by
 refine zG (wd:=1) (by decide) zM (zT LRp7_ok) zN Tryz.func37 rfl _ (by show 2 <= _;decide) _ ?_;repeat' (first | (apply And.intro<;>intro hc<;>(first | exact Bool.noConfusion hc | (exfalso;first | exact absurd rfl hc | exact absurd (beq_self_eq_true _) (by rw [hc];decide) | exact Bool.noConfusion ((zEj p.1.src _ λj hj=>zAJ (by omega) hj).symm.trans hc) | exact Bool.noConfusion ((zEj p.1.dst _ λj hj=>zAK (by omega) hj).symm.trans hc)) | (simp only [Zi] at hc<;>first | exact absurd rfl hc | (exfalso;first | exact absurd rfl hc | exact absurd (beq_self_eq_true _) (by rw [hc];decide) | exact Bool.noConfusion ((zEj p.1.src _ λj hj=>zAJ (by omega) hj).symm.trans hc) | exact Bool.noConfusion ((zEj p.1.dst _ λj hj=>zAK (by omega) hj).symm.trans hc)) | skip) | skip)) | (refine And.intro Za ?_) | (apply And.intro) | (intro s hs;skip))
 . exact λ_=>rfl
 . exact λ_=>rfl
 . dsimp only;rw [zx];omega
 . have q : s = true:=by
    rw [hs];dsimp only;exact decide_eq_true rfl
   exact Done.mk (zC q)
abbrev rsameE : ZD:=ZH (AC.cons cPk (AC.cons cPk AC.nil)) (λa=>a.1 = a.2.1 /\ a.1.2.length <= 140737488355328) (λa=>true) cB.enc
def LRp : Qb:=(37,some rsameE) :: LRp7
theorem LRp_ok : ZC Tryz.prog LRp:=⟨zO ⟨_,Tryz.func37,rfl,by kernel_rfl⟩ λa h=>by
 obtain ⟨p,q,u⟩:=a;obtain ⟨h1,h2⟩:=h;have h1 : p = q:=h1;subst h1;exact rsame_ok p h2,LRp7_ok⟩
theorem fin_mk {n : Nat} {l : List Int} {H : Hp} {g : Nat -> CV} {m : Nat} (cls flow nxt hops : Int) (src dst : Fin 16 -> Int) (sp dp : Int) (pay : List Int) (q : Int) (hm : m = 39)
 (hc : ∀ j,j < 38 -> LeC ⟨H,[(0,some (Zf n (rI l) q))],[],1,true⟩ (g j) (Yv.cell ⟨cls,flow,nxt,hops,src,dst,sp,dp⟩ j))
 (hl : LeC ⟨H,[(0,some (Zf n (rI l) q))],[],1,true⟩ (g 38) (slR eB pay))
 (hE : WkE ⟨H,[(0,some (Zf n (rI l) q))],[],1,true⟩ (Zf n (rI l) q) (some 0)) (hT : TapeOk n (rI l) q) (hP : PkM (⟨cls,flow,nxt,hops,src,dst,sp,dp⟩,pay)) :
 ∃ r : Zz × Int,(PkM r.1 /\ TapeOk n (rI l) r.2) /\ FinM (.e (zAk Yv eB r.1)) (Zf n (rI l) r.2) (.e (.agg m g)) H:=
 ⟨((⟨cls,flow,nxt,hops,src,dst,sp,dp⟩,pay),q),⟨hP,hT⟩,⟨ZS (zk hm hc hl),hE⟩⟩
theorem sz_r (p : Zz) (h : p.2.length = 0) : ZB p = 40 \/ ZB p = 48:=by
 unfold ZB;split<;>omega
theorem sz_eq (p : Zz) (h : p.2.length = 0) : ZB p = if p.1.nxt = 17 then 48 else 40:=by
 unfold ZB;rw [h];exact Int.add_zero _
theorem flow_r {s : Int} (h : 0 <= s /\ s < 1048576) : 0 <= IntKind.u32.wrap s /\ IntKind.u32.wrap s < 1048576:=by
 rw [IntWalk.u32_in s (by omega)];exact h
theorem nff_tail {p : Zz} : NFF (.e (zAk Yv eB p)):=nfE_tail
theorem fill_sz {nxt : Int} {zl : List Int} {z1 z0 : Int} {p : Zz} (hz1 : z1 = ZB p) (hp : p.2.length = 0) (hn : p.1.nxt = nxt) (h0 : 0 <= z0 /\ z0 < 2) (h : BL zl /\ (zl.length : Int) = IntKind.i64.wrap (IntKind.i64.wrap (1280 - z1) - z0)) : (if nxt = 17 then (48 : Int) else 40) + zl.length <= 1280:=by
 rw [sz_eq p hp,hn] at hz1;have e1 : z1 = 40 \/ z1 = 48:=by rw [hz1];split<;>omega
 have w1 : IntKind.i64.wrap (1280 - z1) = 1280 - z1:=IntWalk.i64_in _ (by omega);have w2 : IntKind.i64.wrap (1280 - z1 - z0) = 1280 - z1 - z0:=IntWalk.i64_in _ (by omega);have h2:=h.2;rw [w1,w2] at h2;rw [<- hz1];omega
theorem byte_sz {nxt : Int} {zl : List Int} (h : BL zl /\ (zl.length : Int) <= 12) : (if nxt = 17 then (48 : Int) else 40) + zl.length <= 1280:=by
 have:=h.2;split<;>omega
theorem mc_no {a' : Fin 16 -> Int} {s : Bool} (hs : s = ZP a') (hc : s = false) : zQ a' 0 ≠ 255:=by
 rw [hs] at hc;unfold ZP at hc;exact of_decide_eq_false hc
theorem zz256 : (0 : Int) <= 0 /\ (0 : Int) < 256:=by decide
theorem zzf : (0 : Int) <= 0 /\ (0 : Int) < 1048576:=by decide
theorem zz16 : (0 : Int) <= 0 /\ (0 : Int) < 65536:=by decide
theorem packet_ok (n : Nat) (l : List Int) (q : Int) (a1 a2 : Adr) (ht : TapeOk n (rI l) q) :
 ∃ (r : Zz) (q' : Int),PkM r /\ TapeOk n (rI l) q' /\ ze Tryz.prog 8 [(cE ZF).enc a1,(cE ZF).enc a2] (Zf n (rI l) q) (.e (zAk Yv eB r)) (Zf n (rI l) q'):=by
 refine qE (S:=PkM) (enc:=λr=>.e (zAk Yv eB r)) (wd:=1) (by decide) zM (zT LM_ok) zN Tryz.func8 rfl _ (by show 2 + 1 <= _;decide) (λ_=>nff_tail) ?_;repeat' (first | (apply And.intro<;>intro hc<;>(first | exact Bool.noConfusion hc | (simp only [qm] at hc) | skip)) | (refine And.intro Za ?_) | (apply And.intro) | (intro s hs))
 all_goals first
  | exact Nat.le_trans (Nat.le_of_eq (zS _ _ _)) (Nat.zero_le _)
  | (rename_i s1 hs1 s0 hs0
     have e1 : s1 = 40 \/ s1 = 48:=by rw [hs1];exact sz_r _ rfl
     have e0 : 0 <= s0 /\ s0 < 2:=hs0;have w1 : IntKind.i64.wrap (1280 - s1) = 1280 - s1:=IntWalk.i64_in _ (by omega);have w2 : IntKind.i64.wrap (1280 - s1 - s0) = 1280 - s1 - s0:=IntWalk.i64_in _ (by omega);first
      | (show 0 <= IntKind.i64.wrap (IntKind.i64.wrap (1280 - s1) - s0);rw [w1,w2];omega)
      | (show IntKind.i64.wrap (IntKind.i64.wrap (1280 - s1) - s0) <= 2000;rw [w1,w2];omega))
  | skip
 all_goals first
  | (apply fin_mk (src:=setV _ 0 32)
     . rfl
     . intro j hj;revert j;exact zt9
     . exact qh (λ_=>rfl) rfl rfl λi _ j _=>zA rfl
     . exact ZI
     . assumption
     . apply pkM_mk
       . first | exact u8r _ | exact zz256
       . first | exact flow_r ‹_› | exact zzf
       . exact pick5 0 _ _ _ _ _ (by omega) _
       . exact pick5 0 _ _ _ _ _ (by omega) _
       . exact zG8 ‹_› (by omega)
       . assumption
       . first | assumption | exact zz16
       . first | assumption | exact zz16
       . exact (show BL _ /\ _ from by assumption).1
       . show (32 : Int) ≠ 255;decide
       . first
          | exact byte_sz ‹_›
          | (refine fill_sz ‹_› ?_ ?_ ‹_› ‹_›
             . exact zS _ _ _
             . rfl)
       . first | exact .inl ‹_› | exact .inr ⟨rfl,rfl⟩)
  | (apply fin_mk
     . rfl
     . intro j hj;revert j;exact zt9
     . exact qh (λ_=>rfl) rfl rfl λi _ j _=>zA rfl
     . exact ZI
     . assumption
     . apply pkM_mk
       . first | exact u8r _ | exact zz256
       . first | exact flow_r ‹_› | exact zzf
       . exact pick5 0 _ _ _ _ _ (by omega) _
       . exact pick5 0 _ _ _ _ _ (by omega) _
       . assumption
       . assumption
       . first | assumption | exact zz16
       . first | assumption | exact zz16
       . exact (show BL _ /\ _ from by assumption).1
       . (have hmc:=mc_no ‹_› ‹_›;exact hmc)
       . first
          | exact byte_sz ‹_›
          | (refine fill_sz ‹_› ?_ ?_ ‹_› ‹_›
             . exact zS _ _ _
             . rfl)
       . first | exact .inl ‹_› | exact .inr ⟨rfl,rfl⟩)
  | skip
abbrev packE : ZD:=Yt (AC.cons (cE ZF) (AC.cons (cE ZF) AC.nil)) (λ_=>True) (λa (r : Zz)=>PkM r) (λr=>.e (zAk Yv eB r))
def LMp : Qb:=(8,some packE) :: LM0
theorem LMp_ok : ZC Tryz.prog LMp:=⟨qv ⟨_,Tryz.func8,rfl,by kernel_rfl⟩ λn l q a ht hp=>packet_ok n l q a.1 a.2.1 ht,LM0_ok⟩
structure IsB (F : Nat -> Nat -> CV) (n : Nat) : Prop where
 at_ : ∀ k,k < n -> ∃ x,F k 0 = .int .u8 x /\ 0 <= x /\ x < 256
theorem zDZ {L : List Int} (h : BL L) (n : Nat) : IsB (zn eB L) n:=⟨λk _=>⟨_,rfl,h.get k⟩⟩
theorem zGV {F : Nat -> Nat -> CV} {n : Nat} (h : IsB F n) : IsB (λk j=>F (0 + k) j) n:=⟨λk hk=>by show ∃ x,F (0 + k) 0 = _ /\ _;rw [Nat.zero_add];exact h.at_ k hk⟩
theorem zHL {G : Nat -> Nat -> CV} {n i : Nat} {x : Int} {g : Nat -> CV} (h : IsB G n) (hg : g 0 = .int .u8 x) (hx : 0 <= x /\ x < 256) : IsB (zBg false G i g) n:=⟨λk hk=>by
 show ∃ y,Zm (Nat.beq k i) (g 0) (G k 0) = _ /\ _;obtain ⟨z,hz,hzr⟩:=h.at_ k hk;rw [QO,hg,hz];cases Nat.beq k i with
 | true=>exact ⟨x,rfl,hx⟩
 | false=>exact ⟨z,rfl,hzr⟩⟩
theorem zEi {A C : Nat -> Nat -> CV} {n m : Nat} (h1 : IsB A n) (h2 : IsB C m) : IsB (λk j=>Zm (Nat.blt k n) (A k j) (C (k - n) j)) (n + m):=⟨λk hk=>by
 show ∃ y,Zm (Nat.blt k n) (A k 0) (C (k - n) 0) = _ /\ _;rcases Nat.lt_or_ge k n with h | h
 . obtain ⟨z,hz,hzr⟩:=h1.at_ k h;rw [zGg h,zBU];exact ⟨z,hz,hzr⟩
 . obtain ⟨z,hz,hzr⟩:=h2.at_ (k - n) (by omega);rw [zG4 h,Yg];exact ⟨z,hz,hzr⟩⟩
theorem zFk {F : Nat -> Nat -> CV} : IsB F 0:=⟨λk hk=>absurd hk (Nat.not_lt_zero _)⟩
theorem zCx {F : Nat -> Nat -> CV} {n : Nat} (h : IsB F n) : BL (Zw eB n F):=⟨λx hx=>by
 simp only [Zw,List.mem_map,List.mem_range] at hx;obtain ⟨k,hk,rfl⟩:=hx;obtain ⟨z,hz,hzr⟩:=h.at_ k hk;show 0 <= qY (F k 0) /\ qY (F k 0) < 256;rw [hz];exact hzr⟩
theorem zAz {a c : List Int} (h1 : BL a) (h2 : BL c) : BL (a ++ c):=⟨λx hx=>(List.mem_append.1 hx).elim (h1.m x) (h2.m x)⟩
theorem bl_1 {x : Int} (h : 0 <= x /\ x < 256) : BL [x]:=⟨λy hy=>by rw [List.mem_singleton.1 hy];exact h⟩
theorem bl_if {c : Prop} [Decidable c] {a d : List Int} (h1 : BL a) (h2 : BL d) : BL (if c then a else d):=by
 split
 . exact h1
 . exact h2
theorem zFl (v n : Int) : BL (qk v n):=by
 unfold qk;split
 . exact beN_BL _ _
 . exact BL.nil
theorem iids_bl (y : Int) (k : Adr) : BL (QW y k).2:=by
 unfold QW;split
 . exact BL.nil
 . split
   . exact zFl y 2
   . exact zFl y 8
theorem uni_bl {a : Fin 16 -> Int} (ha : byteOk a) (k : Adr) (s : Bool) (l : List Ctx) (now : Int) : BL (QZ a k s l now).2:=by
 unfold QZ;split
 . exact BL.nil
 . split
   . exact iids_bl _ _
   . split
     . exact iids_bl _ _
     . exact ipBL ha
theorem grp_bl {a : Fin 16 -> Int} (ha : byteOk a) : BL (zBH a).2:=by
 have hv : ∀ i,0 <= zQ a i /\ zQ a i < 256:=λi=>ha.v i;unfold zBH;split
 . exact bl_1 (hv _)
 . split
   . exact ⟨λx hx=>by
      simp only [List.mem_cons,List.not_mem_nil,or_false] at hx;rcases hx with rfl | rfl | rfl | rfl<;>exact hv _⟩
   . split
     . exact ⟨λx hx=>by
        simp only [List.mem_cons,List.not_mem_nil,or_false] at hx;rcases hx with rfl | rfl | rfl | rfl | rfl | rfl<;>exact hv _⟩
     . exact ipBL ha
theorem sec_r {s d : Fm} (hs : FmW s) (hd : FmW d) (m : Bool) : 0 <= zAS s d m /\ zAS s d m < 256:=by
 have h1:=hs.mode;have h2:=hd.mode;unfold zAS;have b1:=Yx (decide (16 * s.id + d.id ≠ 0)) 128 (by decide);have b2:=Yx s.ctx 64 (by decide);have b3:=Yx m 8 (by decide);have b4:=Yx d.ctx 4 (by decide);omega
theorem inl_bl {p : Zz} (hp : PkW p) : BL (zA1 p):=by
 unfold zA1;refine zAz (zAz ?_ (bl_if BL.nil (bl_1 hp.nxt))) (bl_if (bl_1 hp.hops) BL.nil);unfold Zx;split
 . exact zAz (bl_1 hp.cls) (zFl _ _)
 . split
   . exact zAz BL.nil (zFl _ _)
   . split
     . exact bl_1 hp.cls
     . exact BL.nil
theorem dst_w (p : Zz) (t : Adr) (l : List Ctx) (now : Int) : FmW (zCt p t l now).1:=by
 unfold zCt;split
 . exact grp_w _
 . exact zEF _ _ _ _ _
theorem encI_bl {p : Zz} (hp : PkW p) (f t : Adr) (l : List Ctx) (now : Int) : BL (qt p f t l now).1:=by
 have hb1 : byteOk p.1.src:=⟨λq=>by have:=hp.src q.1;rw [ZV _ q.2] at this;exact this⟩;have hb2 : byteOk p.1.dst:=⟨λq=>by have:=hp.dst q.1;rw [ZV _ q.2] at this;exact this⟩;unfold qt;split
 . exact BL.nil
 . split
   . exact BL.nil
   . dsimp only;unfold zCf;have hw1:=zEF p.1.src f true l now;have hw2:=dst_w p t l now;refine zAz (zAz (zAz (zAz ?_ (bl_if (bl_1 ?_) BL.nil)) (inl_bl hp)) (uni_bl hb1 _ _ _ _)) ?_
     . have h1:=zHC p;have h2:=sec_r hw1 hw2 (ZP p.1.dst);exact ⟨λx hx=>by
        simp only [List.mem_cons,List.not_mem_nil,or_false] at hx;rcases hx with rfl | rfl
        . omega
        . exact h2⟩
     . have h1:=hw1.id;have h2:=hw2.id;omega
     . unfold zCt;split
       . exact grp_bl hb2
       . exact uni_bl hb2 _ _ _ _
theorem zFm (p : Zz) (f t : Adr) (l : List Ctx) (now : Int) : (qt p f t l now).1.length <= 41:=by
 have h1:=zBA p.1.src f true l now;have h2:=dst_len p t l now;have h3:=zGy p;unfold qt;split
 . exact Nat.zero_le _
 . split
   . exact Nat.zero_le _
   . dsimp only;rw [zHp];split<;>omega
theorem beVal_1 (x : Int) : ZT [x] = x:=by
 have:=YJ [] x;rw [List.nil_append] at this;rw [this];show ZT [] * 256 + x = x;rw [show ZT [] = 0 from rfl];omega
theorem readD_r {b : List Int} {f t : Adr} {l : List Ctx} {now : Int} (h : RdOk b 0) : RdOk b (qi b f t l now).2:=by
 unfold qi;refine Qc (zFh h) λs q h=>Qc (zD1 h) λhh q h=>Qc ?_ λsrc q h=>Qc ?_ λd q h=>h
 . unfold zDs;exact Yl (uniD_r h) h
 . unfold zCa;exact Yl (grpD_r h) (uniD_r h)
structure Dif (X Y : List Int) (x y : Int) : Prop where
 d : ∃ A B,X = A ++ x :: B /\ Y = A ++ y :: B
theorem Dif.left {X Y Z : List Int} {x y : Int} (h : Dif X Y x y) : Dif (Z ++ X) (Z ++ Y) x y:=by
 obtain ⟨A,B,rfl,rfl⟩:=h.d;exact ⟨Z ++ A,B,by simp,by simp⟩
theorem Dif.right {X Y Z : List Int} {x y : Int} (h : Dif X Y x y) : Dif (X ++ Z) (Y ++ Z) x y:=by
 obtain ⟨A,B,rfl,rfl⟩:=h.d;exact ⟨A,B ++ Z,by simp,by simp⟩
theorem Dif.set {X : List Int} {i : Nat} {y : Int} (h : i < X.length) : Dif X (X.set i y) (X.getD i default) y:=by
 refine ⟨X.take i,X.drop (i + 1),?_,?_⟩
 . rw [<- qy h,List.take_append_drop]
 . rw [List.set_eq_take_append_cons_drop,if_pos h]
def s0 (t : Nat) : Int:=if (65535 - (qK t : Int)) = 0 then 65535 else 65535 - (qK t : Int)
structure AdrW (a : Adr) : Prop where
 v : ZQ a = true
 short : 0 <= a.short /\ a.short < 65536
 eui : 0 <= a.eui /\ a.eui < 18446744073709551616
structure DevW (a : Adr) : Prop where
 s : Yw a = true
 w : AdrW a
theorem wr16 (z : Int) : 0 <= IntKind.u16.wrap z /\ IntKind.u16.wrap z < 65536:=by
 simp only [IntKind.wrap,IntKind.signed,IntKind.bits];constructor
 . exact Int.emod_nonneg _ (by decide)
 . exact Int.emod_lt_of_pos _ (by decide)
theorem wr64 (z : Int) : 0 <= IntKind.u64.wrap z /\ IntKind.u64.wrap z < 18446744073709551616:=by
 simp only [IntKind.wrap,IntKind.signed,IntKind.bits];constructor
 . exact Int.emod_nonneg _ (by decide)
 . exact Int.emod_lt_of_pos _ (by decide)
theorem z16 : (0 : Int) <= 0 /\ (0 : Int) < 65536:=by decide
theorem z64 : (0 : Int) <= 0 /\ (0 : Int) < 18446744073709551616:=by decide
theorem dev_3 {e : Int} (h : 0 <= e /\ e < 18446744073709551616) : DevW ⟨3,0,e⟩:=⟨rfl,rfl,z16,h⟩
theorem dev_2 {e : Int} (h : 0 <= e /\ e < 65536) : DevW ⟨2,e,0⟩:=⟨rfl,rfl,h,z64⟩
theorem zI8 (n : Nat) (l : List Int) (q : Int) (ht : TapeOk n (rI l) q) :
 ∃ (r : Adr) (q' : Int),DevW r /\ TapeOk n (rI l) q' /\ ze Tryz.prog 17 [] (Zf n (rI l) q) ((cE ZF).enc r) (Zf n (rI l) q'):=by
 refine qE (wd:=1) (by decide) zM (zT zCA) zN Tryz.func17 rfl _ (by show 0 + 1 <= _;decide) (zAu ZF) ?_;repeat' (first | (apply And.intro<;>intro hc<;>(first | exact Bool.noConfusion hc | (simp only [qm] at hc) | skip)) | (refine And.intro Za ?_) | (apply And.intro) | (intro s hs))
 . exact ⟨(⟨3,0,_⟩,_),⟨dev_3 (wr64 _),by assumption⟩,⟨ZS (zd ⟨⟨⟨trivial,zA rfl⟩,zA rfl⟩,zA rfl⟩),ZI⟩⟩
 . exact ⟨(⟨2,_,0⟩,_),⟨dev_2 (wr16 _),by assumption⟩,⟨ZS (zd ⟨⟨⟨trivial,zA rfl⟩,zA rfl⟩,zA rfl⟩),ZI⟩⟩
abbrev dev2E : ZD:=Yt AC.nil (λ_=>True) (λa (r : Adr)=>DevW r) (cE ZF).enc
def LT3 : Qb:=(17,some dev2E) :: LT2
theorem LT3_ok : ZC Tryz.prog LT3:=⟨qv ⟨_,Tryz.func17,rfl,by kernel_rfl⟩ λn l q a ht hp=>zI8 n l q ht,zAX⟩
theorem addr2_ok (n : Nat) (l : List Int) (q : Int) (ht : TapeOk n (rI l) q) :
 ∃ (r : Adr) (q' : Int),AdrW r /\ TapeOk n (rI l) q' /\ ze Tryz.prog 6 [] (Zf n (rI l) q) ((cE ZF).enc r) (Zf n (rI l) q'):=by
 refine qE (wd:=1) (by decide) zM (zT LT3_ok) zN Tryz.func6 rfl _ (by show 0 + 1 <= _;decide) (zAu ZF) ?_;repeat' (first | (apply And.intro<;>intro hc<;>(first | exact Bool.noConfusion hc | (simp only [qm] at hc) | skip)) | (refine And.intro Za ?_) | (apply And.intro) | (intro s hs))
 . exact ⟨(⟨2,65535,0⟩,_),⟨(dev_2 (e:=65535) (by decide)).w,by assumption⟩,⟨ZS (zd ⟨⟨⟨trivial,zA rfl⟩,zA rfl⟩,zA rfl⟩),ZI⟩⟩
 . exact ⟨(⟨0,0,0⟩,_),⟨⟨rfl,z16,z64⟩,by assumption⟩,⟨ZS (zd ⟨⟨⟨trivial,zA rfl⟩,zA rfl⟩,zA rfl⟩),ZI⟩⟩
 . rename_i r hr;exact ⟨(r,_),⟨hr.w,by assumption⟩,⟨ZS (zd ⟨⟨⟨trivial,zA rfl⟩,zA rfl⟩,zA rfl⟩),ZI⟩⟩
abbrev addr2E : ZD:=Yt AC.nil (λ_=>True) (λa (r : Adr)=>AdrW r) (cE ZF).enc
theorem zI9 {x : Ctx} (h1 : vpf (Zy x) = true) (h2 : vt x.til = true) (h3 : x.id < 16) : ∀ (L : List Ctx) (b : Int),qX b L = true -> (∀ c ∈ L,c.id < x.id) -> b < x.id -> qX b (L ++ [x]) = true:=by
 intro L;induction L with
 | nil=>intro b _ _ hb;simp [qX,h1,h2,h3,hb]
 | cons c L ih=>
   intro b hv hid hb;simp only [List.cons_append,qX,Bool.and_eq_true] at hv ⊢;exact ⟨hv.1,ih c.id hv.2 (λd hd=>hid d (List.mem_cons_of_mem _ hd)) (hid c (List.mem_cons_self ..))⟩
structure madeL (L : List Ctx) : Prop where
 v : Zd L = true
 n : L.length <= 16
 b : ∀ c ∈ L,byteOk c.ip
structure CtxS (n : Nat) (l : List Int) where
 i : Nat
 L : List Ctx
 q : Int
 hi : i <= 16
 hv : Zd L = true
 hid : ∀ c ∈ L,c.id < i
 hn : L.length <= i
 hb : ∀ c ∈ L,byteOk c.ip
 ht : TapeOk n (rI l) q
theorem nff_slR {L : List Ctx} : NFF (.e (.c (slR zb L))):=nff_c (zE3 λi _ j _=>(zb.flat _ _).nf)
theorem zH8 (n : Nat) (l : List Int) (q : Int) (ht : TapeOk n (rI l) q) :
 ∃ (r : List Ctx) (q' : Int),madeL r /\ TapeOk n (rI l) q' /\ ze Tryz.prog 7 [] (Zf n (rI l) q) (.e (.c (slR zb r))) (Zf n (rI l) q'):=by
 refine qE (enc:=λr=>.e (.c (slR zb r))) (wd:=1) (by decide) zM (zT zAX) zN Tryz.func7 rfl _ (by show 0 + 1 <= _;decide) (λ_=>nff_slR) ?_;refine zp (ZE zAX) (λs : CtxS n l=>(⟨[(0,one (.ptr 0 0 0 false)),(3,one (.os 7 0 s.L.length)),(4,one (.int .i64 (s.i : Int)))],
  [(0,some (Zf n (rI l) s.q)),(7,some (qD zb 60 s.L))],8⟩ : Hd)) (λs=>16 - s.i) (λ_=>rfl) ?_ ⟨0,[],q,by omega,rfl,by simp,by simp,by simp,ht⟩ [(7,none)] ?_
 . rintro ⟨i,L,q1,hi,hv,hid,hn,hb,ht1⟩;dsimp only at hi hv hid hn hb ⊢;repeat' (first | (apply And.intro<;>intro hc<;>(first | exact Bool.noConfusion hc | (simp only [qm] at hc) | skip)) | (refine And.intro Za ?_) | (apply And.intro) | (intro s hs))
   . rename_i sb hsb sq1 hsq1 p hp sq2 hsq2 v hv' sq3 hsq3 u hu;have hu' : 0 <= u /\ u < 50:=hu;refine ⟨⟨i + 1,L ++ [⟨i,p.ip,p.bits,decide (0 < v),u⟩],_,by omega,?_,?_,by simp;omega,?_,hs⟩,[(7,some 23)],by dsimp only;omega,rfl,?_,?_⟩
     . refine zI9 ?_ ?_ ?_ L (-1) hv hid ?_
       . exact hp.1
       . simp [vt];omega
       . show (i : Int) < 16;omega
       . show (-1 : Int) < i;omega
     . intro c hc;rcases List.mem_append.1 hc with h | h
       . have:=hid c h;omega
       . rw [List.mem_singleton.1 h];show (i : Int) < ((i + 1 : Nat) : Int);omega
     . intro c hc;rcases List.mem_append.1 hc with h | h
       . exact hb c h
       . rw [List.mem_singleton.1 h];exact hp.2
     . repeat' (first | exact qH | refine zF ?_ | refine zC ?_ | exact qI | apply And.intro)
       . exact qM (zy rfl (by simp))
       . refine (IntWalk.i64_in _ ?_).trans ?_
         . constructor<;>omega
         . dsimp only;omega
     . repeat' (first | exact qH | refine zF ?_ | refine zC ?_ | exact qI | apply And.intro)
       . exact ZI
       . (change LeN _ _ _;refine zHW (E:=zb) (L:=L) (x:=⟨i,p.ip,p.bits,decide (0 < v),u⟩) rfl (λi hi j hj=>zCG (Nat.ble_eq_true_of_le hi) (Elem.flat _ _ _).le) ?_;repeat' (first | exact trivial | (refine zAl (zEz _) ?_;rw [Nat.sub_self];first | exact zA rfl | exact zH rfl | exact zH ‹_›) | apply And.intro))
   . refine ⟨⟨i + 1,L,_,by omega,hv,λc hc=>by have:=hid c hc;omega,by omega,hb,hs⟩,[],by dsimp only;omega,rfl,?_,?_⟩
     . repeat' (first | exact qH | refine zF ?_ | refine zC ?_ | exact qI | apply And.intro)
       refine (IntWalk.i64_in _ ?_).trans ?_
       . constructor<;>omega
       . dsimp only;omega
     . repeat' (first | exact qH | refine zF ?_ | refine zC ?_ | exact qI | apply And.intro)
       . exact ZI
       . exact qp
   . exact ⟨(L,q1),⟨⟨hv,(show L.length <= 16 by omega),hb⟩,ht1⟩,⟨qM (ZW rfl rfl),ZI⟩⟩
 . refine ⟨rfl,?_,?_⟩
   . repeat' (first | exact qH | refine zF ?_ | refine zC ?_ | exact qI | apply And.intro)
     exact qM (qN rfl)
   . repeat' (first | exact qH | refine zF ?_ | refine zC ?_ | exact qI | apply And.intro)
     . exact ZI
     . exact zq
abbrev ctxsE : ZD:=Yt AC.nil (λ_=>True) (λa (r : List Ctx)=>madeL r) (λr=>.e (.c (slR zb r)))
def LT4 : Qb:=(6,some addr2E) :: (7,some ctxsE) :: LT3
theorem LT4_ok : ZC Tryz.prog LT4:=⟨qv ⟨_,Tryz.func6,rfl,by kernel_rfl⟩ λn l q a ht hp=>addr2_ok n l q ht,qv ⟨_,Tryz.func7,rfl,by kernel_rfl⟩ λn l q a ht hp=>zH8 n l q ht,LT3_ok⟩
def k1 : Adr:=⟨2,1,0⟩
def k2 : Adr:=⟨2,2,0⟩
theorem k_link1 : zCh k1 = (jn llP.ip 1099478073345,true):=rfl
theorem k_link2 : zCh k2 = (jn llP.ip 1099478073346,true):=rfl
theorem k_enc : qt (hP 64 (jn llP.ip 1099478073345) (jn llP.ip 1099478073346)) k1 k2 [] 0 = ([126,51],0):=by decide +kernel
theorem bytes_nil : bytesL []:=⟨(λc h=>by cases h),Nat.zero_le _⟩
def LIe : Qb:=(44,some enIE) :: (LT4 ++ (LMp ++ (LRa ++ LAd)))
theorem LIe_ok : ZC Tryz.prog LIe:=⟨enIE_ok,Qe LT4_ok (Qe LMp_ok (Qe zHG zBo))⟩
def QX (x : Int) : Bool:=decide (61616 <= x) && decide (x < 61632)
def byt (x : Int) : Bool:=decide (61440 <= x) && decide (x < 61696)
theorem zAj {x : Int} : QX x = true ↔ 61616 <= x /\ x < 61632:=by unfold QX;simp
theorem zBb {x : Int} : byt x = true ↔ 61440 <= x /\ x < 61696:=by unfold byt;simp
def qe (s d : Int) : List Int:=
 if QX s = true /\ QX d = true then [243,(s - 61616) * 16 + (d - 61616)]
 else if byt d = true then [241,s / 256 % 256,s % 256,d - 61440]
 else if byt s = true then [242,s - 61440,d / 256 % 256,d % 256]
 else [240,s / 256 % 256,s % 256,d / 256 % 256,d % 256]
def YZ (p : Zz) : List Int:=qe p.1.sp p.1.dp ++ qk (qZ p) 2
def zAA (p : Zz) (f t : Adr) (l : List Ctx) (now : Int) : List Int × Int:=
 if (qt p f t l now).2 = 0 then ((qt p f t l now).1 ++ ((if p.1.nxt = 17 then YZ p else []) ++ p.2),0) else ([],(qt p f t l now).2)
def QQ (p : Zz) : List Int × Int:=if zj p = true then (65 :: Qx p (qZ p),0) else ([],1)
def gB (r : List Int) (i : Nat) : Int:=r.getD i default
def pN (k : Int) : Nat:=if k = 0 then 4 else if k = 3 then 1 else 3
def pB (k : Int) (r : List Int) : List Int:=
 if k = 0 then [gB r 1,gB r 2,gB r 3,gB r 4] else if k = 1 then [gB r 1,gB r 2,240,gB r 3] else if k = 2 then [240,gB r 1,gB r 2,gB r 3] else [240,176 + gB r 1 / 16,240,176 + gB r 1 % 16]
def rdU (k : Int) (r : List Int) : (Int × Int) × Int × Int:=
 ((gB (pB k r) 0 * 256 + gB (pB k r) 1,gB (pB k r) 2 * 256 + gB (pB k r) 3),gB r (1 + pN k) * 256 + gB r (2 + pN k),(pN k + 3 : Int))
def Qk (r : List Int) : ((Int × Int) × Int × Int) × Int:=
 if r.length = 0 then (((0,0),0,0),4) else if gB r 0 < 240 \/ 243 < gB r 0 then (((0,0),0,0),5)
 else if r.length < pN (gB r 0 - 240) + 3 then (((0,0),0,0),4) else (rdU (gB r 0 - 240) r,0)
def zBc (p : Zz) (sum : Int) : Zz × Int:=if 1280 < ZB p then (pk0,3) else if p.1.nxt = 17 /\ sum ≠ qZ p then (pk0,6) else (p,0)
def zA3 (h : Hdr) (r : List Int) : Zz × Int:=
 if h.nxt = 17 then (if (Qk r).2 = 0 then zBc ({ h with sp:=(Qk r).1.1.1,dp:=(Qk r).1.1.2 },r.drop (Qk r).1.2.2.toNat) (Qk r).1.2.1 else (pk0,(Qk r).2)) else zBc (h,r) 0
def zAU (b : List Int) (f t : Adr) (l : List Ctx) (now : Int) : Zz × Int:=
 if b.length = 0 then (pk0,4) else if gB b 0 = 65 then Qa (b.drop 1)
 else if (Zr b f t l now).2 = 0 then zA3 (Zr b f t l now).1.1.1 (b.drop (Zr b f t l now).1.2.toNat) else (pk0,(Zr b f t l now).2)
theorem zDd (s d : Int) : 2 <= (qe s d).length /\ (qe s d).length <= 5:=by
 unfold qe;split
 . exact ⟨by simp,by simp⟩
 . split
   . exact ⟨by simp,by simp⟩
   . split
     . exact ⟨by simp,by simp⟩
     . exact ⟨by simp,by simp⟩
theorem ports_bl {s d : Int} : BL (qe s d):=by
 have m : ∀ x : Int,0 <= x % 256 /\ x % 256 < 256:=λx=>by omega
 unfold qe;split
 . rename_i h;have h1:=zAj.1 h.1;have h2:=zAj.1 h.2;exact .cons (by omega) (.cons (by omega) .nil)
 . split
   . rename_i h;have h1:=zBb.1 h;exact .cons (by omega) (.cons (m _) (.cons (m _) (.cons (by omega) .nil)))
   . split
     . rename_i h;have h1:=zBb.1 h;exact .cons (by omega) (.cons (by omega) (.cons (m _) (.cons (m _) .nil)))
     . exact .cons (by omega) (.cons (m _) (.cons (m _) (.cons (m _) (.cons (m _) .nil))))
theorem udp_bl (p : Zz) : BL (YZ p):=zAz ports_bl (zFl _ _)
theorem udp_len (p : Zz) : (YZ p).length = (qe p.1.sp p.1.dp).length + 2:=by
 unfold YZ;rw [List.length_append,zAd];rfl
theorem encC_ok {p : Zz} {f t : Adr} {l : List Ctx} {now : Int} (hp : zj p = true) (hf : ZQ f = true) (ht : ZQ t = true) (hl : Zd l = true) (hn : vt now = true) : zAA p f t l now = ((qt p f t l now).1 ++ ((if p.1.nxt = 17 then YZ p else []) ++ p.2),0):=by
 unfold zAA;rw [if_pos (by rw [zEY hp hf ht hl hn])]
theorem tail_bl {p : Zz} (hp : PkW p) : BL ((if p.1.nxt = 17 then YZ p else []) ++ p.2):=zAz (bl_if (udp_bl p) .nil) hp.pay
theorem tail_len {p : Zz} : ((if p.1.nxt = 17 then YZ p else []) ++ p.2).length <= 7 + p.2.length:=by
 rw [List.length_append];split
 . rw [udp_len];have:=(zDd p.1.sp p.1.dp).2;omega
 . simp
def lX : Fin 16 -> Int:=jn llP.ip 1099478073345
def lY : Fin 16 -> Int:=jn llP.ip 1099478073346
def zCW (s d : Int) (b : List Int) : Zz:=(⟨0,0,17,64,lX,lY,s,d⟩,b)
theorem lX_b : byteOk lX:=jn_ok llP_b _
theorem lY_b : byteOk lY:=jn_ok llP_b _
theorem lX_0 : zQ lX 0 = 254:=by decide +kernel
theorem locP_m {s d : Int} {b : List Int} (hs : 0 <= s /\ s < 65536) (hd : 0 <= d /\ d < 65536) (hb : BL b) (hbl : b.length <= 100) : PkM (zCW s d b):=
 pkM_mk (by decide) (by decide) (by decide) (by decide) lX_b lY_b hs hd hb (by rw [lX_0];decide) (by rw [if_pos rfl];omega) (.inl rfl)
theorem zFv : ZQ k1 = true /\ ZQ k2 = true:=by decide
theorem locP_I {s d : Int} {b : List Int} (hs : 0 <= s /\ s < 65536) (hd : 0 <= d /\ d < 65536) (hb : BL b) (hbl : b.length <= 100) : qt (zCW s d b) k1 k2 [] 0 = ([126,51],0):=by
 rw [zEY (locP_m hs hd hb hbl).v zFv.1 zFv.2 rfl rfl,<- k_enc];rw [zEY (hP_v (by show zQ lX 0 ≠ 255;rw [lX_0];decide)) zFv.1 zFv.2 rfl rfl];rfl
theorem locP_C {s d : Int} {b : List Int} (hs : 0 <= s /\ s < 65536) (hd : 0 <= d /\ d < 65536) (hb : BL b) (hbl : b.length <= 100) : zAA (zCW s d b) k1 k2 [] 0 = ([126,51] ++ ((qe s d ++ qk (qZ (zCW s d b)) 2) ++ b),0):=by
 rw [encC_ok (locP_m hs hd hb hbl).v zFv.1 zFv.2 rfl rfl,locP_I hs hd hb hbl];rfl
def H0 : Hdr:=(zCW 0 0 []).1
theorem zAa {α β : Type} {P : α -> Prop} {R : β -> Prop} {x : RD α} {z : β} {f : α -> Int -> RD β} (hx : P x.1.1) (hz : R z) (hf : ∀ v q,P v -> R (f v q).1.1) : R (zo x z f).1.1:=by
 unfold zo;split
 . exact hf _ _ hx
 . exact hz
abbrev by8 (v : Int) : Prop:=0 <= v /\ v < 256
structure HdW (h : Hdr) : Prop where
 cls : by8 h.cls
 flow : 0 <= h.flow /\ h.flow < 4294967296
 nxt : by8 h.nxt
 hops : by8 h.hops
 sp : h.sp = 0
 dp : h.dp = 0
structure HdO (h : Hdr) : Prop where
 w : HdW h
 src : byteOk h.src
 dst : byteOk h.dst
theorem zCj : byteOk zI:=⟨λq=>⟨Int.le_refl 0,(by decide : (0 : Int) < 256)⟩⟩
theorem zH_w : HdW zJ:=⟨by decide,by decide,by decide,by decide,rfl,rfl⟩
theorem zH_o : HdO zJ:=⟨zH_w,zCj,zCj⟩
theorem hop_w8 (x : Int) : by8 (Qr x):=by
 unfold Qr by8;split
 . decide
 . split
   . decide
   . split<;>decide
theorem fieldsD_w {b : List Int} {x q : Int} (hb : BL b) : HdW (zL b x q).1.1:=by
 unfold zL;refine zAa (P:=by8) (R:=HdW) (Yz (P:=by8) (ZU hb) (show by8 0 by decide)) zH_w λc q hc=>?_;refine zAa (P:=λv=>0 <= v /\ v < 16777216) (R:=HdW) (Yz (P:=λv : Int=>0 <= v /\ v < 16777216) (Qy hb) (show (0 : Int) <= 0 /\ (0 : Int) < 16777216 by decide)) zH_w λfl q hf=>Yz (P:=HdW) zH_w ?_;refine zAa (P:=by8) (R:=HdW) (Yz (P:=by8) (ZU hb) (show by8 17 by decide)) zH_w λnx q hn=>Yz (P:=HdW) zH_w ?_;refine zAa (P:=by8) (R:=HdW) (Yz (P:=by8) (ZU hb) (hop_w8 _)) zH_w λhp q hh=>?_;exact ⟨hc,⟨hf.1,by dsimp only;omega⟩,hn,hh,rfl,rfl⟩
theorem ipRF_w {b : List Int} {q : Int} (hb : BL b) : byteOk (QT b q).1.1:=by
 unfold QT;split
 . exact zCj
 . exact ⟨λi=>hb.get _⟩
theorem findDec_b {id now : Int} : ∀ {l : List Ctx},(∀ c ∈ l,byteOk c.ip) -> byteOk (qc id now l).1.ip:=by
 intro l;induction l with
 | nil=>intro _;exact zCj
 | cons c l ih=>
   intro h;unfold qc;split
   . exact h c (List.mem_cons_self ..)
   . exact ih λd hd=>h d (List.mem_cons_of_mem _ hd)
theorem zHR {l : List Ctx} (hl : bytesL l) (id now : Int) : byteOk (zK l id now).1.ip:=by
 unfold zK;split
 . exact findDec_b hl.b
 . exact zCj
theorem uniD_w {b : List Int} {c : Bool} {m q : Int} {k : Adr} {C : Ctx × Bool} (hb : BL b) (hC : byteOk C.1.ip) : byteOk (qz b c m k C q).1.1:=by
 have hp : byteOk (zB4 c C).ip:=by
  unfold zB4;split
  . exact hC
  . exact llP_b
 unfold qz zBs;refine Yz (P:=byteOk) zCj (Yz (P:=byteOk) zCj (Yz (P:=byteOk) zCj (zAa (P:=byteOk) (R:=byteOk) (Yz (P:=byteOk) (ipRF_w hb) (Yz (P:=byteOk) (zBB (P:=byteOk) zCj λv q=>jn_ok hp _) (Yz (P:=byteOk) (zBB (P:=byteOk) zCj λv q=>jn_ok hp _) (jn_ok hp _)))) zCj λa q ha=>Yz (P:=byteOk) zCj ha)))
theorem grpV_w {n : Nat} {w : List Int} (h : BL w) : byteOk (zBi n w):=⟨λi=>by
 unfold zBi;split
 . decide
 . split
   . split
     . decide
     . exact h.get _
   . split
     . decide
     . exact h.get _⟩
theorem grpD_w {b : List Int} {m q : Int} (hb : BL b) : byteOk (zAb b m q).1.1:=by
 unfold zAb;exact Yz (P:=byteOk) (zAa (P:=byteOk) (R:=byteOk) (ipRF_w hb) zCj λa q ha=>Yz (P:=byteOk) ha ha) (zBB (P:=byteOk) zCj λv q=>grpV_w ((hb.drop _).take _))
theorem readD_w {b : List Int} {f t : Adr} {l : List Ctx} {now : Int} (hb : BL b) (hl : bytesL l) : HdO (qi b f t l now).1.1:=by
 unfold qi;refine zBB (P:=HdO) zH_o λs q=>zAa (P:=HdW) (R:=HdO) (fieldsD_w hb) zH_o λh q hh=>zAa (P:=byteOk) (R:=HdO) ?_ zH_o λx q hx=>zAa (P:=byteOk) (R:=HdO) ?_ zH_o λy q hy=>⟨⟨hh.cls,hh.flow,hh.nxt,hh.hops,hh.sp,hh.dp⟩,hx,hy⟩
 . unfold zDs;exact Yz (P:=byteOk) (uniD_w hb (zHR hl _ _)) zCj
 . unfold zCa;exact Yz (P:=byteOk) (grpD_w hb) (uniD_w hb (zHR hl _ _))
theorem zDc {b : List Int} {f t : Adr} {l : List Ctx} {now : Int} (hb : BL b) (hbl : b.length <= 140737488355328) (hl : bytesL l) : HdO (Zr b f t l now).1.1.1 /\ 0 <= (Zr b f t l now).1.2 /\ (Zr b f t l now).1.2 <= b.length:=by
 have r0 : RdOk b 0:=⟨hb,hbl,Int.le_refl 0,Int.natCast_nonneg _⟩;have h1 : RdOk b (qi b f t l now).2:=readD_r r0;have h2 : HdO (qi b f t l now).1.1:=readD_w hb hl;unfold Zr;split
 . exact ⟨zH_o,Int.le_refl 0,Int.natCast_nonneg _⟩
 . split
   . exact ⟨h2,h1.lo,h1.hi⟩
   . exact ⟨zH_o,Int.le_refl 0,Int.natCast_nonneg _⟩
theorem gB_r {b : List Int} (h : BL b) (i : Nat) : 0 <= gB b i /\ gB b i < 256:=h.get i
theorem udpD_w {r : List Int} (hr : BL r) : (0 <= (Qk r).1.1.1 /\ (Qk r).1.1.1 < 65536) /\ (0 <= (Qk r).1.1.2 /\ (Qk r).1.1.2 < 65536) /\ (0 <= (Qk r).1.2.1 /\ (Qk r).1.2.1 < 65536):=by
 have g:=gB_r hr;unfold Qk;split
 . exact ⟨by decide,by decide,by decide⟩
 . split
   . exact ⟨by decide,by decide,by decide⟩
   . split
     . exact ⟨by decide,by decide,by decide⟩
     . have hp : ∀ i,i < 4 -> 0 <= gB (pB (gB r 0 - 240) r) i /\ gB (pB (gB r 0 - 240) r) i < 256:=by
        have q0:=g 1;have q1:=g 2;have q2:=g 3;have q3:=g 4;intro i hi;unfold pB;split
        . rcases i with _ | _ | _ | _ | i<;>first | assumption | omega
        . split
          . rcases i with _ | _ | _ | _ | i<;>first | assumption | (show (0 : Int) <= 240 /\ (240 : Int) < 256;omega) | omega
          . split
            . rcases i with _ | _ | _ | _ | i<;>first | assumption | (show (0 : Int) <= 240 /\ (240 : Int) < 256;omega) | omega
            . rcases i with _ | _ | _ | _ | i
              . show (0 : Int) <= 240 /\ (240 : Int) < 256;omega
              . show 0 <= 176 + gB r 1 / 16 /\ 176 + gB r 1 / 16 < 256;omega
              . show (0 : Int) <= 240 /\ (240 : Int) < 256;omega
              . show 0 <= 176 + gB r 1 % 16 /\ 176 + gB r 1 % 16 < 256;omega
              . omega
       have h0:=hp 0 (by decide);have h1:=hp 1 (by decide);have h2:=hp 2 (by decide);have h3:=hp 3 (by decide);have h4:=g (1 + pN (gB r 0 - 240));have h5:=g (2 + pN (gB r 0 - 240));unfold rdU;dsimp only;omega
theorem udpD_n {r : List Int} (hr : BL r) (h : (Qk r).2 = 0) : 4 <= (Qk r).1.2.2 /\ (Qk r).1.2.2 <= r.length:=by
 unfold Qk at h ⊢;split at h
 . exact absurd (show (4 : Int) = 0 from h) (by decide)
 . split at h
   . exact absurd (show (5 : Int) = 0 from h) (by decide)
   . split at h
     . exact absurd (show (4 : Int) = 0 from h) (by decide)
     . rename_i h1 h2 h3;rw [if_neg h1,if_neg h2,if_neg h3];show (4 : Int) <= (pN (gB r 0 - 240) : Int) + 3 /\ (pN (gB r 0 - 240) : Int) + 3 <= r.length;have : 1 <= pN (gB r 0 - 240):=by
        unfold pN;split
        . decide
        . split<;>decide
       omega
theorem zEr {h : Hdr} {r : List Int} (hh : HdO h) (hr : BL r) {s d : Int} (hs : 0 <= s /\ s < 65536) (hd : 0 <= d /\ d < 65536) : PkW ({ h with sp:=s,dp:=d },r):=
 ⟨hh.w.cls,hh.w.flow,hh.w.nxt,hh.w.hops,λi=>hh.src.v i,λi=>hh.dst.v i,hs,hd,hr⟩
def wthF (x f c : Int) : Bool:=decide (f <= x) && decide (x < f + c)
theorem zAP (x : Int) : wthF x 61616 16 = QX x:=rfl
theorem zA2 (x : Int) : wthF x 61440 256 = byt x:=rfl
theorem wth_ok (x f c : Int) (hx : 0 <= x /\ x < 65536) (hf : 0 <= f /\ f <= 65536) (hc : 0 <= c /\ c <= 65536) : zY Tryz.prog 76 [(cI .u16).enc x,(cI .i64).enc f,(cI .i64).enc c] (cB.enc (wthF x f c)):=by
 have w1 : IntKind.i64.wrap x = x:=IntWalk.i64_in _ (by omega);have w2 : IntKind.i64.wrap (f + c) = f + c:=IntWalk.i64_in _ (by omega);unfold wthF;refine zG (wd:=1) (by decide) zM (zT ZG) zN Tryz.func76 rfl _ (by show 3 <= _;decide) _ ?_;repeat' (first | (apply And.intro<;>intro hc<;>(first | exact Bool.noConfusion hc | (simp only [qm] at hc) | skip)) | (refine And.intro Za ?_) | (apply And.intro) | (intro s hs))
 . rw [w1] at hc;refine Done.mk (zC ?_);show decide (IntKind.i64.wrap x < IntKind.i64.wrap (f + c)) = (decide (f <= x) && decide (x < f + c));rw [w1,w2,decide_eq_true hc];rfl
 . rw [w1] at hc;refine Done.mk (zC ?_);show false = (decide (f <= x) && decide (x < f + c));rw [decide_eq_false hc];rfl
abbrev wthE : ZD:=ZH (AC.cons (cI .u16) (AC.cons (cI .i64) (AC.cons (cI .i64) AC.nil))) (λa=>(0 <= a.1 /\ a.1 < 65536) /\ (0 <= a.2.1 /\ a.2.1 <= 65536) /\ 0 <= a.2.2.1 /\ a.2.2.1 <= 65536) (λa=>wthF a.1 a.2.1 a.2.2.1) cB.enc
def LCa0 : Qb:=(78,some zEx) :: []
theorem LCa0_ok : ZC Tryz.prog LCa0:=⟨zHV,trivial⟩
def adE : ZD:=inlE T (mkQ LCa0) 1 Tryz.f77.ntmps Tryz.f77.results.toList (Tryz.f77.body.getD Code.ret)
theorem adE_ok : EntOk Tryz.prog 77 adE:=zGw (by decide) zM (zT LCa0_ok) (ZE LCa0_ok) zN Tryz.func77 rfl rfl
def LCa : Qb:=(76,some wthE) :: (77,some adE) :: (63,some sumE) :: []
theorem zGY : ZC Tryz.prog LCa:=⟨zO ⟨_,Tryz.func76,rfl,by kernel_rfl⟩ λa h=>wth_ok a.1 a.2.1 a.2.2.1 h.1 h.2.1 h.2.2,adE_ok,zO ⟨_,Tryz.func63,rfl,by kernel_rfl⟩ λa h=>zG3 a.1 h.1 h.2,trivial⟩
theorem ports_3 {s d : Int} (h1 : QX s = true) (h2 : QX d = true) : qe s d = [243,(s - 61616) * 16 + (d - 61616)]:=if_pos ⟨h1,h2⟩
theorem ports_1 {s d : Int} (h : ¬ (QX s = true /\ QX d = true)) (h1 : byt d = true) : qe s d = [241,s / 256 % 256,s % 256,d - 61440]:=by unfold qe;rw [if_neg h,if_pos h1]
theorem ports_2 {s d : Int} (h : ¬ (QX s = true /\ QX d = true)) (h1 : byt d = false) (h2 : byt s = true) : qe s d = [242,s - 61440,d / 256 % 256,d % 256]:=by unfold qe;rw [if_neg h,if_neg (by rw [h1];decide),if_pos h2]
theorem ports_0 {s d : Int} (h : ¬ (QX s = true /\ QX d = true)) (h1 : byt d = false) (h2 : byt s = false) : qe s d = [240,s / 256 % 256,s % 256,d / 256 % 256,d % 256]:=by unfold qe;rw [if_neg h,if_neg (by rw [h1];decide),if_neg (by rw [h2];decide)]
theorem Yi {s l l' w : List Int} {v v' n : Int} (hs : s = l' ++ qk v' n) (h1 : l' = l) (h2 : v' = v) (h3 : qk v n = w) : s = l ++ w:=by rw [hs,h1,h2,h3]
theorem aud_3 (b : List Int) (p : Zz) (hbl : b.length <= 70368744170000) (hp : PkW p) (hpl : p.2.length <= 140737488355328) (h1 : QX p.1.sp = true) (h2 : QX p.1.dp = true) : ql Tryz.prog 45 [(qf eB Zb).enc b,cPk.enc p] (some (b ++ YZ p).length) none (qD eB 5 (b ++ YZ p)):=by
 obtain ⟨M,eM⟩ : ∃ M,qZ p = M:=⟨_,rfl⟩;have hM:=zBn p;rw [eM] at hM;have hsp:=hp.sp;have hdp:=hp.dp;have b1:=zAj.1 h1;have b2:=zAj.1 h2;have wS : IntKind.u64.wrap p.1.sp = p.1.sp:=IntWalk.u64_in _ (by omega);have wD : IntKind.u64.wrap p.1.dp = p.1.dp:=IntWalk.u64_in _ (by omega);have wM : IntKind.u64.wrap M = M:=IntWalk.u64_in _ (by omega);have wX : IntKind.u64.wrap (IntKind.u64.wrap (IntKind.u64.wrap (IntKind.u64.wrap (IntKind.u64.wrap p.1.sp - 61616) * 16) + IntKind.u64.wrap p.1.dp) - 61616) = (p.1.sp - 61616) * 16 + (p.1.dp - 61616):=by
  simp (disch:=omega) only [IntWalk.u64_in];try omega
 obtain ⟨B1,e1⟩ : ∃ x,b ++ [243] = x:=⟨_,rfl⟩;have l1 : B1.length = b.length + 1:=by rw [<- e1,List.length_append];rfl
 obtain ⟨B2,e2⟩ : ∃ x,B1 ++ [(p.1.sp - 61616) * 16 + (p.1.dp - 61616)] = x:=⟨_,rfl⟩;have l2 : B2.length = B1.length + 1:=by rw [<- e2,List.length_append];rfl
 obtain ⟨B3,e3⟩ : ∃ x,B2 ++ qk M 2 = x:=⟨_,rfl⟩;have l3 : B3.length = B2.length + 2:=by rw [<- e3,List.length_append,zAd];rfl
 have eF : b ++ YZ p = B3:=by
  unfold YZ;rw [eM,ports_3 h1 h2,<- e3,<- e2,<- e1];simp only [List.append_assoc,List.cons_append,List.nil_append]
 rw [eF];obtain ⟨g0,g1,g2⟩:=zg3;refine ZR (wd:=64) (by decide) zM (zT zGY) zN Tryz.func45 rfl _ (by show 2 <= _;decide) (λi _ j _=>qU eB _ i j) ?_;repeat' (first | (apply And.intro<;>intro hc<;>(first | exact Bool.noConfusion hc | (exfalso;first | exact absurd hc ‹_› | exact absurd ‹_› hc | exact Bool.noConfusion (hc.symm.trans h1) | exact Bool.noConfusion (hc.symm.trans h2)) | (simp only [Zi] at hc<;>first | exact absurd rfl hc | (exfalso;first | exact absurd hc ‹_› | exact absurd ‹_› hc | exact Bool.noConfusion (hc.symm.trans h1) | exact Bool.noConfusion (hc.symm.trans h2)) | skip) | skip)) | (refine And.intro Za ?_) | (apply And.intro) | (intro s hs;(first | (have q : s = QX p.1.sp:=hs.trans (zAP _);clear hs;subst q) | (have q : s = QX p.1.dp:=hs.trans (zAP _);clear hs;subst q) | (have q : s = byt p.1.sp:=hs.trans (zA2 _);clear hs;subst q) | (have q : s = byt p.1.dp:=hs.trans (zA2 _);clear hs;subst q) | (have q : M = s:=(hs.trans ((congrArg qZ (ZX p _)).trans eM)).symm;clear hs;subst q) | (clear g0;have q : B1 = s:=((Yi (v:=243) (n:=1) hs (zx b) rfl (beB1 _ (by decide))).trans e1).symm;clear hs;subst q) | (clear g1;have q : B2 = s:=((Yi (v:=(p.1.sp - 61616) * 16 + (p.1.dp - 61616)) (n:=1) hs (Zv _) wX (beB1 _ (by omega))).trans e2).symm;clear hs;subst q) | (clear g2;have q : B3 = s:=((Yi (v:=M) (n:=2) hs (Zv _) wM rfl).trans e3).symm;clear hs;subst q) | skip)))
 all_goals first
  | exact Nat.le_of_ble_eq_true rfl
  | exact rfl
  | exact λ_=>rfl
  | (show (Zw eB _ _).length <= _;rw [zS];omega)
  | exact Eq.mp (congrArg PkW (ZX p _).symm) hp
  | exact ⟨⟨some _,qM (zy rfl rfl),qp⟩⟩
  | skip
theorem aud_1 (b : List Int) (p : Zz) (hbl : b.length <= 70368744170000) (hp : PkW p) (hpl : p.2.length <= 140737488355328) (h : ¬ (QX p.1.sp = true /\ QX p.1.dp = true)) (h1 : byt p.1.dp = true) : ql Tryz.prog 45 [(qf eB Zb).enc b,cPk.enc p] (some (b ++ YZ p).length) none (qD eB 5 (b ++ YZ p)):=by
 obtain ⟨M,eM⟩ : ∃ M,qZ p = M:=⟨_,rfl⟩;have hM:=zBn p;rw [eM] at hM;have hsp:=hp.sp;have hdp:=hp.dp;have b1:=zBb.1 h1;have wS : IntKind.u64.wrap p.1.sp = p.1.sp:=IntWalk.u64_in _ (by omega);have wD : IntKind.u64.wrap p.1.dp = p.1.dp:=IntWalk.u64_in _ (by omega);have wM : IntKind.u64.wrap M = M:=IntWalk.u64_in _ (by omega);have wX : IntKind.u64.wrap (IntKind.u64.wrap p.1.dp - 61440) = p.1.dp - 61440:=by
  simp (disch:=omega) only [IntWalk.u64_in];try omega
 obtain ⟨B1,e1⟩ : ∃ x,b ++ [241] = x:=⟨_,rfl⟩;have l1 : B1.length = b.length + 1:=by rw [<- e1,List.length_append];rfl
 obtain ⟨B2,e2⟩ : ∃ x,B1 ++ [p.1.sp / 256 % 256,p.1.sp % 256] = x:=⟨_,rfl⟩;have l2 : B2.length = B1.length + 2:=by rw [<- e2,List.length_append];rfl
 obtain ⟨B3,e3⟩ : ∃ x,B2 ++ [p.1.dp - 61440] = x:=⟨_,rfl⟩;have l3 : B3.length = B2.length + 1:=by rw [<- e3,List.length_append];rfl
 obtain ⟨B4,e4⟩ : ∃ x,B3 ++ qk M 2 = x:=⟨_,rfl⟩;have l4 : B4.length = B3.length + 2:=by rw [<- e4,List.length_append,zAd];rfl
 have eF : b ++ YZ p = B4:=by
  unfold YZ;rw [eM,ports_1 h h1,<- e4,<- e3,<- e2,<- e1];simp only [List.append_assoc,List.cons_append,List.nil_append]
 rw [eF];obtain ⟨g0,g1,g2,g3⟩:=zg4;refine ZR (wd:=64) (by decide) zM (zT zGY) zN Tryz.func45 rfl _ (by show 2 <= _;decide) (λi _ j _=>qU eB _ i j) ?_;repeat' (first | (apply And.intro<;>intro hc<;>(first | exact Bool.noConfusion hc | (exfalso;first | exact absurd hc ‹_› | exact absurd ‹_› hc | exact h ⟨by assumption,hc⟩ | exact Bool.noConfusion (hc.symm.trans h1)) | (simp only [Zi] at hc<;>first | exact absurd rfl hc | (exfalso;first | exact absurd hc ‹_› | exact absurd ‹_› hc | exact h ⟨by assumption,hc⟩ | exact Bool.noConfusion (hc.symm.trans h1)) | skip) | skip)) | (refine And.intro Za ?_) | (apply And.intro) | (intro s hs;(first | (have q : s = QX p.1.sp:=hs.trans (zAP _);clear hs;subst q) | (have q : s = QX p.1.dp:=hs.trans (zAP _);clear hs;subst q) | (have q : s = byt p.1.sp:=hs.trans (zA2 _);clear hs;subst q) | (have q : s = byt p.1.dp:=hs.trans (zA2 _);clear hs;subst q) | (have q : M = s:=(hs.trans ((congrArg qZ (ZX p _)).trans eM)).symm;clear hs;subst q) | (clear g0;have q : B1 = s:=((Yi (v:=241) (n:=1) hs (zx b) rfl (beB1 _ (by decide))).trans e1).symm;clear hs;subst q) | (clear g1;have q : B2 = s:=((Yi (v:=p.1.sp) (n:=2) hs (Zv _) wS (zAd _)).trans e2).symm;clear hs;subst q) | (clear g2;have q : B3 = s:=((Yi (v:=p.1.dp - 61440) (n:=1) hs (Zv _) wX (beB1 _ (by omega))).trans e3).symm;clear hs;subst q) | (clear g3;have q : B4 = s:=((Yi (v:=M) (n:=2) hs (Zv _) wM rfl).trans e4).symm;clear hs;subst q) | skip)))
 all_goals first
  | exact Nat.le_of_ble_eq_true rfl
  | exact rfl
  | exact λ_=>rfl
  | (show (Zw eB _ _).length <= _;rw [zS];omega)
  | exact Eq.mp (congrArg PkW (ZX p _).symm) hp
  | exact ⟨⟨some _,qM (zy rfl rfl),qp⟩⟩
  | skip
theorem aud_2 (b : List Int) (p : Zz) (hbl : b.length <= 70368744170000) (hp : PkW p) (hpl : p.2.length <= 140737488355328) (h : ¬ (QX p.1.sp = true /\ QX p.1.dp = true)) (h1 : byt p.1.dp = false) (h2 : byt p.1.sp = true) : ql Tryz.prog 45 [(qf eB Zb).enc b,cPk.enc p] (some (b ++ YZ p).length) none (qD eB 5 (b ++ YZ p)):=by
 obtain ⟨M,eM⟩ : ∃ M,qZ p = M:=⟨_,rfl⟩;have hM:=zBn p;rw [eM] at hM;have hsp:=hp.sp;have hdp:=hp.dp;have b2:=zBb.1 h2;have wS : IntKind.u64.wrap p.1.sp = p.1.sp:=IntWalk.u64_in _ (by omega);have wD : IntKind.u64.wrap p.1.dp = p.1.dp:=IntWalk.u64_in _ (by omega);have wM : IntKind.u64.wrap M = M:=IntWalk.u64_in _ (by omega);have wX : IntKind.u64.wrap (IntKind.u64.wrap p.1.sp - 61440) = p.1.sp - 61440:=by
  simp (disch:=omega) only [IntWalk.u64_in];try omega
 obtain ⟨B1,e1⟩ : ∃ x,b ++ [242] = x:=⟨_,rfl⟩;have l1 : B1.length = b.length + 1:=by rw [<- e1,List.length_append];rfl
 obtain ⟨B2,e2⟩ : ∃ x,B1 ++ [p.1.sp - 61440] = x:=⟨_,rfl⟩;have l2 : B2.length = B1.length + 1:=by rw [<- e2,List.length_append];rfl
 obtain ⟨B3,e3⟩ : ∃ x,B2 ++ [p.1.dp / 256 % 256,p.1.dp % 256] = x:=⟨_,rfl⟩;have l3 : B3.length = B2.length + 2:=by rw [<- e3,List.length_append];rfl
 obtain ⟨B4,e4⟩ : ∃ x,B3 ++ qk M 2 = x:=⟨_,rfl⟩;have l4 : B4.length = B3.length + 2:=by rw [<- e4,List.length_append,zAd];rfl
 have eF : b ++ YZ p = B4:=by
  unfold YZ;rw [eM,ports_2 h h1 h2,<- e4,<- e3,<- e2,<- e1];simp only [List.append_assoc,List.cons_append,List.nil_append]
 rw [eF];obtain ⟨g0,g1,g2,g3⟩:=zg4;refine ZR (wd:=64) (by decide) zM (zT zGY) zN Tryz.func45 rfl _ (by show 2 <= _;decide) (λi _ j _=>qU eB _ i j) ?_;repeat' (first | (apply And.intro<;>intro hc<;>(first | exact Bool.noConfusion hc | (exfalso;first | exact absurd hc ‹_› | exact absurd ‹_› hc | exact h ⟨by assumption,hc⟩ | exact Bool.noConfusion (hc.symm.trans h1) | exact Bool.noConfusion (hc.symm.trans h2)) | (simp only [Zi] at hc<;>first | exact absurd rfl hc | (exfalso;first | exact absurd hc ‹_› | exact absurd ‹_› hc | exact h ⟨by assumption,hc⟩ | exact Bool.noConfusion (hc.symm.trans h1) | exact Bool.noConfusion (hc.symm.trans h2)) | skip) | skip)) | (refine And.intro Za ?_) | (apply And.intro) | (intro s hs;(first | (have q : s = QX p.1.sp:=hs.trans (zAP _);clear hs;subst q) | (have q : s = QX p.1.dp:=hs.trans (zAP _);clear hs;subst q) | (have q : s = byt p.1.sp:=hs.trans (zA2 _);clear hs;subst q) | (have q : s = byt p.1.dp:=hs.trans (zA2 _);clear hs;subst q) | (have q : M = s:=(hs.trans ((congrArg qZ (ZX p _)).trans eM)).symm;clear hs;subst q) | (clear g0;have q : B1 = s:=((Yi (v:=242) (n:=1) hs (zx b) rfl (beB1 _ (by decide))).trans e1).symm;clear hs;subst q) | (clear g1;have q : B2 = s:=((Yi (v:=p.1.sp - 61440) (n:=1) hs (Zv _) wX (beB1 _ (by omega))).trans e2).symm;clear hs;subst q) | (clear g2;have q : B3 = s:=((Yi (v:=p.1.dp) (n:=2) hs (Zv _) wD (zAd _)).trans e3).symm;clear hs;subst q) | (clear g3;have q : B4 = s:=((Yi (v:=M) (n:=2) hs (Zv _) wM rfl).trans e4).symm;clear hs;subst q) | skip)))
 all_goals first
  | exact Nat.le_of_ble_eq_true rfl
  | exact rfl
  | exact λ_=>rfl
  | (show (Zw eB _ _).length <= _;rw [zS];omega)
  | exact Eq.mp (congrArg PkW (ZX p _).symm) hp
  | exact ⟨⟨some _,qM (zy rfl rfl),qp⟩⟩
  | skip
theorem aud_0 (b : List Int) (p : Zz) (hbl : b.length <= 70368744170000) (hp : PkW p) (hpl : p.2.length <= 140737488355328) (h : ¬ (QX p.1.sp = true /\ QX p.1.dp = true)) (h1 : byt p.1.dp = false) (h2 : byt p.1.sp = false) : ql Tryz.prog 45 [(qf eB Zb).enc b,cPk.enc p] (some (b ++ YZ p).length) none (qD eB 5 (b ++ YZ p)):=by
 obtain ⟨M,eM⟩ : ∃ M,qZ p = M:=⟨_,rfl⟩;have hM:=zBn p;rw [eM] at hM;have hsp:=hp.sp;have hdp:=hp.dp;have wS : IntKind.u64.wrap p.1.sp = p.1.sp:=IntWalk.u64_in _ (by omega);have wD : IntKind.u64.wrap p.1.dp = p.1.dp:=IntWalk.u64_in _ (by omega);have wM : IntKind.u64.wrap M = M:=IntWalk.u64_in _ (by omega);obtain ⟨B1,e1⟩ : ∃ x,b ++ [240] = x:=⟨_,rfl⟩;have l1 : B1.length = b.length + 1:=by rw [<- e1,List.length_append];rfl
 obtain ⟨B2,e2⟩ : ∃ x,B1 ++ [p.1.sp / 256 % 256,p.1.sp % 256] = x:=⟨_,rfl⟩;have l2 : B2.length = B1.length + 2:=by rw [<- e2,List.length_append];rfl
 obtain ⟨B3,e3⟩ : ∃ x,B2 ++ [p.1.dp / 256 % 256,p.1.dp % 256] = x:=⟨_,rfl⟩;have l3 : B3.length = B2.length + 2:=by rw [<- e3,List.length_append];rfl
 obtain ⟨B4,e4⟩ : ∃ x,B3 ++ qk M 2 = x:=⟨_,rfl⟩;have l4 : B4.length = B3.length + 2:=by rw [<- e4,List.length_append,zAd];rfl
 have eF : b ++ YZ p = B4:=by
  unfold YZ;rw [eM,ports_0 h h1 h2,<- e4,<- e3,<- e2,<- e1];simp only [List.append_assoc,List.cons_append,List.nil_append]
 rw [eF];obtain ⟨g0,g1,g2,g3⟩:=zg4;refine ZR (wd:=64) (by decide) zM (zT zGY) zN Tryz.func45 rfl _ (by show 2 <= _;decide) (λi _ j _=>qU eB _ i j) ?_;repeat' (first | (apply And.intro<;>intro hc<;>(first | exact Bool.noConfusion hc | (exfalso;first | exact absurd hc ‹_› | exact absurd ‹_› hc | exact h ⟨by assumption,hc⟩ | exact Bool.noConfusion (hc.symm.trans h1) | exact Bool.noConfusion (hc.symm.trans h2)) | (simp only [Zi] at hc<;>first | exact absurd rfl hc | (exfalso;first | exact absurd hc ‹_› | exact absurd ‹_› hc | exact h ⟨by assumption,hc⟩ | exact Bool.noConfusion (hc.symm.trans h1) | exact Bool.noConfusion (hc.symm.trans h2)) | skip) | skip)) | (refine And.intro Za ?_) | (apply And.intro) | (intro s hs;(first | (have q : s = QX p.1.sp:=hs.trans (zAP _);clear hs;subst q) | (have q : s = QX p.1.dp:=hs.trans (zAP _);clear hs;subst q) | (have q : s = byt p.1.sp:=hs.trans (zA2 _);clear hs;subst q) | (have q : s = byt p.1.dp:=hs.trans (zA2 _);clear hs;subst q) | (have q : M = s:=(hs.trans ((congrArg qZ (ZX p _)).trans eM)).symm;clear hs;subst q) | (clear g0;have q : B1 = s:=((Yi (v:=240) (n:=1) hs (zx b) rfl (beB1 _ (by decide))).trans e1).symm;clear hs;subst q) | (clear g1;have q : B2 = s:=((Yi (v:=p.1.sp) (n:=2) hs (Zv _) wS (zAd _)).trans e2).symm;clear hs;subst q) | (clear g2;have q : B3 = s:=((Yi (v:=p.1.dp) (n:=2) hs (Zv _) wD (zAd _)).trans e3).symm;clear hs;subst q) | (clear g3;have q : B4 = s:=((Yi (v:=M) (n:=2) hs (Zv _) wM rfl).trans e4).symm;clear hs;subst q) | skip)))
 all_goals first
  | exact Nat.le_of_ble_eq_true rfl
  | exact rfl
  | exact λ_=>rfl
  | (show (Zw eB _ _).length <= _;rw [zS];omega)
  | exact Eq.mp (congrArg PkW (ZX p _).symm) hp
  | exact ⟨⟨some _,qM (zy rfl rfl),qp⟩⟩
  | skip
theorem aud_ok (b : List Int) (p : Zz) (hbl : b.length <= 70368744170000) (hp : PkW p) (hpl : p.2.length <= 140737488355328) : ql Tryz.prog 45 [(qf eB Zb).enc b,cPk.enc p] (some (b ++ YZ p).length) none (qD eB 5 (b ++ YZ p)):=by
 by_cases h : QX p.1.sp = true /\ QX p.1.dp = true
 . exact aud_3 b p hbl hp hpl h.1 h.2
 . cases h1 : byt p.1.dp with
   | true=>exact aud_1 b p hbl hp hpl h h1
   | false=>
     cases h2 : byt p.1.sp with
     | true=>exact aud_2 b p hbl hp hpl h h1 h2
     | false=>exact aud_0 b p hbl hp hpl h h1 h2
theorem zFn {p p' : Zz} {a a' b b' : Adr} {l l' : List Ctx} {n : Int} (h1 : p' = p) (h2 : a' = a) (h3 : b' = b) (h4 : l' = l) : qt p' a' b' l' n = qt p a b l n:=by rw [h1,h2,h3,h4]
abbrev audE : ZD:=zBu (AC.cons (qf eB Zb) (AC.cons cPk AC.nil)) (λa=>a.1.length <= 70368744170000 /\ PkW a.2.1 /\ a.2.1.2.length <= 140737488355328) (λa=>a.1 ++ YZ a.2.1) (λs=>some s.length) (λ_=>none) (λs=>qD eB 5 s)
def LCe : Qb:=(45,some audE) :: (44,some enIE) :: (47,some encE) :: []
theorem LCe_ok : ZC Tryz.prog LCe:=⟨QF ⟨_,Tryz.func45,rfl,by kernel_rfl⟩ (λs l h=>by cases h) λa h=>aud_ok a.1 a.2.1 h.1 h.2.1 h.2.2,enIE_ok,(LPf_ok).1,trivial⟩
theorem encI_v {p : Zz} {f t : Adr} {l : List Ctx} {now : Int} {C : List Int × Int} (eC : qt p f t l now = C) (h : C.2 = 0) : p.2.length <= 1280:=by
 cases hv : zj p with
 | true=>have:=YT hv;omega
 | false=>
   subst eC;unfold qt at h;rw [hv] at h;exact absurd (show (1 : Int) = 0 from h) (by decide)
theorem encC_1 {p : Zz} {f t : Adr} {l : List Ctx} {now : Int} {C : List Int × Int} (eC : qt p f t l now = C) (h : ¬ C.2 = 0) : zAA p f t l now = ([],C.2):=by subst eC;exact if_neg h
theorem encC_2 {p : Zz} {f t : Adr} {l : List Ctx} {now : Int} {C : List Int × Int} (eC : qt p f t l now = C) (h : C.2 = 0) (hu : p.1.nxt = 17) : zAA p f t l now = (C.1 ++ YZ p ++ p.2,0):=by
 subst eC;unfold zAA;rw [if_pos h,if_pos hu,List.append_assoc]
theorem encC_3 {p : Zz} {f t : Adr} {l : List Ctx} {now : Int} {C : List Int × Int} (eC : qt p f t l now = C) (h : C.2 = 0) (hu : ¬ p.1.nxt = 17) : zAA p f t l now = (C.1 ++ p.2,0):=by
 subst eC;unfold zAA;rw [if_pos h,if_neg hu,List.nil_append]
theorem cenc_ok (p : Zz) (f t : Adr) (l : List Ctx) (now : Int) (hp : PkW p) (hpl : p.2.length <= 140737488355328) (hl : bytesL l) : ql Tryz.prog 26 [cPk.enc p,(cE ZF).enc f,(cE ZF).enc t,(qf zb zq).enc l,(cI .i64).enc now] (some (zAA p f t l now).1.length) (some [zB8 (zAA p f t l now).2]) (qD eB 5 (zAA p f t l now).1):=by
 obtain ⟨W,eW⟩ : ∃ W,zAA p f t l now = W:=⟨_,rfl⟩;have hCl:=zFm p f t l now;obtain ⟨C,eC⟩ : ∃ C,qt p f t l now = C:=⟨_,rfl⟩;rw [eC] at hCl;have hsm:=encI_v eC;have e1:=λh=>eW.symm.trans (encC_1 (p:=p) (f:=f) (t:=t) (l:=l) (now:=now) eC h);have e2:=λh g=>eW.symm.trans (encC_2 (p:=p) (f:=f) (t:=t) (l:=l) (now:=now) eC h g);have e3:=λh g=>eW.symm.trans (encC_3 (p:=p) (f:=f) (t:=t) (l:=l) (now:=now) eC h g);rw [eW];clear eW;have hU:=udp_len p;have hP:=zDd p.1.sp p.1.dp;obtain ⟨U,eU⟩ : ∃ U,YZ p = U:=⟨_,rfl⟩;rw [eU] at hU e2;have g1:=trivial;refine ZR (wd:=1) (by decide) zM (zT LCe_ok) zN Tryz.func26 rfl _ (by show 5 <= _;decide) (λi _ j _=>qU eB _ i j) ?_;repeat' (first | (apply And.intro<;>intro hc<;>(first | exact Bool.noConfusion hc | (exfalso;first | exact absurd hc ‹_› | exact absurd ‹_› hc) | (simp only [Zi] at hc<;>first | exact absurd rfl hc | (exfalso;first | exact absurd hc ‹_› | exact absurd ‹_› hc) | skip) | skip)) | (refine And.intro Za ?_) | (apply And.intro) | (intro s hs;(first | (clear g1;have q : C = s:=(hs.trans ((zFn (ZX p _) (zt f) (zt t) (zU l)).trans eC)).symm;clear hs;subst q) | (have q : s = C.1 ++ U:=hs.trans ((congr (congrArg (λa b=>a ++ YZ b) (Zv C.1)) (ZX p _)).trans (congrArg (λx=>C.1 ++ x) eU));clear hs;subst q) | skip)))
 all_goals first
  | exact λ_=>rfl
  | exact Eq.mp (congrArg PkW (ZX p _).symm) hp
  | (show (Zw eB _ _).length <= _;rw [zS];omega)
  | exact Eq.mp (congrArg bytesL (zU l).symm) hl
  | (rw [e1 ‹_›]
     exact ⟨⟨none,zE ⟨qN rfl,zA rfl,trivial⟩,rfl,rfl,(by show 0 < 1;omega)⟩⟩)
  | omega
  | (have:=hsm ‹_›;rw [List.length_append];omega)
  | (have:=hsm ‹_›;omega)
  | exact rfl
  | (rw [e2 ‹_› ‹_›]
     refine ⟨⟨some _,zE ⟨zy rfl ?_,zA rfl,trivial⟩,Zg ?_ (zD rfl (QK _) (λk hk=>zV (by omega)))⟩⟩
     . exact (List.length_append ..).symm
     . exact (List.length_append ..).symm)
  | (rw [e3 ‹_› ‹_›]
     refine ⟨⟨some _,zE ⟨zy rfl ?_,zA rfl,trivial⟩,Zg ?_ (zD rfl (QK _) (λk hk=>zV (by omega)))⟩⟩
     . exact (List.length_append ..).symm
     . exact (List.length_append ..).symm)
  | skip
theorem plain_ok (p : Zz) (hp : PkW p) (hpl : p.2.length <= 140737488355328) : ql Tryz.prog 28 [cPk.enc p] (some (QQ p).1.length) (some [zB8 (QQ p).2]) (qD eB 5 (QQ p).1):=by
 obtain ⟨W,eW⟩ : ∃ W,QQ p = W:=⟨_,rfl⟩;have hl : ((zAC p).getD []).length <= 1280:=by
  unfold zAC;split
  . rename_i h;have h1:=zAv p (qZ p);have h2:=zAw h;show (Qx p (qZ p)).length <= 1280;omega
  . exact Nat.zero_le _
 obtain ⟨E,eE⟩ : ∃ E,zAC p = E:=⟨_,rfl⟩;have e0 : ¬ ecR E = 0 -> W = ([],1):=λh=>by
  rw [<- eW];unfold QQ;rw [if_neg];intro hv;apply h;rw [<- eE];unfold zAC;rw [if_pos hv];rfl
 have e1 : ecR E = 0 -> W = (65 :: E.getD [],0):=λh=>by
  rw [<- eW];unfold QQ;by_cases hv : zj p = true
  . rw [if_pos hv,<- eE];unfold zAC;rw [if_pos hv];rfl
  . exfalso;rw [<- eE] at h;unfold zAC at h;rw [if_neg hv] at h;exact absurd h (by decide)
 rw [eE] at hl;rw [eW];clear eW;refine ZR (wd:=1) (by decide) zM (zT LCe_ok) zN Tryz.func28 rfl _ (by show 1 <= _;decide) (λi _ j _=>qU eB _ i j) ?_;repeat' (first | (apply And.intro<;>intro hc<;>(first | exact Bool.noConfusion hc | (exfalso;first | exact absurd hc ‹_› | exact absurd ‹_› hc) | (simp only [Zi] at hc<;>first | exact absurd rfl hc | (exfalso;first | exact absurd hc ‹_› | exact absurd ‹_› hc) | skip) | skip)) | (refine And.intro Za ?_) | (apply And.intro) | (intro s hs;(first | (have q : E = s:=(hs.trans ((congrArg zAC (ZX p _)).trans eE)).symm;clear hs;subst q) | skip)))
 . exact Eq.mp (congrArg PkW (ZX p _).symm) hp
 . show (Zw eB _ _).length <= _;rw [zS];omega
 . have he : ecR E = 1:=by
    cases E with
    | none=>rfl
    | some x=>exact absurd rfl (by assumption : ¬ ecR (some x) = 0)
   rw [e0 ‹_›];exact ⟨⟨none,zE ⟨qN rfl,zA he,trivial⟩,rfl,rfl,(by show 0 < 1;omega)⟩⟩
 . rw [e1 ‹_›];refine ⟨⟨some _,zE ⟨zy rfl ?_,zA rfl,trivial⟩,Zg (l:=[65] ++ E.getD []) ?_ (zD (n:=1) (C:=λk j=>zn eB (E.getD []) (0 + (k - 1)) j) (l1:=[65]) rfl ⟨λk hk=>?_⟩ (λk hk=>zV (by omega)))⟩⟩
   . show _ = (65 :: E.getD []).length;rw [List.length_cons];omega
   . rw [List.length_append];exact rfl
   . have hk' : k < 1:=hk;have : k = 0:=by omega
     subst this;rfl
def hpK (ks : Nat -> Nat) (es : Nat -> Ent) : Nat -> Hp
 | 0=>[]
 | m + 1=>(ks m,some (es m)) :: hpK ks es m
theorem hpK_in {ks : Nat -> Nat} {es : Nat -> Ent} : ∀ {m : Nat},(∀ i,i < m -> ∀ j,j < m -> ks i = ks j -> i = j) -> ∀ i,i < m -> ∀ H : Hp,zP (hpK ks es m ++ H) (ks i) = some (es i):=by
 intro m;induction m with
 | zero=>intro _ i hi;omega
 | succ m ih=>
   intro hd i hi H;by_cases h : i = m
   . subst h;exact zu _ _ _ _
   . have hne : ks i ≠ ks m:=λe=>h (hd i hi m (Nat.lt_succ_self m) e);exact (zg _ _ _ hne).trans (ih (λa ha b hb=>hd a (by omega) b (by omega)) i (by omega) H)
theorem hpK_out {ks : Nat -> Nat} {es : Nat -> Ent} : ∀ {m k : Nat},(∀ i,i < m -> ks i ≠ k) -> ∀ H : Hp,zP (hpK ks es m ++ H) k = zP H k:=by
 intro m;induction m with
 | zero=>intro k _ H;rfl
 | succ m ih=>
   intro k h H;exact (zg _ _ _ (Ne.symm (h m (Nat.lt_succ_self m)))).trans (ih (λi hi=>h i (by omega)) H)
abbrev hpL (es : Nat -> Ent) (m : Nat) : Hp:=hpK (λk=>k) es m
theorem zEm {es : Nat -> Ent} {m k : Nat} : zP (hpL es m) k = if k < m then some (es k) else none:=by
 have e : hpL es m = hpK (λk=>k) es m ++ []:=by simp
 rw [e];split
 . exact hpK_in (λi _ j _ h=>h) k ‹_› []
 . exact hpK_out (λi hi h=>by omega) []
def atL (m : Nat) (xs : Nat -> Bi) : Qj:=λk=>if k < m then some (xs k) else none
def inX (m : Nat) (xs : Nat -> Bi) (b : Nat) : Prop:=∃ k,k < m /\ (xs k).b = b
def ptrs (ks : Nat -> Nat) (m : Nat) : List FV:=(List.range m).map λk=>.e (.c (.ptr (ks k) 0 0 false))
theorem ptrs_at {ks : Nat -> Nat} {m i : Nat} {y : FV} (h : (ptrs ks m)[i]? = some y) : i < m /\ y = .e (.c (.ptr (ks i) 0 0 false)):=by
 unfold ptrs at h;rw [List.getElem?_map] at h;by_cases hi : i < m
 . rw [List.getElem?_range hi] at h;exact ⟨hi,by simpa using h.symm⟩
 . rw [List.getElem?_eq_none (by simp;omega)] at h;cases h
def zHM (P : Program) (f : FuncId) (rest : List FV) (m : Nat) (es : Nat -> Ent) (val : FV) (es' : Nat -> Ent) : Prop:=
 ∀ X w (xs : Nat -> Bi) (vals : Array Value),(∀ k,k < m -> (xs k).b < w.heap.size /\ ¬ X (xs k).b) -> (∀ i,i < m -> ∀ j,j < m -> (xs i).b = (xs j).b -> i = j) -> Xw (λb=>X b \/ inX m xs b) w ->
   (∀ k,k < m -> Qm (λ_=>none) X (inX m xs) w (es k) (some (xs k)) w.heap) -> zBS (atL m xs) X (inX m xs) w (rest ++ ptrs (λk=>k) m) vals ->
   Calls P f vals w λen w'=>∃ v,en = .returned v /\ w'.os = w.os /\ w'.tape = w.tape /\ w'.output = w.output /\ w.heap.size <= w'.heap.size /\ (∀ b,b < w.heap.size -> ¬ inX m xs b -> w'.heap[b]? = w.heap[b]?) /\
    (∀ k,k < m -> Qm (λ_=>none) X (λb=>X b \/ inX m xs b) w' (es' k) (some (xs k)) w'.heap) /\ val.rel (λ_=>none) X (λb=>X b \/ inX m xs b) w' v
structure FinU (val : FV) (m : Nat) (es' : Nat -> Ent) (x : FV) (H : Hp) : Prop where
 le : LeF ⟨H,hpL es' m,[],m,true⟩ x val
 ent : ∀ k,k < m -> WkE ⟨H,hpL es' m,[],m,true⟩ (es' k) (some k)
section
variable {P : Program} {T : Tys} {Q : Qs} {wd : Nat}
theorem zJB (hwd : 0 < wd) (hT : qO P T) (hQ : zBR P Q) (hm : P.follows .mixedOrders = true) {f : FuncId} {fn : Func} {c : Code} (hf : P.funcs[f]? = some fn) (hb : fn.body = some c) (rest : List FV) {m : Nat} (hn : rest.length + m <= fn.ntmps) {es es' : Nat -> Ent} {val : FV}
 (hval : NFF val) (hnf : ∀ k,k < m -> ∀ i,i < (es' k).n -> ∀ j,j < (es' k).sz -> NF ((es' k).f i j)) (h : qo T Q wd fn.ntmps m c (Ya (rest ++ ptrs (λk=>k) m) 0) (hpL es m) m (YQ T fn.results.toList λx H _=>FinU val m es' x H)) : zHM P f rest m es val es':=by
 intro X w xs vals hxs hinj hX hent hrel;have hwr : wr (atL m xs) (hpL es m) = inX m xs:=by
  funext b
  apply propext;constructor
  . rintro ⟨k,e1,y,_,hy,rfl⟩;unfold atL at hy;split at hy
    . injection hy with hy;exact ⟨k,by assumption,by rw [hy]⟩
    . cases hy
  . rintro ⟨k,hk,rfl⟩;exact ⟨k,es k,xs k,by rw [zEm,if_pos hk],if_pos hk,rfl⟩
 have hat : ∀ k y,atL m xs k = some y -> k < m /\ y = xs k:=λk y hy=>by
  unfold atL at hy;split at hy
  . injection hy with hy;exact ⟨by assumption,hy.symm⟩
  . cases hy
 have hget' : ∀ k e1,zP (hpL es m) k = some e1 -> k < m /\ e1 = es k:=λk e1 he=>by
  rw [zEm] at he;split at he
  . injection he with he;exact ⟨by assumption,he.symm⟩
  . cases he
 have st0 : St ⟨w,inX m xs,inX m xs,X,atL m xs⟩ (atL m xs) (hpL es m) w:=by
  refine ⟨rfl,rfl,rfl,Nat.le_refl _,λ_ _ _=>rfl,⟨λb hb=>hX.1 b (.inl hb),zAf hX.2 λp _ h=>h.elim .inl λh=>h.elim .inr .inr⟩,λk y hy=>?_,λk e1 y _ hy=>?_,λn k e1 e2 y z _ _ hy hz hyz=>?_,λk b hk=>hk,λk e1 he1=>?_⟩
  . obtain ⟨h1,rfl⟩:=hat k y hy;exact ⟨(hxs k h1).1,.inr ⟨k,h1,rfl⟩,(hxs k h1).2⟩
  . obtain ⟨h1,rfl⟩:=hat k y hy;exact .inr ⟨k,h1,rfl⟩
  . obtain ⟨h1,rfl⟩:=hat n y hy;obtain ⟨h2,rfl⟩:=hat k z hz;exact hinj n h1 k h2 hyz
  . obtain ⟨h1,rfl⟩:=hget' k e1 he1;rw [hwr];exact (hent k h1).map rfl rfl rfl rfl (if_pos h1).symm (λ_ _=>rfl) λi _ j _ u hu=>CV.rel_ext ⟨λ_ _ h=>(by cases h),Nat.le_refl _,λ_ _ _=>rfl,λ_ _ h=>h⟩ _ _ hu
 refine (zCm (np:=m) hwd hT hQ hm hf hb (by simpa [ptrs] using hn) h (λk b hk=>(hat k b hk).1) st0 (by rw [hwr];exact hrel) (λk hk=>⟨if_neg (by omega),by rw [zEm,if_neg (by omega)]⟩)).mono λen w' he=>?_;obtain ⟨v,r',y,Hf,nf,rfl,⟨hfin,hent'⟩,st,_,hy,_⟩:=he;have hr0 : ∀ k,k < m -> r' k = some (xs k):=λk hk=>st.pin k (xs k) (if_pos hk);have hsrc : ∀ k,Wc.src ⟨Hf,hpL es' m,[],m,true⟩ k = if k < m then some k else none:=λk=>by
  unfold Wc.src;simp only [zA7];by_cases hk : k < m
  . have h2 : Nat.blt k m = true:=Nat.ble_eq_true_of_le hk;simp [h2,hk]
  . have h2 : Nat.blt k m = false:=by
     cases hb : Nat.blt k m with
     | false=>rfl
     | true=>have:=Nat.le_of_ble_eq_true hb;omega
    simp [h2,hk]
 have hren : Wc.ren ⟨Hf,hpL es' m,[],m,true⟩ r' = atL m xs:=by
  funext k
  unfold Wc.ren atL;rw [hsrc];by_cases hk : k < m
  . rw [if_pos hk,if_pos hk];exact hr0 k hk
  . rw [if_neg hk,if_neg hk]
 have hlive : Wc.Live ⟨Hf,hpL es' m,[],m,true⟩:=λk e1 he1 k0 hk0'=>by
  rw [hsrc] at hk0';split at hk0'
  . injection hk0' with hk0';subst hk0';have:=hent' k ‹_›;unfold WkE at this;simp only at this;split at this
    . rename_i e2 hh;exact ⟨e2,hh⟩
    . exact this.elim
  . cases hk0'
 have hwr2 : ∀ b,X b \/ inX m xs b -> Wc.wr ⟨Hf,hpL es' m,[],m,true⟩ ⟨w,inX m xs,inX m xs,X,atL m xs⟩ r' b:=λb hb=>by
  rcases hb with hb | ⟨k,hk,hkb⟩
  . exact .inr ⟨rfl,hb⟩
  . exact .inl ⟨k,es' k,xs k,by show zP (hpL es' m) k = _;rw [zEm,if_pos hk],by rw [hren];exact if_pos hk,hkb⟩
 refine ⟨v,rfl,st.os,st.tape,st.output,st.size,λb hb hne=>st.kept b hb hne,λk hk=>?_,?_⟩
 . have hk':=hent' k hk;unfold WkE at hk';simp only at hk';split at hk'
   . rename_i e2 hh;exact (st.blk k e2 hh).map hk'.t hk'.n hk'.sz hk'.v (hr0 k hk) (λ_ _=>rfl) λi hi j' hj u hu=>by
      have h1:=hk'.f i hi j' hj hlive _ r' w' u st hu;exact CV.rel_w hwr2 _ _ (hnf k hk i (by rw [<- hk'.n];exact hi) j' (by rw [<- hk'.sz];exact hj) _ _ _ _ _ _ h1)
   . exact hk'.elim
 . have h1:=hfin hlive _ r' w' v st hy;exact FV.rel_w hwr2 _ _ (hval _ _ _ _ _ _ h1)
end
def wrNot (r : Qj) (H : Hp) (ks : Nat -> Nat) (m : Nat) (b : Nat) : Prop:=∃ nm e x,zP H nm = some e /\ r nm = some x /\ x.b = b /\ ∀ i,i < m -> ks i ≠ nm
def ksL (ks : Nat -> Nat) (m : Nat) : List Nat:=(List.range m).map ks
theorem ksL_mem {ks : Nat -> Nat} {m i : Nat} (h : i < m) : ks i ∈ ksL ks m:=List.mem_map.2 ⟨i,List.mem_range.2 h,rfl⟩
theorem callR_mrd {P : Program} {f : FuncId} (hb : YS P f) {m : Nat} {ks : Nat -> Nat} {rest rest' : List FV} {H : Hp} {rd : List Nat} {nm wd : Nat} {es eT eT' es' : Nat -> Ent} {val : FV} (hd : ∀ i,i < m -> ∀ j,j < m -> ks i = ks j -> i = j)
 (hk : ∀ i,i < m -> zP H (ks i) = some (es i)) (hv : ∀ i,i < m -> (es i).v = true) (hkr : ∀ i,i < m -> ks i ∉ rd)
 (hin : ∀ i,i < m -> ∀ r X W w o hp X' W',(∀ b,X' b -> W b) -> (∀ b,W' b -> W b) -> Qm r X W w (es i) o hp -> Qm (λ_=>none) X' W' w (eT i) o hp)
 (hout : ∀ i,i < m -> ∀ r X X2 W W' w o hp,(∀ b,W b -> W' b) -> Qm (λ_=>none) X W' w (eT' i) o hp -> Qm r X2 W w (es' i) o hp) (hfl : zBN val)
 (hbo : ∀ H',(∀ k ∈ rd,zP H k = zP H' k) -> BoL H' rd rest rest') (h : zHM P f rest' m eT val eT') : zCd P f (rest ++ ptrs ks m) H nm wd ⟨none,val,hpK ks es' m,ksL ks m ++ rd⟩:=by
 refine ⟨hb,λH' hh cx r w vals st hfr _ hrel=>?_⟩;obtain ⟨h1,h2⟩:=hbo H' (λk hk=>hh k (List.mem_append_right _ hk));have hk' : ∀ i,i < m -> zP H' (ks i) = some (es i):=λi hi=>by rw [<- hh _ (List.mem_append_left _ (ksL_mem hi))];exact hk i hi
 have hbi : ∀ i,i < m -> ∃ x,r (ks i) = some x /\ InCells r cx.X (wr r H') w (es i) (r (ks i)) w.heap:=λi hi=>by
  obtain ⟨g1,g2,g3⟩:=st.blk (ks i) (es i) (hk' i hi);rcases g3 with ⟨_,g4⟩ | g3 | ⟨hfit,_⟩
  . have:=g2 (hv i hi);omega
  . have g4:=g3;obtain ⟨x,cs,c1,_⟩:=g4;exact ⟨x,c1,g3⟩
  . have hf : (es i).v = false:=hfit.1;rw [hv i hi] at hf;cases hf
 obtain ⟨xs,hxs⟩ : ∃ xs : Nat -> Bi,∀ i,i < m -> r (ks i) = some (xs i):=by
  refine ⟨λi=>(r (ks i)).getD ⟨0,0,0⟩,λi hi=>?_⟩;obtain ⟨x,hx,_⟩:=hbi i hi;show r (ks i) = some ((r (ks i)).getD ⟨0,0,0⟩);rw [hx];rfl
 have hdom : ∀ i,i < m -> (xs i).b < w.heap.size /\ (cx.w0.heap.size <= (xs i).b \/ cx.D (xs i).b) /\ ¬ cx.X (xs i).b:=λi hi=>st.dom (ks i) (xs i) (hxs i hi);have hsubX : ∀ b,wrNot r H' ks m b -> wr r H' b:=by
  rintro b ⟨k2,e2,y,he2,hy,hyb,_⟩;exact ⟨k2,e2,y,he2,hy,hyb⟩
 have hsubW : ∀ b,inX m xs b -> wr r H' b:=by
  rintro b ⟨k,hk,hkb⟩;exact ⟨ks k,es k,xs k,hk' k hk,hxs k hk,hkb⟩
 have hXlt : Xw (λb=>wrNot r H' ks m b \/ inX m xs b) w:=zGi (zFz st) λb hb=>.inr (hb.elim (hsubX b) (hsubW b));refine (h (λb=>wrNot r H' ks m b) w xs vals (λk hkm=>⟨(hdom k hkm).1,?_⟩) (λi hi j hj hij=>?_) hXlt (λk hkm=>?_) ⟨by rw [hrel.1];simp [h1,ptrs],λi y u hy hu=>?_⟩).mono λen w' he=>?_
 . rintro ⟨k2,e2,y,he2,hy,hyb,hne⟩;exact hne k hkm (st.inj (ks k) k2 (es k) e2 (xs k) y (hk' k hkm) he2 (hxs k hkm) hy hyb.symm)
 . exact hd i hi j hj (st.inj (ks i) (ks j) (es i) (es j) (xs i) (xs j) (hk' i hi) (hk' j hj) (hxs i hi) (hxs j hj) hij)
 . have h0:=st.blk (ks k) (es k) (hk' k hkm);rw [hxs k hkm] at h0;exact hin k hkm r cx.X (wr r H') w (some (xs k)) w.heap _ _ hsubX hsubW h0
 . by_cases hi : i < rest'.length
   . have hy' : rest'[i]? = some y:=by rw [List.getElem?_append_left hi] at hy;exact hy
     have hi' : i < rest.length:=by rw [h1];exact hi
     have h3:=h2 i _ y (List.getElem?_eq_getElem hi') hy' cx r w u st (hrel.2 i _ u (by rw [List.getElem?_append_left hi'];exact List.getElem?_eq_getElem hi') hu);have h4 : y.rel (atL m xs) (λb=>cx.X b \/ wr r H' b) (YU r H' rd) w u:=FV.rel_ext ⟨λ_ _ h=>(by cases h),Nat.le_refl _,λ_ _ _=>rfl,λ_ _ h=>h⟩ _ _ h3;have h5 : y.rel (atL m xs) (λb=>cx.X b \/ wr r H' b) (inX m xs) w u:=FV.rel_w (λb ⟨k,hkm,hkb⟩=>⟨ks k,es k,xs k,hk' k hkm,hxs k hkm,hkb,hkr k hkm⟩) _ _ h4;cases y with
     | top=>trivial
     | e y=>
       cases y with
       | c y=>exact CV.rel_sub (λb hb=>.inl (.inr (hsubX b hb))) (λb hb=>hb) _ _ h5
       | agg n g=>obtain ⟨cs',e1,e2,e3⟩:=h5;exact ⟨cs',e1,e2,λi u hu=>CV.rel_sub (λb hb=>.inl (.inr (hsubX b hb))) (λb hb=>hb) _ _ (e3 i u hu)⟩
     | tup l=>
       obtain ⟨vs,e1,e2,e3⟩:=h5;refine ⟨vs,e1,e2,λi z u hz hu=>?_⟩;have:=e3 i z u hz hu;cases z with
       | c z=>exact CV.rel_sub (λb hb=>.inl (.inr (hsubX b hb))) (λb hb=>hb) _ _ this
       | agg n g=>obtain ⟨cs',e1,e2,e3⟩:=this;exact ⟨cs',e1,e2,λi u hu=>CV.rel_sub (λb hb=>.inl (.inr (hsubX b hb))) (λb hb=>hb) _ _ (e3 i u hu)⟩
   . rw [List.getElem?_append_right (by omega)] at hy;obtain ⟨g1,rfl⟩:=ptrs_at hy;obtain ⟨z,hz,hzv⟩:=hrel.2 i (.e (.c (.ptr (ks (i - rest'.length)) 0 0 false))) u (by
      rw [List.getElem?_append_right (by omega),h1];unfold ptrs;rw [List.getElem?_map,List.getElem?_range g1];rfl) hu
     have hz1:=hz.1;rw [hxs _ g1] at hz1;injection hz1 with hz1;subst hz1;exact ⟨xs (i - rest'.length),⟨if_pos g1,hz.2⟩,hzv⟩
 . obtain ⟨v,rfl,o1,o2,o3,o4,o5,o6,o7⟩:=he;have hY : ∀ b,wr r H' b -> wrNot r H' ks m b \/ inX m xs b:=by
    rintro b ⟨k2,e2,y,he2,hy,hyb⟩;by_cases hk2 : ∃ i,i < m /\ ks i = k2
    . obtain ⟨i,hi,rfl⟩:=hk2;rw [hxs i hi] at hy;injection hy with hy;subst hy;exact .inr ⟨i,hi,hyb⟩
    . exact .inl ⟨k2,e2,y,he2,hy,hyb,λi hi e=>hk2 ⟨i,hi,e⟩⟩
   have hl0 : ∀ i,i < m -> zP (hpK ks es' m ++ H') (ks i) = some (es' i):=λi hi=>hpK_in hd i hi H';have hl : ∀ j,(∀ i,i < m -> ks i ≠ j) -> zP (hpK ks es' m ++ H') j = zP H' j:=λj hj=>hpK_out hj H';have live : ∀ j e1,zP (hpK ks es' m ++ H') j = some e1 -> ∃ e2,zP H' j = some e2:=λj e1 hj=>by
    by_cases hjk : ∃ i,i < m /\ ks i = j
    . obtain ⟨i,hi,rfl⟩:=hjk;exact ⟨es i,hk' i hi⟩
    . rw [hl j λi hi e=>hjk ⟨i,hi,e⟩] at hj;exact ⟨e1,hj⟩
   have hwr2 : ∀ b,wr r (hpK ks es' m ++ H') b -> wr r H' b:=by
    rintro b ⟨j,e1,y,h1,h2,h3⟩;obtain ⟨e2,h1⟩:=live j e1 h1;exact ⟨j,e2,y,h1,h2,h3⟩
   have hE : Ext r (wr r H') w r (wr r (hpK ks es' m ++ H')) w':=⟨λ_ _ h=>h,o4,λb hb hw=>o5 b hb λhbx=>hw (hsubW b hbx),λb _ hb=>hwr2 b hb⟩;refine ⟨v,rfl,r,hE,⟨o1.trans st.os,o2.trans st.tape,o3.trans st.output,Nat.le_trans st.size o4,λb hb hne=>?_,st.xlt,λj y hy=>?_,λj e1 y hj hy=>?_,λn k e1 e2 y z h1 h2 hy hz hyz=>?_,st.pin,λj e1 hj=>?_⟩,λ_ _=>rfl,λj e1 hj=>.inr (live j e1 hj),?_⟩
   . rw [<- st.kept b hb hne];refine o5 b (Nat.lt_of_lt_of_le hb st.size) ?_;rintro ⟨k,hkm,hkb⟩;rcases st.ow (ks k) (es k) (xs k) (hk' k hkm) (hxs k hkm) with h | h
     . omega
     . exact hne (hkb ▸ h)
   . obtain ⟨a1,a2,a3⟩:=st.dom j y hy;exact ⟨Nat.lt_of_lt_of_le a1 o4,a2,a3⟩
   . obtain ⟨e2,hj⟩:=live j e1 hj;exact st.ow j e2 y hj hy
   . obtain ⟨e1',h1⟩:=live n e1 h1;obtain ⟨e2',h2⟩:=live k e2 h2;exact st.inj n k e1' e2' y z h1 h2 hy hz hyz
   . have hj' : zP (hpK ks es' m ++ H') j = some e1:=hj;by_cases hjk : ∃ i,i < m /\ ks i = j
     . obtain ⟨i,hi,rfl⟩:=hjk;rw [hl0 i hi] at hj';injection hj' with hj';subst hj';rw [hxs i hi];exact hout i hi r _ cx.X (wr r (hpK ks es' m ++ H')) _ w' (some (xs i)) w'.heap (λb hb=>hY b (hwr2 b hb)) (o6 i hi)
     . have hjk' : ∀ i,i < m -> ks i ≠ j:=λi hi e=>hjk ⟨i,hi,e⟩;rw [hl j hjk'] at hj';have hold:=st.old hj' rfl (w':=w') λy hy=>o5 _ (st.dom j y hy).1 (by
        rintro ⟨k,hkm,hkb⟩;exact hjk' k hkm (st.inj (ks k) j (es k) e1 (xs k) y (hk' k hkm) hj' (hxs k hkm) hy hkb))
       exact hold.ext hE
   . exact hfl _ _ _ _ _ _ _ _ _ o7
def tmN (sh : Bool) (b : List Int) (q e : Int) : Nat -> Ent:=λi=>
 bif Nat.beq i 0 then ⟨26,1,1,true,λ_ _=>.sl sh b.length 1 (zn eB b)⟩ else bif Nat.beq i 1 then ⟨3,1,1,true,λ_ _=>.int .i64 q⟩ else ⟨46,1,1,true,λ_ _=>.int .i64 e⟩
def qn (b : List Int) (q n e : Int) : Int × Int × Int:=((ZL b q n).1,q + n,if q + n <= b.length then e else 4)
def tmE : ZD:=λargs H _ _=>
 match args with
 | [.e (.c (.int .i64 n)),.e (.c (.ptr k0 0 0 false)),.e (.c (.ptr k1 0 0 false)),.e (.c (.ptr k2 0 0 false))]=>
   match zP H k0,zP H k1,zP H k2 with
   | some ⟨t0,n0,z0,v0,f0⟩,some ⟨t1,n1,z1,v1,f1⟩,some ⟨t2,n2,z2,v2,f2⟩=>
     match f0 0 0,f1 0 0,f2 0 0 with
     | .sl sh ln s g,.int .i64 q,.int .i64 e=>
       bif Nat.beq t0 26 && Nat.beq n0 1 && Nat.beq z0 1 && v0 && (Nat.beq t1 3 && Nat.beq n1 1 && Nat.beq z1 1 && v1) && (Nat.beq t2 46 && Nat.beq n2 1 && Nat.beq z2 1 && v2) && Nat.beq s 1 && !(Nat.beq k0 k1) && !(Nat.beq k0 k2) && !(Nat.beq k1 k2) then
        some λK=>∃ b : List Int,(ln = b.length /\ g = zn eB b /\ (BL b /\ b.length <= 140737488355328) /\ (0 <= q /\ q <= 100) /\ (1 <= n /\ n <= 8)) /\ ∀ s,s = qn b q n e -> K ((cI .u64).enc s.1) [(k2,some (tmN false b s.2.1 s.2.2 2)),(k1,some (tmN false b s.2.1 s.2.2 1)),(k0,some (tmN false b s.2.1 s.2.2 0))] [k0,k1,k2] else none
     | _,_,_=>none
   | _,_,_=>none
 | _=>none
def k3 (k0 k1 k2 : Nat) (i : Nat) : Nat:=bif Nat.beq i 0 then k0 else bif Nat.beq i 1 then k1 else k2
theorem i3 {i : Nat} (h : i < 3) : i = 0 \/ i = 1 \/ i = 2:=by omega
theorem beq_no {a b : Nat} (h : Nat.beq a b = false) : a ≠ b:=λe=>by subst e;simp at h
theorem tmE_ok {P : Program} {f : FuncId} (hb : YS P f) (h : ∀ b q n e,BL b -> b.length <= 140737488355328 -> (0 <= q /\ q <= 100) -> (1 <= n /\ n <= 8) -> zHM P f [(cI .i64).enc n] 3 (tmN true b q e) ((cI .u64).enc (qn b q n e).1) (tmN true b (qn b q n e).2.1 (qn b q n e).2.2)) : EntOk P f tmE:=by
 refine ⟨λargs H nm wd q _ hq K hK=>?_,λargs H nm wd q hq K K' hKK hK=>?_⟩
 . unfold tmE at hq;split at hq
   . rename_i n k0 k1 k2;split at hq
     . rename_i t0 n0 z0 v0 f0 t1 n1 z1 v1 f1 t2 n2 z2 v2 f2 he0 he1 he2;split at hq
       . rename_i sh ln s g q0 e0 hg0 hg1 hg2;obtain ⟨hc,hq⟩:=ZN hq;subst hq;simp only [Bool.and_eq_true,Bool.not_eq_true'] at hc;obtain ⟨⟨⟨⟨⟨⟨⟨⟨⟨a1,a2⟩,a3⟩,a4⟩,⟨⟨⟨b1,b2⟩,b3⟩,b4⟩⟩,⟨⟨⟨c1,c2⟩,c3⟩,c4⟩⟩,d1⟩,d2⟩,d3⟩,d4⟩:=hc;have a1:=Nat.eq_of_beq_eq_true a1;have a2:=Nat.eq_of_beq_eq_true a2;have a3:=Nat.eq_of_beq_eq_true a3;have b1:=Nat.eq_of_beq_eq_true b1;have b2:=Nat.eq_of_beq_eq_true b2;have b3:=Nat.eq_of_beq_eq_true b3;have c1:=Nat.eq_of_beq_eq_true c1;have c2:=Nat.eq_of_beq_eq_true c2;have c3:=Nat.eq_of_beq_eq_true c3;have d1:=Nat.eq_of_beq_eq_true d1;subst a1 a2 a3 a4 b1 b2 b3 b4 c1 c2 c3 c4 d1;have d2:=beq_no d2;have d3:=beq_no d3;have d4:=beq_no d4;obtain ⟨b,⟨h1,h2,⟨h3,h4⟩,h5,h6⟩,hK⟩:=hK;subst h1 h2;have hm:=h b q0 n e0 h3 h4 h5 h6;have hx : ∀ i,i < 3 -> zP H (k3 k0 k1 k2 i) = some ((λi=>bif Nat.beq i 0 then (⟨26,1,1,true,f0⟩ : Ent) else bif Nat.beq i 1 then ⟨3,1,1,true,f1⟩ else ⟨46,1,1,true,f2⟩) i):=λi hi=>by
          rcases i3 hi with rfl | rfl | rfl
          . exact he0
          . exact he1
          . exact he2
         refine ⟨_,_,_,callR_mrd (m:=3) (ks:=k3 k0 k1 k2) (rest:=[(cI .i64).enc n]) (rest':=[(cI .i64).enc n]) (rd:=[]) (es:=λi=>bif Nat.beq i 0 then (⟨26,1,1,true,f0⟩ : Ent) else bif Nat.beq i 1 then ⟨3,1,1,true,f1⟩ else ⟨46,1,1,true,f2⟩) (eT:=tmN true b q0 e0) (eT':=tmN true b (qn b q0 n e0).2.1 (qn b q0 n e0).2.2) (es':=tmN false b (qn b q0 n e0).2.1 (qn b q0 n e0).2.2) hb ?_ hx ?_ ?_ ?_ ?_ ?_ (λH' hh=>(AC.cons (cI .i64) AC.nil).sound H H' [(cI .i64).enc n] (n,()) none [] rfl trivial hh) hm,hK _ rfl⟩
         . intro i hi j hj hij;rcases i3 hi with rfl | rfl | rfl<;>rcases i3 hj with rfl | rfl | rfl<;>first | rfl | exact absurd hij d2 | exact absurd hij d3 | exact absurd hij d4 | exact absurd hij.symm d2 | exact absurd hij.symm d3 | exact absurd hij.symm d4
         . intro i hi;rcases i3 hi with rfl | rfl | rfl<;>rfl
         . intro i hi hm;cases hm
         . intro i hi r X W w o hp X' W' hX hW hE;rcases i3 hi with rfl | rfl | rfl
           . refine QJ (e:=⟨26,1,1,true,f0⟩) (e':=tmN true b q0 e0 0) rfl rfl rfl rfl (λi hi j hj u hu=>?_) hE;have hi' : i < 1:=hi;have hj' : j < 1:=hj;obtain rfl : i = 0:=by omega
             obtain rfl : j = 0:=by omega
             have hu' : (f0 0 0).rel r X W w u:=hu;rw [hg0] at hu';exact sl_in hX hW hu'
           . refine QJ (e:=⟨3,1,1,true,f1⟩) (e':=tmN true b q0 e0 1) rfl rfl rfl rfl (λi hi j hj u hu=>?_) hE;have hi' : i < 1:=hi;have hj' : j < 1:=hj;obtain rfl : i = 0:=by omega
             obtain rfl : j = 0:=by omega
             have hu' : (f1 0 0).rel r X W w u:=hu;rw [hg1] at hu';exact hu'
           . refine QJ (e:=⟨46,1,1,true,f2⟩) (e':=tmN true b q0 e0 2) rfl rfl rfl rfl (λi hi j hj u hu=>?_) hE;have hi' : i < 1:=hi;have hj' : j < 1:=hj;obtain rfl : i = 0:=by omega
             obtain rfl : j = 0:=by omega
             have hu' : (f2 0 0).rel r X W w u:=hu;rw [hg2] at hu';exact hu'
         . intro i hi r X X2 W W' w o hp hW hE;rcases i3 hi with rfl | rfl | rfl
           . exact QJ (e:=tmN true b (qn b q0 n e0).2.1 (qn b q0 n e0).2.2 0) (e':=tmN false b (qn b q0 n e0).2.1 (qn b q0 n e0).2.2 0) rfl rfl rfl rfl (λi hi j hj u hu=>sl_out hW hu) hE
           . exact QJ (e:=tmN true b (qn b q0 n e0).2.1 (qn b q0 n e0).2.2 1) (e':=tmN false b (qn b q0 n e0).2.1 (qn b q0 n e0).2.2 1) rfl rfl rfl rfl (λi hi j hj u hu=>(by exact hu)) hE
           . exact QJ (e:=tmN true b (qn b q0 n e0).2.1 (qn b q0 n e0).2.2 2) (e':=tmN false b (qn b q0 n e0).2.1 (qn b q0 n e0).2.2 2) rfl rfl rfl rfl (λi hi j hj u hu=>(by exact hu)) hE
         . exact zET (Yr ZO)
       . cases hq
     . cases hq
   . cases hq
 . unfold tmE at hq;split at hq
   . split at hq
     . split at hq
       . obtain ⟨hc,hq⟩:=ZN hq;subst hq;obtain ⟨b,h1,h2⟩:=hK;exact ⟨b,h1,λs hs=>hKK _ _ _ (h2 s hs)⟩
       . cases hq
     . cases hq
   . cases hq
def LCu : Qb:=(89,some zG9) :: []
theorem LCu_ok : ZC Tryz.prog LCu:=⟨(zHA).1,trivial⟩
theorem uint_ok2 {b : List Int} {q n : Int} (hq : 0 <= q) (hn : 1 <= n /\ n <= 8) : (ZL b q n).2 = decide (q + n <= b.length):=by
 unfold ZL;by_cases h : q + n <= b.length
 . rw [if_pos ⟨hn.1,hn.2,hq,by omega⟩,decide_eq_true h]
 . rw [if_neg (λg=>h (by omega)),decide_eq_false h]
theorem tk_ok (b : List Int) (q n e : Int) (hb : BL b) (hbl : b.length <= 140737488355328) (hq : 0 <= q /\ q <= 100) (hn : 1 <= n /\ n <= 8) : zHM Tryz.prog 98 [(cI .i64).enc n] 3 (tmN true b q e) ((cI .u64).enc (qn b q n e).1) (tmN true b (qn b q n e).2.1 (qn b q n e).2.2):=by
 refine zJB (wd:=1) (by decide) zM (zT LCu_ok) zN Tryz.func98 rfl [(cI .i64).enc n] (by show 1 + 3 <= _;decide) zDT (λk hk=>?_) ?_
 . rcases i3 hk with rfl | rfl | rfl
   . exact λ_ _ _ _=>zC5
   . exact λ_ _ _ _=>QS
   . exact λ_ _ _ _=>QS
 have hu:=uint_ok2 (b:=b) hq.1 hn;repeat' (first | (apply And.intro<;>intro hc<;>(first | exact Bool.noConfusion hc | (simp only [Zi] at hc<;>first | exact absurd rfl hc | skip) | skip)) | (refine And.intro Za ?_) | (apply And.intro) | (intro s hs;(have q : s = ZL b q n:=(hs.trans (by show ZL (Zw eB b.length (zn eB b)) q n = _;rw [zx]));clear hs;subst q)))
 . show BL (Zw eB b.length (zn eB b));rw [zx];exact hb
 . show (Zw eB b.length (zn eB b)).length <= _;rw [zx];exact hbl
 . have hc2 : (ZL b q n).2 = false:=by assumption
   rw [hu,decide_eq_false_iff_not] at hc2;refine ⟨zF rfl,λk hk=>?_⟩;rcases i3 hk with rfl | rfl | rfl
   . refine zh ⟨trivial,?_⟩;exact qh (λ_=>rfl) rfl rfl λi _ j _=>qd rfl
   . refine zh ⟨trivial,zA ?_⟩;show IntKind.i64.wrap (q + n) = q + n;exact IntWalk.i64_in _ (by omega)
   . refine zh ⟨trivial,zA ?_⟩;show (4 : Int) = if q + n <= b.length then e else 4
     rw [if_neg hc2]
 . have hc2 : (ZL b q n).2 = true:=by assumption
   rw [hu,decide_eq_true_eq] at hc2;refine ⟨zF rfl,λk hk=>?_⟩;rcases i3 hk with rfl | rfl | rfl
   . refine zh ⟨trivial,?_⟩;exact qh (λ_=>rfl) rfl rfl λi _ j _=>qd rfl
   . refine zh ⟨trivial,zA ?_⟩;show IntKind.i64.wrap (q + n) = q + n;exact IntWalk.i64_in _ (by omega)
   . refine zh ⟨trivial,zA ?_⟩;show e = if q + n <= b.length then e else 4
     rw [if_pos hc2]
def LCr : Qb:=(98,some tmE) :: []
theorem zCy : ZC Tryz.prog LCr:=⟨tmE_ok ⟨_,Tryz.func98,rfl,by kernel_rfl⟩ λb q n e h1 h2 h3 h4=>tk_ok b q n e h1 h2 h3 h4,trivial⟩
abbrev UD:=((Int × Int) × Int × Int) × Int
def zEI (s : UD) : FV:=.tup [.c (.int .u16 s.1.1.1),.c (.int .u16 s.1.1.2),.c (.int .u16 s.1.2.1),.c (.int .i64 s.1.2.2),.c (.int .i64 s.2)]
theorem uI_1 {b : List Int} {a : Int} {k : Nat} (e : a = k) (h : k + 1 <= b.length) : (ZL b a 1).1 = gB b k:=by
 subst e;unfold ZL;rw [if_pos ⟨by decide,by decide,by omega,by omega⟩];show ZT ((b.drop (k : Int).toNat).take (1 : Int).toNat) = _;rw [Int.toNat_natCast,qy (show k < b.length by omega)];show ZT [b.getD k default] = _;rw [beVal_1];rfl
theorem zEJ {b : List Int} {a : Int} {k : Nat} (e : a = k) (h : k + 2 <= b.length) : (ZL b a 2).1 = gB b k * 256 + gB b (k + 1):=uI_2 e h
theorem w64 {x : Int} (h : 0 <= x /\ x < 65536) : IntKind.u16.wrap (IntKind.u64.wrap x) = x:=by rw [IntWalk.u64_in _ (by omega),IntWalk.u16_in _ (by omega)]
theorem zAT {r : List Int} {k : Int} (h0 : 0 < r.length) (h : gB r 0 = 240 + k) (hk : 0 <= k /\ k <= 3) (hl : r.length < pN k + 3) : Qk r = (((0,0),0,0),4):=by
 unfold Qk;rw [if_neg (by omega),if_neg (by omega),if_pos (by rw [h,show 240 + k - 240 = k by omega];exact hl)]
theorem zBD {r : List Int} {k : Int} (h : gB r 0 = 240 + k) (hk : 0 <= k /\ k <= 3) (hl : ¬ r.length < pN k + 3) : Qk r = (rdU k r,0):=by
 have : 0 < r.length:=by omega
 unfold Qk;rw [if_neg (by omega),if_neg (by omega),if_neg (by rw [h,show 240 + k - 240 = k by omega];exact hl),h,show 240 + k - 240 = k by omega]
theorem ud_bad {r : List Int} (h0 : 0 < r.length) (h : gB r 0 < 240 \/ 243 < gB r 0) : Qk r = (((0,0),0,0),5):=by
 unfold Qk;rw [if_neg (by omega),if_pos h]
theorem rdu_0 (t : List Int) (hb : BL (240 :: t)) (hbl : (240 :: t : List Int).length <= 140737488355328) : zY Tryz.prog 61 [(qf eB Zb).enc (240 :: t)] (zEI (Qk (240 :: t))):=by
 obtain ⟨W,eW⟩ : ∃ W,Qk (240 :: t) = W:=⟨_,rfl⟩;rw [eW];have hsh : (240 :: t : List Int).length < 7 -> W = (((0,0),0,0),4):=λh=>eW.symm.trans (zAT (k:=0) (by simp) rfl (by decide) (by show _ < 7;exact h));have hlo : ¬ (240 :: t : List Int).length < 7 -> W = (rdU 0 (240 :: t),0):=λh=>eW.symm.trans (zBD (k:=0) rfl (by decide) (by show ¬ _ < 7;exact h));have hgr : ∀ i,0 <= gB (240 :: t) i /\ gB (240 :: t) i < 256:=λi=>gB_r hb i;obtain ⟨v0,e0,t0,u0,z0⟩ : ∃ v e,qn (240 :: t) 1 2 0 = (v,3,e) /\ ((240 :: t : List Int).length ≥ 3 -> v = gB (240 :: t) 1 * 256 + gB (240 :: t) 2) /\ e = if (1 : Int) + 2 <= (240 :: t : List Int).length then 0 else 4:=⟨_,_,rfl,λh=>zEJ (k:=1) rfl (by omega),rfl⟩
 obtain ⟨v1,e1,t1,u1,z1⟩ : ∃ v e,qn (240 :: t) 3 2 e0 = (v,5,e) /\ ((240 :: t : List Int).length ≥ 5 -> v = gB (240 :: t) 3 * 256 + gB (240 :: t) 4) /\ e = if (3 : Int) + 2 <= (240 :: t : List Int).length then e0 else 4:=⟨_,_,rfl,λh=>zEJ (k:=3) rfl (by omega),rfl⟩
 obtain ⟨v2,e2,t2,u2,z2⟩ : ∃ v e,qn (240 :: t) 5 2 e1 = (v,7,e) /\ ((240 :: t : List Int).length ≥ 7 -> v = gB (240 :: t) 5 * 256 + gB (240 :: t) 6) /\ e = if (5 : Int) + 2 <= (240 :: t : List Int).length then e1 else 4:=⟨_,_,rfl,λh=>zEJ (k:=5) rfl (by omega),rfl⟩
 clear eW;obtain ⟨g0,g1,g2⟩:=zg3;refine zG (wd:=1) (by decide) zM (zT zCy) zN Tryz.func61 rfl _ (by show 1 <= _;decide) _ ?_;repeat' (first | (apply And.intro<;>intro hc<;>(first | exact Bool.noConfusion hc | (exfalso;first | exact absurd hc (by decide) | exact absurd hc ‹_› | exact absurd ‹_› hc | exact absurd rfl hc) | (simp only [Zi] at hc<;>first | exact absurd rfl hc | (exfalso;first | exact absurd hc (by decide) | exact absurd hc ‹_› | exact absurd ‹_› hc | exact absurd rfl hc) | skip) | skip)) | (refine And.intro Za ?_) | (apply And.intro) | (refine Exists.intro (240 :: t) (And.intro ⟨rfl,rfl,by first | exact ⟨⟨hb,hbl⟩,⟨of_decide_eq_true rfl,of_decide_eq_true rfl⟩,of_decide_eq_true rfl,of_decide_eq_true rfl⟩⟩ ?_)) | (intro s hs;(first | (clear g0;have q : (v0,(3 : Int),e0) = s:=(hs.trans t0).symm;clear hs;subst q) | (clear g1;have q : (v1,(5 : Int),e1) = s:=(hs.trans t1).symm;clear hs;subst q) | (clear g2;have q : (v2,(7 : Int),e2) = s:=(hs.trans t2).symm;clear hs;subst q))))
 all_goals first
  | exact of_decide_eq_true rfl
  | exact Nat.le_of_ble_eq_true rfl
  | skip
 . by_cases h : (240 :: t : List Int).length < 7
   . rw [hsh h];have he : e2 = 4:=by rw [z2,if_neg (by omega)]
     exact Done.mk (zE ⟨zA rfl,zA rfl,zA rfl,zA rfl,zA he,trivial⟩)
   . exfalso;have he : e2 = 0:=by rw [z2,if_pos (by omega),z1,if_pos (by omega),z0,if_pos (by omega)]
     have hx : ¬ e2 = 0:=by assumption
     exact hx he
 . have h : ¬ (240 :: t : List Int).length < 7:=λh=>by
    have he : e2 = 4:=by rw [z2,if_neg (by omega)]
    have hx : e2 = 0:=by assumption
    omega
   have r1:=hgr 1;have r2:=hgr 2;have r3:=hgr 3;have r4:=hgr 4;have r5:=hgr 5;have r6:=hgr 6;have y0:=u0 (by omega);have y1:=u1 (by omega);have y2:=u2 (by omega);have f0 : IntKind.u16.wrap (IntKind.u64.wrap (v0 + 0)) = gB (240 :: t) 1 * 256 + gB (240 :: t) 2:=by rw [IntWalk.u64_in _ (by omega),IntWalk.u16_in _ (by omega)];omega
   have f1 : IntKind.u16.wrap (IntKind.u64.wrap (v1 + 0)) = gB (240 :: t) 3 * 256 + gB (240 :: t) 4:=by rw [IntWalk.u64_in _ (by omega),IntWalk.u16_in _ (by omega)];omega
   have f2 : IntKind.u16.wrap v2 = gB (240 :: t) 5 * 256 + gB (240 :: t) 6:=by rw [IntWalk.u16_in _ (by omega)];omega
   rw [hlo h];exact Done.mk (zE ⟨zA f0,zA f1,zA f2,zA rfl,zA rfl,trivial⟩)
theorem rdu_1 (t : List Int) (hb : BL (241 :: t)) (hbl : (241 :: t : List Int).length <= 140737488355328) : zY Tryz.prog 61 [(qf eB Zb).enc (241 :: t)] (zEI (Qk (241 :: t))):=by
 obtain ⟨W,eW⟩ : ∃ W,Qk (241 :: t) = W:=⟨_,rfl⟩;rw [eW];have hsh : (241 :: t : List Int).length < 6 -> W = (((0,0),0,0),4):=λh=>eW.symm.trans (zAT (k:=1) (by simp) rfl (by decide) (by show _ < 6;exact h));have hlo : ¬ (241 :: t : List Int).length < 6 -> W = (rdU 1 (241 :: t),0):=λh=>eW.symm.trans (zBD (k:=1) rfl (by decide) (by show ¬ _ < 6;exact h));have hgr : ∀ i,0 <= gB (241 :: t) i /\ gB (241 :: t) i < 256:=λi=>gB_r hb i;obtain ⟨v0,e0,t0,u0,z0⟩ : ∃ v e,qn (241 :: t) 1 2 0 = (v,3,e) /\ ((241 :: t : List Int).length ≥ 3 -> v = gB (241 :: t) 1 * 256 + gB (241 :: t) 2) /\ e = if (1 : Int) + 2 <= (241 :: t : List Int).length then 0 else 4:=⟨_,_,rfl,λh=>zEJ (k:=1) rfl (by omega),rfl⟩
 obtain ⟨v1,e1,t1,u1,z1⟩ : ∃ v e,qn (241 :: t) 3 1 e0 = (v,4,e) /\ ((241 :: t : List Int).length ≥ 4 -> v = gB (241 :: t) 3) /\ e = if (3 : Int) + 1 <= (241 :: t : List Int).length then e0 else 4:=⟨_,_,rfl,λh=>uI_1 (k:=3) rfl (by omega),rfl⟩
 obtain ⟨v2,e2,t2,u2,z2⟩ : ∃ v e,qn (241 :: t) 4 2 e1 = (v,6,e) /\ ((241 :: t : List Int).length ≥ 6 -> v = gB (241 :: t) 4 * 256 + gB (241 :: t) 5) /\ e = if (4 : Int) + 2 <= (241 :: t : List Int).length then e1 else 4:=⟨_,_,rfl,λh=>zEJ (k:=4) rfl (by omega),rfl⟩
 clear eW;obtain ⟨g0,g1,g2⟩:=zg3;refine zG (wd:=1) (by decide) zM (zT zCy) zN Tryz.func61 rfl _ (by show 1 <= _;decide) _ ?_;repeat' (first | (apply And.intro<;>intro hc<;>(first | exact Bool.noConfusion hc | (exfalso;first | exact absurd hc (by decide) | exact absurd hc ‹_› | exact absurd ‹_› hc | exact absurd rfl hc) | (simp only [Zi] at hc<;>first | exact absurd rfl hc | (exfalso;first | exact absurd hc (by decide) | exact absurd hc ‹_› | exact absurd ‹_› hc | exact absurd rfl hc) | skip) | skip)) | (refine And.intro Za ?_) | (apply And.intro) | (refine Exists.intro (241 :: t) (And.intro ⟨rfl,rfl,by first | exact ⟨⟨hb,hbl⟩,⟨of_decide_eq_true rfl,of_decide_eq_true rfl⟩,of_decide_eq_true rfl,of_decide_eq_true rfl⟩⟩ ?_)) | (intro s hs;(first | (clear g0;have q : (v0,(3 : Int),e0) = s:=(hs.trans t0).symm;clear hs;subst q) | (clear g1;have q : (v1,(4 : Int),e1) = s:=(hs.trans t1).symm;clear hs;subst q) | (clear g2;have q : (v2,(6 : Int),e2) = s:=(hs.trans t2).symm;clear hs;subst q))))
 all_goals first
  | exact of_decide_eq_true rfl
  | exact Nat.le_of_ble_eq_true rfl
  | skip
 . by_cases h : (241 :: t : List Int).length < 6
   . rw [hsh h];have he : e2 = 4:=by rw [z2,if_neg (by omega)]
     exact Done.mk (zE ⟨zA rfl,zA rfl,zA rfl,zA rfl,zA he,trivial⟩)
   . exfalso;have he : e2 = 0:=by rw [z2,if_pos (by omega),z1,if_pos (by omega),z0,if_pos (by omega)]
     have hx : ¬ e2 = 0:=by assumption
     exact hx he
 . have h : ¬ (241 :: t : List Int).length < 6:=λh=>by
    have he : e2 = 4:=by rw [z2,if_neg (by omega)]
    have hx : e2 = 0:=by assumption
    omega
   have r1:=hgr 1;have r2:=hgr 2;have r3:=hgr 3;have r4:=hgr 4;have r5:=hgr 5;have r6:=hgr 6;have y0:=u0 (by omega);have y1:=u1 (by omega);have y2:=u2 (by omega);have f0 : IntKind.u16.wrap (IntKind.u64.wrap (v0 + 0)) = gB (241 :: t) 1 * 256 + gB (241 :: t) 2:=by rw [IntWalk.u64_in _ (by omega),IntWalk.u16_in _ (by omega)];omega
   have f1 : IntKind.u16.wrap (IntKind.u64.wrap (v1 + 61440)) = 240 * 256 + gB (241 :: t) 3:=by rw [IntWalk.u64_in _ (by omega),IntWalk.u16_in _ (by omega)];omega
   have f2 : IntKind.u16.wrap v2 = gB (241 :: t) 4 * 256 + gB (241 :: t) 5:=by rw [IntWalk.u16_in _ (by omega)];omega
   rw [hlo h];exact Done.mk (zE ⟨zA f0,zA f1,zA f2,zA rfl,zA rfl,trivial⟩)
theorem rdu_2 (t : List Int) (hb : BL (242 :: t)) (hbl : (242 :: t : List Int).length <= 140737488355328) : zY Tryz.prog 61 [(qf eB Zb).enc (242 :: t)] (zEI (Qk (242 :: t))):=by
 obtain ⟨W,eW⟩ : ∃ W,Qk (242 :: t) = W:=⟨_,rfl⟩;rw [eW];have hsh : (242 :: t : List Int).length < 6 -> W = (((0,0),0,0),4):=λh=>eW.symm.trans (zAT (k:=2) (by simp) rfl (by decide) (by show _ < 6;exact h));have hlo : ¬ (242 :: t : List Int).length < 6 -> W = (rdU 2 (242 :: t),0):=λh=>eW.symm.trans (zBD (k:=2) rfl (by decide) (by show ¬ _ < 6;exact h));have hgr : ∀ i,0 <= gB (242 :: t) i /\ gB (242 :: t) i < 256:=λi=>gB_r hb i;obtain ⟨v0,e0,t0,u0,z0⟩ : ∃ v e,qn (242 :: t) 1 1 0 = (v,2,e) /\ ((242 :: t : List Int).length ≥ 2 -> v = gB (242 :: t) 1) /\ e = if (1 : Int) + 1 <= (242 :: t : List Int).length then 0 else 4:=⟨_,_,rfl,λh=>uI_1 (k:=1) rfl (by omega),rfl⟩
 obtain ⟨v1,e1,t1,u1,z1⟩ : ∃ v e,qn (242 :: t) 2 2 e0 = (v,4,e) /\ ((242 :: t : List Int).length ≥ 4 -> v = gB (242 :: t) 2 * 256 + gB (242 :: t) 3) /\ e = if (2 : Int) + 2 <= (242 :: t : List Int).length then e0 else 4:=⟨_,_,rfl,λh=>zEJ (k:=2) rfl (by omega),rfl⟩
 obtain ⟨v2,e2,t2,u2,z2⟩ : ∃ v e,qn (242 :: t) 4 2 e1 = (v,6,e) /\ ((242 :: t : List Int).length ≥ 6 -> v = gB (242 :: t) 4 * 256 + gB (242 :: t) 5) /\ e = if (4 : Int) + 2 <= (242 :: t : List Int).length then e1 else 4:=⟨_,_,rfl,λh=>zEJ (k:=4) rfl (by omega),rfl⟩
 clear eW;obtain ⟨g0,g1,g2⟩:=zg3;refine zG (wd:=1) (by decide) zM (zT zCy) zN Tryz.func61 rfl _ (by show 1 <= _;decide) _ ?_;repeat' (first | (apply And.intro<;>intro hc<;>(first | exact Bool.noConfusion hc | (exfalso;first | exact absurd hc (by decide) | exact absurd hc ‹_› | exact absurd ‹_› hc | exact absurd rfl hc) | (simp only [Zi] at hc<;>first | exact absurd rfl hc | (exfalso;first | exact absurd hc (by decide) | exact absurd hc ‹_› | exact absurd ‹_› hc | exact absurd rfl hc) | skip) | skip)) | (refine And.intro Za ?_) | (apply And.intro) | (refine Exists.intro (242 :: t) (And.intro ⟨rfl,rfl,by first | exact ⟨⟨hb,hbl⟩,⟨of_decide_eq_true rfl,of_decide_eq_true rfl⟩,of_decide_eq_true rfl,of_decide_eq_true rfl⟩⟩ ?_)) | (intro s hs;(first | (clear g0;have q : (v0,(2 : Int),e0) = s:=(hs.trans t0).symm;clear hs;subst q) | (clear g1;have q : (v1,(4 : Int),e1) = s:=(hs.trans t1).symm;clear hs;subst q) | (clear g2;have q : (v2,(6 : Int),e2) = s:=(hs.trans t2).symm;clear hs;subst q))))
 all_goals first
  | exact of_decide_eq_true rfl
  | exact Nat.le_of_ble_eq_true rfl
  | skip
 . by_cases h : (242 :: t : List Int).length < 6
   . rw [hsh h];have he : e2 = 4:=by rw [z2,if_neg (by omega)]
     exact Done.mk (zE ⟨zA rfl,zA rfl,zA rfl,zA rfl,zA he,trivial⟩)
   . exfalso;have he : e2 = 0:=by rw [z2,if_pos (by omega),z1,if_pos (by omega),z0,if_pos (by omega)]
     have hx : ¬ e2 = 0:=by assumption
     exact hx he
 . have h : ¬ (242 :: t : List Int).length < 6:=λh=>by
    have he : e2 = 4:=by rw [z2,if_neg (by omega)]
    have hx : e2 = 0:=by assumption
    omega
   have r1:=hgr 1;have r2:=hgr 2;have r3:=hgr 3;have r4:=hgr 4;have r5:=hgr 5;have r6:=hgr 6;have y0:=u0 (by omega);have y1:=u1 (by omega);have y2:=u2 (by omega);have f0 : IntKind.u16.wrap (IntKind.u64.wrap (v0 + 61440)) = 240 * 256 + gB (242 :: t) 1:=by rw [IntWalk.u64_in _ (by omega),IntWalk.u16_in _ (by omega)];omega
   have f1 : IntKind.u16.wrap (IntKind.u64.wrap (v1 + 0)) = gB (242 :: t) 2 * 256 + gB (242 :: t) 3:=by rw [IntWalk.u64_in _ (by omega),IntWalk.u16_in _ (by omega)];omega
   have f2 : IntKind.u16.wrap v2 = gB (242 :: t) 4 * 256 + gB (242 :: t) 5:=by rw [IntWalk.u16_in _ (by omega)];omega
   rw [hlo h];exact Done.mk (zE ⟨zA f0,zA f1,zA f2,zA rfl,zA rfl,trivial⟩)
theorem rdu_3 (t : List Int) (hb : BL (243 :: t)) (hbl : (243 :: t : List Int).length <= 140737488355328) : zY Tryz.prog 61 [(qf eB Zb).enc (243 :: t)] (zEI (Qk (243 :: t))):=by
 obtain ⟨W,eW⟩ : ∃ W,Qk (243 :: t) = W:=⟨_,rfl⟩;rw [eW];have hsh : (243 :: t : List Int).length < 4 -> W = (((0,0),0,0),4):=λh=>eW.symm.trans (zAT (k:=3) (by simp) rfl (by decide) (by show _ < 4;exact h));have hlo : ¬ (243 :: t : List Int).length < 4 -> W = (rdU 3 (243 :: t),0):=λh=>eW.symm.trans (zBD (k:=3) rfl (by decide) (by show ¬ _ < 4;exact h));have hgr : ∀ i,0 <= gB (243 :: t) i /\ gB (243 :: t) i < 256:=λi=>gB_r hb i;obtain ⟨v0,e0,t0,u0,z0⟩ : ∃ v e,qn (243 :: t) 1 1 0 = (v,2,e) /\ ((243 :: t : List Int).length ≥ 2 -> v = gB (243 :: t) 1) /\ e = if (1 : Int) + 1 <= (243 :: t : List Int).length then 0 else 4:=⟨_,_,rfl,λh=>uI_1 (k:=1) rfl (by omega),rfl⟩
 obtain ⟨v1,e1,t1,u1,z1⟩ : ∃ v e,qn (243 :: t) 2 2 e0 = (v,4,e) /\ ((243 :: t : List Int).length ≥ 4 -> v = gB (243 :: t) 2 * 256 + gB (243 :: t) 3) /\ e = if (2 : Int) + 2 <= (243 :: t : List Int).length then e0 else 4:=⟨_,_,rfl,λh=>zEJ (k:=2) rfl (by omega),rfl⟩
 clear eW;obtain ⟨g0,g1⟩:=zg2;refine zG (wd:=1) (by decide) zM (zT zCy) zN Tryz.func61 rfl _ (by show 1 <= _;decide) _ ?_;repeat' (first | (apply And.intro<;>intro hc<;>(first | exact Bool.noConfusion hc | (exfalso;first | exact absurd hc (by decide) | exact absurd hc ‹_› | exact absurd ‹_› hc | exact absurd rfl hc) | (simp only [Zi] at hc<;>first | exact absurd rfl hc | (exfalso;first | exact absurd hc (by decide) | exact absurd hc ‹_› | exact absurd ‹_› hc | exact absurd rfl hc) | skip) | skip)) | (refine And.intro Za ?_) | (apply And.intro) | (refine Exists.intro (243 :: t) (And.intro ⟨rfl,rfl,by first | exact ⟨⟨hb,hbl⟩,⟨of_decide_eq_true rfl,of_decide_eq_true rfl⟩,of_decide_eq_true rfl,of_decide_eq_true rfl⟩⟩ ?_)) | (intro s hs;(first | (clear g0;have q : (v0,(2 : Int),e0) = s:=(hs.trans t0).symm;clear hs;subst q) | (clear g1;have q : (v1,(4 : Int),e1) = s:=(hs.trans t1).symm;clear hs;subst q))))
 all_goals first
  | exact of_decide_eq_true rfl
  | exact Nat.le_of_ble_eq_true rfl
  | skip
 . by_cases h : (243 :: t : List Int).length < 4
   . rw [hsh h];have he : e1 = 4:=by rw [z1,if_neg (by omega)]
     exact Done.mk (zE ⟨zA rfl,zA rfl,zA rfl,zA rfl,zA he,trivial⟩)
   . exfalso;have he : e1 = 0:=by rw [z1,if_pos (by omega),z0,if_pos (by omega)]
     have hx : ¬ e1 = 0:=by assumption
     exact hx he
 . have h : ¬ (243 :: t : List Int).length < 4:=λh=>by
    have he : e1 = 4:=by rw [z1,if_neg (by omega)]
    have hx : e1 = 0:=by assumption
    omega
   have r1:=hgr 1;have r2:=hgr 2;have r3:=hgr 3;have r4:=hgr 4;have r5:=hgr 5;have r6:=hgr 6;have y0:=u0 (by omega);have y1:=u1 (by omega);have d0 : v0.tdiv 16 = v0 / 16:=Int.tdiv_eq_ediv_of_nonneg (by omega);have d1 : v0.tmod 16 = v0 % 16:=Int.tmod_eq_emod_of_nonneg (by omega);have f0 : IntKind.u16.wrap (IntKind.u64.wrap (61616 + IntKind.u64.wrap (v0.tdiv 16))) = 240 * 256 + (176 + gB (243 :: t) 1 / 16):=by rw [d0,IntWalk.u64_in (v0 / 16) (by omega)];rw [IntWalk.u64_in _ (by omega),IntWalk.u16_in _ (by omega)];omega
   have f1 : IntKind.u16.wrap (IntKind.u64.wrap (61616 + v0.tmod 16)) = 240 * 256 + (176 + gB (243 :: t) 1 % 16):=by rw [d1];rw [IntWalk.u64_in _ (by omega),IntWalk.u16_in _ (by omega)];omega
   have f2 : IntKind.u16.wrap v1 = gB (243 :: t) 2 * 256 + gB (243 :: t) 3:=by rw [IntWalk.u16_in _ (by omega)];omega
   rw [hlo h];exact Done.mk (zE ⟨zA f0,zA f1,zA f2,zA rfl,zA rfl,trivial⟩)
theorem rdu_n : zY Tryz.prog 61 [(qf eB Zb).enc []] (zEI (Qk [])):=by
 refine zG (wd:=1) (by decide) zM (zT zCy) zN Tryz.func61 rfl _ (by show 1 <= _;decide) _ ?_;repeat' (first | (apply And.intro<;>intro hc<;>(first | exact Bool.noConfusion hc | (simp only [qm] at hc) | skip)) | (refine And.intro Ql ?_) | (apply And.intro) | (intro s hs))
 all_goals first
  | exact Done.mk (zE ⟨zA rfl,zA rfl,zA rfl,zA rfl,zA rfl,trivial⟩)
  | skip
theorem rdu_x (x : Int) (t : List Int) (hx : x < 240 \/ 243 < x) : zY Tryz.prog 61 [(qf eB Zb).enc (x :: t)] (zEI (Qk (x :: t))):=by
 have e:=ud_bad (r:=x :: t) (by simp) hx;rw [e];have hl : ¬ ((x :: t : List Int).length : Int) = 0:=by simp only [List.length_cons];omega
 have hl1 : (0 : Int) < ((x :: t : List Int).length : Int):=by simp only [List.length_cons];omega
 rcases hx with hx | hx
 . refine zG (wd:=1) (by decide) zM (zT zCy) zN Tryz.func61 rfl _ (by show 1 <= _;decide) _ ?_;repeat' (first | (apply And.intro<;>intro hc<;>(first | exact Bool.noConfusion hc | (exfalso;first | exact absurd hc hl | exact absurd hx hc) | (simp only [Zi] at hc<;>first | exact absurd rfl hc | (exfalso;first | exact absurd hc hl | exact absurd hx hc) | skip) | skip)) | (refine And.intro Za ?_) | (apply And.intro) | (intro s hs;skip))
   all_goals first
    | exact Done.mk (zE ⟨zA rfl,zA rfl,zA rfl,zA rfl,zA rfl,trivial⟩)
    | exact Nat.le_of_ble_eq_true rfl
    | skip
 . refine zG (wd:=1) (by decide) zM (zT zCy) zN Tryz.func61 rfl _ (by show 1 <= _;decide) _ ?_;repeat' (first | (apply And.intro<;>intro hc<;>(first | exact Bool.noConfusion hc | (exfalso;first | exact absurd hc hl | exact absurd hx hc | (have h2 : x < 240:=hc;exact absurd h2 (by omega))) | (simp only [Zi] at hc<;>first | exact absurd rfl hc | (exfalso;first | exact absurd hc hl | exact absurd hx hc | (have h2 : x < 240:=hc;exact absurd h2 (by omega))) | skip) | skip)) | (refine And.intro Za ?_) | (apply And.intro) | (intro s hs;skip))
   all_goals first
    | exact Done.mk (zE ⟨zA rfl,zA rfl,zA rfl,zA rfl,zA rfl,trivial⟩)
    | exact Nat.le_of_ble_eq_true rfl
    | skip
theorem zJA (b : List Int) (hb : BL b) (hbl : b.length <= 140737488355328) : zY Tryz.prog 61 [(qf eB Zb).enc b] (zEI (Qk b)):=by
 match b,hb,hbl with
 | [],_,_=>exact rdu_n
 | x :: t,hb,hbl=>
   by_cases h : x < 240 \/ 243 < x
   . exact rdu_x x t h
   . have h4 : x = 240 \/ x = 241 \/ x = 242 \/ x = 243:=by omega
     rcases h4 with rfl | rfl | rfl | rfl
     . exact rdu_0 t hb hbl
     . exact rdu_1 t hb hbl
     . exact rdu_2 t hb hbl
     . exact rdu_3 t hb hbl
def finderV (k1 nm k2 : Nat) (f1 f2 : Bool) : CV:=.fn 94 0 3 (nth [.ptr k1 0 0 f1,.ptr nm 0 0 false,.ptr k2 0 0 f2])
def idBox (id : Int) : Ent:=⟨3,1,1,true,λ_ _=>.int .i64 id⟩
theorem mkf_run (id : Int) (k1 k2 nm wd : Nat) (f1 f2 : Bool) (K : FV -> Hp -> List Nat -> Prop) (h : 4 <= wd) (h1 : k1 < nm) (h2 : k2 < nm) (hK : K (one (finderV k1 nm k2 f1 f2)) [(nm,some (idBox id))] []) : qo T (mkQ LRd3) 1 Tryz.f93.ntmps nm (Tryz.f93.body.getD Code.ret) (Ya [one (.int .i64 id),one (.ptr k1 0 0 f1),one (.ptr k2 0 0 f2)] 0) [] nm (YQ T Tryz.f93.results.toList λx Hf nf=>(Nat.ble nf (nm + wd) = true /\ zD0 nm Hf = true /\ zFg x = true) /\ K x Hf []):=by
 repeat' (first | (apply And.intro<;>intro hc<;>(first | exact Bool.noConfusion hc | (simp only [qm] at hc) | skip)) | (refine And.intro Ql ?_) | (apply And.intro) | (intro s hs))
 . exact Nat.ble_eq_true_of_le (by omega)
 . show (Nat.ble nm nm && true && true) = true;rw [Nat.ble_eq_true_of_le (Nat.le_refl nm)];rfl
 . rfl
 . exact hK
def mkf2E : ZD:=λargs _ nm wd=>
 match args with
 | [.e (.c (.int .i64 id)),.e (.c (.ptr k1 0 0 f1)),.e (.c (.ptr k2 0 0 f2))]=>bif Nat.blt k1 nm && Nat.blt k2 nm && Nat.ble 4 wd then some λK=>K (one (finderV k1 nm k2 f1 f2)) [(nm,some (idBox id))] [] else none
 | _=>none
theorem mkf2E_ok : EntOk Tryz.prog 93 mkf2E:=by
 refine ⟨λargs H nm wd q hwd hq K hK=>?_,λargs H nm wd q hq K K' hKK hK=>?_⟩
 . unfold mkf2E at hq;split at hq
   . rename_i id k1 f1 k2 f2;obtain ⟨hb,hq⟩:=ZN hq;subst hq;rw [Bool.and_eq_true,Bool.and_eq_true] at hb;have b1 : k1 < nm:=Nat.le_of_ble_eq_true hb.1.1;have b2 : k2 < nm:=Nat.le_of_ble_eq_true hb.1.2;have b3 : 4 <= wd:=Nat.le_of_ble_eq_true hb.2;have hall : ([FV.e (.c (.int .i64 id)),.e (.c (.ptr k1 0 0 f1)),.e (.c (.ptr k2 0 0 f2))] : List FV).all (argLt nm) = true:=by
      show (true && (Nat.blt k1 nm && (Nat.blt k2 nm && true))) = true;rw [hb.1.1,hb.1.2];rfl
     have h5:=mkfE_ok.ok [FV.e (.c (.int .i64 id)),.e (.c (.ptr k1 0 0 f1)),.e (.c (.ptr k2 0 0 f2))] H nm wd;unfold mkfE inl0E at h5;rw [hall] at h5;exact h5 _ hwd rfl K ⟨rfl,mkf_run id k1 k2 nm wd f1 f2 K b3 b1 b2 hK⟩
   . cases hq
 . unfold mkf2E at hq;split at hq
   . obtain ⟨hb,hq⟩:=ZN hq;subst hq;exact hKK _ _ _ hK
   . cases hq
def LRd5 : Qb:=(93,some mkf2E) :: (96,some uniRE) :: (97,some grpRE) :: LRd3
theorem LRd5_ok : ZC Tryz.prog LRd5:=⟨mkf2E_ok,zDg ⟨_,Tryz.func96,rfl,by kernel_rfl⟩ (λr=>qC r) λb q a h=>uniR_ok b q a.1 a.2.1 a.2.2.1 a.2.2.2.1.1 a.2.2.2.1.2.1 a.2.2.2.1.2.2 h.1 h.2.1 h.2.2,zDg ⟨_,Tryz.func97,rfl,by kernel_rfl⟩ (λr=>qC r) λb q a h=>grpR_ok b q a.1 h.1 h.2,QG⟩
theorem dec_ok0 (b : List Int) (f t : Adr) (l : List Ctx) (now : Int) (hb : BL b) (hbl : b.length <= 140737488355328) (hl : bytesL l) (hsk : bits .and .i64 (qR b 0).1.1.2.1 64 = 0 \/ ¬ bits .and .i64 (Zn .i64 (qR b 0).1.1.2.1 4) 3 = 0) : zY Tryz.prog 60 [(qf eB Zb).enc b,(cE ZF).enc f,(cE ZF).enc t,(qf zb zq).enc l,(cI .i64).enc now] (zAN (Zr b f t l now)):=by
 have r0 : RdOk b 0:=⟨hb,hbl,Int.le_refl 0,Int.natCast_nonneg _⟩;have r1:=zFh r0;have r2:=zD1 (x:=(qR b 0).1.1.1) r1;have sv:=zH4 (q:=0) hb;obtain ⟨W,hW⟩ : ∃ W,Zr b f t l now = W:=⟨_,rfl⟩;rw [hW];obtain ⟨Ck,eC⟩ : ∃ x,Zj f t l now = x:=⟨_,rfl⟩;obtain ⟨S,eS⟩ : ∃ x,qR b 0 = x:=⟨_,rfl⟩;rw [eS] at r1 r2 sv hsk;obtain ⟨F,eF⟩ : ∃ x,zL b S.1.1.1 S.2 = x:=⟨_,rfl⟩;rw [eF] at r2;have e0 : ¬ Ck = 0 -> W = (((zJ,[]),0),Ck):=λh=>by rw [<- hW];exact decI_0 eC h
 have e1 : Ck = 0 -> ¬ S.1.2 = 0 -> W = (((zJ,[]),0),S.1.2):=λh g=>by rw [<- hW];exact zBI (eC.trans h) (read_1 eS g) rfl g
 have e2 : Ck = 0 -> S.1.2 = 0 -> ¬ F.1.2 = 0 -> W = (((zJ,[]),0),F.1.2):=λh g i=>by rw [<- hW];exact zBI (eC.trans h) (read_2 eS eF g i) rfl i
 obtain ⟨X,eU⟩ : ∃ x,qz b (bits .and .i64 S.1.1.2.1 64 != 0) (bits .and .i64 (Zn .i64 S.1.1.2.1 4) 3) f (zK l (Zn .i64 S.1.1.2.2 4) now) F.2 = x:=⟨_,rfl⟩;have r3 : RdOk b X.2:=by rw [<- eU];exact uniD_r r2
 have hX : S.1.2 = 0 -> zDs b S.1.1.2.1 S.1.1.2.2 f l now F.2 = X:=λg=>by
  obtain ⟨p1,p2,p3,p4,p5,p6,p7⟩:=zAy (sv g).y;obtain ⟨_,_,_,_,_,p8,p9⟩:=zAy (sv g).ids;rw [<- eU,p1,p4,p8];rw [p4] at hsk;unfold zDs;refine if_pos (hsk.imp (λh=>?_) id);rw [<- p1,h];rfl
 have rm : S.1.2 = 0 -> (0 <= bits .and .i64 S.1.1.2.1 3 /\ bits .and .i64 S.1.1.2.1 3 <= 3) /\ 0 <= bits .and .i64 (Zn .i64 S.1.1.2.1 4) 3 /\ bits .and .i64 (Zn .i64 S.1.1.2.1 4) 3 <= 3:=λg=>by
  obtain ⟨p1,p2,p3,p4,p5,p6,p7⟩:=zAy (sv g).y;rw [p4,p5];omega
 obtain ⟨G,eG⟩ : ∃ x,zAb b (bits .and .i64 S.1.1.2.1 3) X.2 = x:=⟨_,rfl⟩;obtain ⟨D,eD⟩ : ∃ x,qz b (bits .and .i64 S.1.1.2.1 4 != 0) (bits .and .i64 S.1.1.2.1 3) t (zK l (bits .and .i64 S.1.1.2.2 15) now) X.2 = x:=⟨_,rfl⟩;have hG : S.1.2 = 0 -> ¬ bits .and .i64 S.1.1.2.1 8 = 0 -> zCa b S.1.1.2.1 S.1.1.2.2 t l now X.2 = G:=λg k=>by
  obtain ⟨p1,p2,p3,p4,p5,p6,p7⟩:=zAy (sv g).y;rw [<- eG,p5];unfold zCa;exact if_pos (p3.symm.trans (by simpa using k))
 have hD : S.1.2 = 0 -> bits .and .i64 S.1.1.2.1 8 = 0 -> zCa b S.1.1.2.1 S.1.1.2.2 t l now X.2 = D:=λg k=>by
  obtain ⟨p1,p2,p3,p4,p5,p6,p7⟩:=zAy (sv g).y;obtain ⟨_,_,_,_,_,p8,p9⟩:=zAy (sv g).ids;rw [<- eD,p2,p5,p9];unfold zCa;refine if_neg (λh=>?_);rw [<- p3,k] at h;cases h
 have e3 : Ck = 0 -> S.1.2 = 0 -> F.1.2 = 0 -> ¬ X.1.2 = 0 -> W = (((zJ,[]),0),X.1.2):=λh g i x=>by rw [<- hW];exact zBI (eC.trans h) (read_3 eS eF (hX g) g i x) rfl x
 have e4G : Ck = 0 -> S.1.2 = 0 -> F.1.2 = 0 -> X.1.2 = 0 -> ¬ bits .and .i64 S.1.1.2.1 8 = 0 -> ¬ G.1.2 = 0 -> W = (((zJ,[]),0),G.1.2):=λh g i x k m=>by rw [<- hW];exact zBI (eC.trans h) (zHI eS eF (hX g) (hG g k) g i x m) rfl m
 have e5G : Ck = 0 -> S.1.2 = 0 -> F.1.2 = 0 -> X.1.2 = 0 -> ¬ bits .and .i64 S.1.1.2.1 8 = 0 -> G.1.2 = 0 -> W = ((({ F.1.1 with src:=X.1.1,dst:=G.1.1 },[]),G.2),0):=λh g i x k m=>by rw [<- hW];exact zFi (eC.trans h) (zHJ eS eF (hX g) (hG g k) g i x m)
 have e4D : Ck = 0 -> S.1.2 = 0 -> F.1.2 = 0 -> X.1.2 = 0 -> bits .and .i64 S.1.1.2.1 8 = 0 -> ¬ D.1.2 = 0 -> W = (((zJ,[]),0),D.1.2):=λh g i x k m=>by rw [<- hW];exact zBI (eC.trans h) (zHI eS eF (hX g) (hD g k) g i x m) rfl m
 have e5D : Ck = 0 -> S.1.2 = 0 -> F.1.2 = 0 -> X.1.2 = 0 -> bits .and .i64 S.1.1.2.1 8 = 0 -> D.1.2 = 0 -> W = ((({ F.1.1 with src:=X.1.1,dst:=D.1.1 },[]),D.2),0):=λh g i x k m=>by rw [<- hW];exact zFi (eC.trans h) (zHJ eS eF (hX g) (hD g k) g i x m)
 clear hX hG hD hW;obtain ⟨g1,g2,g3,g4,g5,g6,g7⟩:=zg7;refine zG (wd:=8) (by decide) zM (zT LRd5_ok) zN Tryz.func60 rfl _ (by show 5 <= _;decide) _ ?_;repeat' (first | (apply And.intro<;>intro hc<;>(first | exact Bool.noConfusion hc | (exfalso;first | exact absurd rfl hc | exact absurd hc ‹_› | exact absurd ‹_› hc | exact hsk.elim (λh=>absurd h ‹_›) (λh=>h hc)) | (simp only [Zi] at hc<;>first | exact absurd rfl hc | (exfalso;first | exact absurd rfl hc | exact absurd hc ‹_› | exact absurd ‹_› hc | exact hsk.elim (λh=>absurd h ‹_›) (λh=>h hc)) | skip) | skip)) | (refine And.intro Za ?_) | (apply And.intro) | (refine Exists.intro b (And.intro ⟨rfl,rfl,by first | exact r0 | exact ⟨by assumption,(sv ‹_›).x⟩ | assumption | exact ⟨by assumption,(rm ‹_›).1⟩ | exact ⟨by assumption,Eq.mp (congrArg bytesL (zU l).symm) hl,(rm ‹_›).1⟩ | exact ⟨by assumption,Eq.mp (congrArg bytesL (zU l).symm) hl,(rm ‹_›).2⟩⟩ ?_)) | (intro s hs;(first | (clear g1;have q : Ck = s:=(hs.trans ((congr (congr (congrArg (λa b c=>Zj a b c now) (zt f)) (zt t)) (zU l)).trans eC)).symm;clear hs;subst q) | (clear g2;have q : S = s:=(hs.trans eS).symm;clear hs;subst q) | (clear g3;have q : F = s:=(hs.trans eF).symm;clear hs;subst q) | (clear g4;have q : X = s:=(hs.trans ((congr (congrArg (λk l=>qz b (bits .and .i64 S.1.1.2.1 64 != 0) (bits .and .i64 (Zn .i64 S.1.1.2.1 4) 3) k (zK l (Zn .i64 S.1.1.2.2 4) now) F.2) (zt f)) (zU l)).trans eU)).symm;clear hs;subst q) | (clear g5;have q : G = s:=(hs.trans eG).symm;clear hs;subst q) | (clear g6;have q : D = s:=(hs.trans ((congr (congrArg (λk l=>qz b (bits .and .i64 S.1.1.2.1 4 != 0) (bits .and .i64 S.1.1.2.1 3) k (zK l (bits .and .i64 S.1.1.2.2 15) now) X.2) (zt t)) (zU l)).trans eD)).symm;clear hs;subst q) | skip)))
 all_goals try (first | exact rfl | exact Nat.le_of_ble_eq_true rfl | exact λ_=>rfl)
 all_goals first
  | (show (Zw zb l.length _).length <= _;rw [zS];have:=hl.n;omega)
  | (rw [e0 ‹_›]
     exact zq4)
  | (rw [e1 ‹_› ‹_›]
     exact zq4)
  | (rw [e2 ‹_› ‹_› ‹_›]
     exact zq4)
  | (rw [e3 ‹_› ‹_› ‹_› ‹_›]
     exact zq4)
  | (rw [e4G ‹_› ‹_› ‹_› ‹_› ‹_› ‹_›]
     exact zq4)
  | (rw [e5G ‹_› ‹_› ‹_› ‹_› ‹_› ‹_›]
     exact zq4)
  | (rw [e4D ‹_› ‹_› ‹_› ‹_› ‹_› ‹_›]
     exact zq4)
  | (rw [e5D ‹_› ‹_› ‹_› ‹_› ‹_› ‹_›]
     exact zq4)
  | skip
theorem dec_ok1 (b : List Int) (f t : Adr) (l : List Ctx) (now : Int) (hb : BL b) (hbl : b.length <= 140737488355328) (hl : bytesL l) (hsk : ¬ bits .and .i64 (qR b 0).1.1.2.1 64 = 0 /\ bits .and .i64 (Zn .i64 (qR b 0).1.1.2.1 4) 3 = 0) : zY Tryz.prog 60 [(qf eB Zb).enc b,(cE ZF).enc f,(cE ZF).enc t,(qf zb zq).enc l,(cI .i64).enc now] (zAN (Zr b f t l now)):=by
 have r0 : RdOk b 0:=⟨hb,hbl,Int.le_refl 0,Int.natCast_nonneg _⟩;have r1:=zFh r0;have r2:=zD1 (x:=(qR b 0).1.1.1) r1;have sv:=zH4 (q:=0) hb;obtain ⟨W,hW⟩ : ∃ W,Zr b f t l now = W:=⟨_,rfl⟩;rw [hW];obtain ⟨Ck,eC⟩ : ∃ x,Zj f t l now = x:=⟨_,rfl⟩;obtain ⟨S,eS⟩ : ∃ x,qR b 0 = x:=⟨_,rfl⟩;rw [eS] at r1 r2 sv hsk;obtain ⟨F,eF⟩ : ∃ x,zL b S.1.1.1 S.2 = x:=⟨_,rfl⟩;rw [eF] at r2;have e0 : ¬ Ck = 0 -> W = (((zJ,[]),0),Ck):=λh=>by rw [<- hW];exact decI_0 eC h
 have e1 : Ck = 0 -> ¬ S.1.2 = 0 -> W = (((zJ,[]),0),S.1.2):=λh g=>by rw [<- hW];exact zBI (eC.trans h) (read_1 eS g) rfl g
 have e2 : Ck = 0 -> S.1.2 = 0 -> ¬ F.1.2 = 0 -> W = (((zJ,[]),0),F.1.2):=λh g i=>by rw [<- hW];exact zBI (eC.trans h) (read_2 eS eF g i) rfl i
 have r3:=r2;have hs0 : F.1.1.src = zI:=by rw [<- eF];exact zH3 b _ _
 have hX : S.1.2 = 0 -> zDs b S.1.1.2.1 S.1.1.2.2 f l now F.2 = ((zI,0),F.2):=λg=>by
  obtain ⟨p1,p2,p3,p4,p5,p6,p7⟩:=zAy (sv g).y;rw [p4] at hsk;unfold zDs;refine if_neg (λh=>h.elim (λh=>?_) (λh=>h hsk.2));rw [<- p1] at h;exact hsk.1 (by simpa using h)
 have rm : S.1.2 = 0 -> (0 <= bits .and .i64 S.1.1.2.1 3 /\ bits .and .i64 S.1.1.2.1 3 <= 3) /\ 0 <= bits .and .i64 (Zn .i64 S.1.1.2.1 4) 3 /\ bits .and .i64 (Zn .i64 S.1.1.2.1 4) 3 <= 3:=λg=>by
  obtain ⟨p1,p2,p3,p4,p5,p6,p7⟩:=zAy (sv g).y;rw [p4,p5];omega
 obtain ⟨G,eG⟩ : ∃ x,zAb b (bits .and .i64 S.1.1.2.1 3) F.2 = x:=⟨_,rfl⟩;obtain ⟨D,eD⟩ : ∃ x,qz b (bits .and .i64 S.1.1.2.1 4 != 0) (bits .and .i64 S.1.1.2.1 3) t (zK l (bits .and .i64 S.1.1.2.2 15) now) F.2 = x:=⟨_,rfl⟩;have hG : S.1.2 = 0 -> ¬ bits .and .i64 S.1.1.2.1 8 = 0 -> zCa b S.1.1.2.1 S.1.1.2.2 t l now F.2 = G:=λg k=>by
  obtain ⟨p1,p2,p3,p4,p5,p6,p7⟩:=zAy (sv g).y;rw [<- eG,p5];unfold zCa;exact if_pos (p3.symm.trans (by simpa using k))
 have hD : S.1.2 = 0 -> bits .and .i64 S.1.1.2.1 8 = 0 -> zCa b S.1.1.2.1 S.1.1.2.2 t l now F.2 = D:=λg k=>by
  obtain ⟨p1,p2,p3,p4,p5,p6,p7⟩:=zAy (sv g).y;obtain ⟨_,_,_,_,_,p8,p9⟩:=zAy (sv g).ids;rw [<- eD,p2,p5,p9];unfold zCa;refine if_neg (λh=>?_);rw [<- p3,k] at h;cases h
 have e4G : Ck = 0 -> S.1.2 = 0 -> F.1.2 = 0 -> ¬ bits .and .i64 S.1.1.2.1 8 = 0 -> ¬ G.1.2 = 0 -> W = (((zJ,[]),0),G.1.2):=λh g i k m=>by rw [<- hW];exact zBI (eC.trans h) (zHI eS eF (hX g) (hG g k) g i rfl m) rfl m
 have e5G : Ck = 0 -> S.1.2 = 0 -> F.1.2 = 0 -> ¬ bits .and .i64 S.1.1.2.1 8 = 0 -> G.1.2 = 0 -> W = ((({ F.1.1 with src:=F.1.1.src,dst:=G.1.1 },[]),G.2),0):=λh g i k m=>by rw [<- hW,hs0];exact zFi (eC.trans h) (zHJ eS eF (hX g) (hG g k) g i rfl m)
 have e4D : Ck = 0 -> S.1.2 = 0 -> F.1.2 = 0 -> bits .and .i64 S.1.1.2.1 8 = 0 -> ¬ D.1.2 = 0 -> W = (((zJ,[]),0),D.1.2):=λh g i k m=>by rw [<- hW];exact zBI (eC.trans h) (zHI eS eF (hX g) (hD g k) g i rfl m) rfl m
 have e5D : Ck = 0 -> S.1.2 = 0 -> F.1.2 = 0 -> bits .and .i64 S.1.1.2.1 8 = 0 -> D.1.2 = 0 -> W = ((({ F.1.1 with src:=F.1.1.src,dst:=D.1.1 },[]),D.2),0):=λh g i k m=>by rw [<- hW,hs0];exact zFi (eC.trans h) (zHJ eS eF (hX g) (hD g k) g i rfl m)
 clear hX hG hD hW;obtain ⟨g1,g2,g3,g4,g5,g6,g7⟩:=zg7;refine zG (wd:=8) (by decide) zM (zT LRd5_ok) zN Tryz.func60 rfl _ (by show 5 <= _;decide) _ ?_;repeat' (first | (apply And.intro<;>intro hc<;>(first | exact Bool.noConfusion hc | (exfalso;first | exact absurd rfl hc | exact absurd hc ‹_› | exact absurd ‹_› hc | exact absurd hc hsk.1 | exact absurd hsk.2 hc) | (simp only [Zi] at hc<;>first | exact absurd rfl hc | (exfalso;first | exact absurd rfl hc | exact absurd hc ‹_› | exact absurd ‹_› hc | exact absurd hc hsk.1 | exact absurd hsk.2 hc) | skip) | skip)) | (refine And.intro Za ?_) | (apply And.intro) | (refine Exists.intro b (And.intro ⟨rfl,rfl,by first | exact r0 | exact ⟨by assumption,(sv ‹_›).x⟩ | assumption | exact ⟨by assumption,(rm ‹_›).1⟩ | exact ⟨by assumption,Eq.mp (congrArg bytesL (zU l).symm) hl,(rm ‹_›).1⟩ | exact ⟨by assumption,Eq.mp (congrArg bytesL (zU l).symm) hl,(rm ‹_›).2⟩⟩ ?_)) | (intro s hs;(first | (clear g1;have q : Ck = s:=(hs.trans ((congr (congr (congrArg (λa b c=>Zj a b c now) (zt f)) (zt t)) (zU l)).trans eC)).symm;clear hs;subst q) | (clear g2;have q : S = s:=(hs.trans eS).symm;clear hs;subst q) | (clear g3;have q : F = s:=(hs.trans eF).symm;clear hs;subst q) | (clear g5;have q : G = s:=(hs.trans eG).symm;clear hs;subst q) | (clear g6;have q : D = s:=(hs.trans ((congr (congrArg (λk l=>qz b (bits .and .i64 S.1.1.2.1 4 != 0) (bits .and .i64 S.1.1.2.1 3) k (zK l (bits .and .i64 S.1.1.2.2 15) now) F.2) (zt t)) (zU l)).trans eD)).symm;clear hs;subst q) | skip)))
 all_goals try (first | exact rfl | exact Nat.le_of_ble_eq_true rfl | exact λ_=>rfl)
 all_goals first
  | (show (Zw zb l.length _).length <= _;rw [zS];have:=hl.n;omega)
  | (rw [e0 ‹_›]
     exact zq4)
  | (rw [e1 ‹_› ‹_›]
     exact zq4)
  | (rw [e2 ‹_› ‹_› ‹_›]
     exact zq4)
  | (rw [e4G ‹_› ‹_› ‹_› ‹_› ‹_›]
     exact zq4)
  | (rw [e5G ‹_› ‹_› ‹_› ‹_› ‹_›]
     exact zq4)
  | (rw [e4D ‹_› ‹_› ‹_› ‹_› ‹_›]
     exact zq4)
  | (rw [e5D ‹_› ‹_› ‹_› ‹_› ‹_›]
     exact zq4)
  | skip
theorem zJC (b : List Int) (f t : Adr) (l : List Ctx) (now : Int) (hb : BL b) (hbl : b.length <= 140737488355328) (hl : bytesL l) : zY Tryz.prog 60 [(qf eB Zb).enc b,(cE ZF).enc f,(cE ZF).enc t,(qf zb zq).enc l,(cI .i64).enc now] (zAN (Zr b f t l now)):=by
 by_cases h : ¬ bits .and .i64 (qR b 0).1.1.2.1 64 = 0 /\ bits .and .i64 (Zn .i64 (qR b 0).1.1.2.1 4) 3 = 0
 . exact dec_ok1 b f t l now hb hbl hl h
 . refine dec_ok0 b f t l now hb hbl hl ?_;by_cases h1 : bits .and .i64 (qR b 0).1.1.2.1 64 = 0
   . exact .inl h1
   . exact .inr λh2=>h ⟨h1,h2⟩
abbrev decIE : ZD:=ZH (AC.cons (qf eB Zb) (AC.cons (cE ZF) (AC.cons (cE ZF) (AC.cons (qf zb zq) (AC.cons (cI .i64) AC.nil))))) (λa=>BL a.1 /\ a.1.length <= 140737488355328 /\ bytesL a.2.2.2.1) (λa=>Zr a.1 a.2.1 a.2.2.1 a.2.2.2.1 a.2.2.2.2.1) zAN
theorem decIE_ok : EntOk Tryz.prog 60 decIE:=zO ⟨_,Tryz.func60,rfl,by kernel_rfl⟩ λa h=>zJC a.1 a.2.1 a.2.2.1 a.2.2.2.1 a.2.2.2.2.1 h.1 h.2.1 h.2.2
abbrev udE : ZD:=ZH (AC.cons (qf eB Zb) AC.nil) (λa=>BL a.1 /\ a.1.length <= 140737488355328) (λa=>Qk a.1) zEI
def LCd : Qb:=(59,some decE) :: (60,some decIE) :: (61,some udE) :: (62,some sizeE) :: (63,some sumE) :: []
theorem LCd_ok : ZC Tryz.prog LCd:=⟨zO ⟨_,Tryz.func59,rfl,by kernel_rfl⟩ λa h=>zFX a.1 h.1 h.2,decIE_ok,zO ⟨_,Tryz.func61,rfl,by kernel_rfl⟩ λa h=>zJA a.1 h.1 h.2,zO ⟨_,Tryz.func62,rfl,by kernel_rfl⟩ λa h=>size_ok a.1 h,zO ⟨_,Tryz.func63,rfl,by kernel_rfl⟩ λa h=>zG3 a.1 h.1 h.2,trivial⟩
theorem zAi (b : List Int) (f t : Adr) (l : List Ctx) (now : Int) : (Zr b f t l now).1.1.2 = []:=by
 unfold Zr;split
 . rfl
 . split<;>rfl
theorem zFo {p : Zz} {m : Int} (h : 1280 < ZB p) : zBc p m = (pk0,3):=if_pos h
theorem fin_6 {p : Zz} {m : Int} (h : ¬ 1280 < ZB p) (hu : p.1.nxt = 17) (hm : ¬ m = qZ p) : zBc p m = (pk0,6):=by unfold zBc;rw [if_neg h,if_pos ⟨hu,hm⟩]
theorem zFp {p : Zz} {m : Int} (h : ¬ 1280 < ZB p) (hm : p.1.nxt = 17 -> m = qZ p) : zBc p m = (p,0):=by unfold zBc;rw [if_neg h,if_neg (λg=>g.2 (hm g.1))]
theorem zFq {h : Hdr} {r : List Int} (hu : h.nxt = 17) {U : ((Int × Int) × Int × Int) × Int} (eU : Qk r = U) (h0 : U.2 = 0) : zA3 h r = zBc ({ h with sp:=U.1.1.1,dp:=U.1.1.2 },r.drop U.1.2.2.toNat) U.1.2.1:=by
 subst eU;unfold zA3;rw [if_pos hu,if_pos h0]
theorem zCC {h : Hdr} {r : List Int} (hu : h.nxt = 17) {U : ((Int × Int) × Int × Int) × Int} (eU : Qk r = U) (h0 : ¬ U.2 = 0) : zA3 h r = (pk0,U.2):=by
 subst eU;unfold zA3;rw [if_pos hu,if_neg h0]
theorem restN {h : Hdr} {r : List Int} (hu : ¬ h.nxt = 17) : zA3 h r = zBc (h,r) 0:=if_neg hu
theorem zD2 {b : List Int} {f t : Adr} {l : List Ctx} {now : Int} (h : ¬ b.length = 0) (h1 : gB b 0 = 65) : zAU b f t l now = Qa (b.drop 1):=by unfold zAU;rw [if_neg h,if_pos h1]
theorem zD3 {b : List Int} {f t : Adr} {l : List Ctx} {now : Int} (h : ¬ b.length = 0) (h1 : ¬ gB b 0 = 65) {D : (Zz × Int) × Int} (eD : Zr b f t l now = D) (h2 : ¬ D.2 = 0) : zAU b f t l now = (pk0,D.2):=by subst eD;unfold zAU;rw [if_neg h,if_neg h1,if_neg h2]
theorem zD4 {b : List Int} {f t : Adr} {l : List Ctx} {now : Int} (h : ¬ b.length = 0) (h1 : ¬ gB b 0 = 65) {D : (Zz × Int) × Int} (eD : Zr b f t l now = D) (h2 : D.2 = 0) : zAU b f t l now = zA3 D.1.1.1 (b.drop D.1.2.toNat):=by subst eD;unfold zAU;rw [if_neg h,if_neg h1,if_pos h2]
theorem zEl (b : List Int) (a n : Nat) (h1 : a <= b.length) (h2 : n <= b.length - a) : (Zw eB (b.length - a - n) λi=>zn eB b (a + (n + i))) = (b.drop a).drop n:=by
 have e : (λi=>zn eB b (a + (n + i))) = λi=>zn eB b (a + n + i):=by funext i;rw [Nat.add_assoc]
 rw [e,Nat.sub_sub,Yu b (a + n) (by omega),List.drop_drop]
theorem isRow_od {z : Nat -> Nat -> CV} {m : Nat} {b : List Int} {a : Nat} (hn : b.length - a <= m) : IsRow (λk j=>ovE z 0 m (λi=>zn eB b (a + i)) (0 + k) j) (b.drop a):=
 zDW (by rw [List.length_drop];omega) λk hk=>by
  show CV.int .u8 (b.getD (a + k) default) = _;rw [List.getD_eq_getElem?_getD,List.getD_eq_getElem?_getD,List.getElem?_drop]
theorem isRow_odd {z : Nat -> Nat -> CV} {m : Nat} {b : List Int} {a n : Nat} (hn : b.length - a - n <= m) : IsRow (λk j=>ovE z 0 m (λi=>(λi=>zn eB b (a + i)) (n + i)) (0 + k) j) ((b.drop a).drop n):=
 zDW (by rw [List.length_drop,List.length_drop];omega) λk hk=>by
  show CV.int .u8 (b.getD (a + (n + k)) default) = _;rw [List.getD_eq_getElem?_getD,List.getD_eq_getElem?_getD,List.getElem?_drop,List.getElem?_drop]
theorem cdec_ok (b : List Int) (f t : Adr) (l : List Ctx) (now : Int) (hb : BL b) (hbl : b.length <= 140737488355328) (hl : bytesL l) : zY Tryz.prog 35 [(qf eB Zb).enc b,(cE ZF).enc f,(cE ZF).enc t,(qf zb zq).enc l,(cI .i64).enc now] (zB7 (zAU b f t l now)):=by
 obtain ⟨W,eW⟩ : ∃ W,zAU b f t l now = W:=⟨_,rfl⟩;rw [eW];obtain ⟨hH,hlo,hhi⟩:=zDc (f:=f) (t:=t) (now:=now) hb hbl hl;have hpay:=zAi b f t l now;obtain ⟨D,eD⟩ : ∃ D,Zr b f t l now = D:=⟨_,rfl⟩;rw [eD] at hH hlo hhi hpay;have e0 : b.length = 0 -> W = (pk0,4):=λh=>by rw [<- eW];exact if_pos h
 have e1 : ¬ b.length = 0 -> gB b 0 = 65 -> W = Qa (b.drop 1):=λh g=>by rw [<- eW];exact zD2 h g
 have e2 : ¬ b.length = 0 -> ¬ gB b 0 = 65 -> ¬ D.2 = 0 -> W = (pk0,D.2):=λh g i=>by rw [<- eW];exact zD3 h g eD i
 have e3 : ¬ b.length = 0 -> ¬ gB b 0 = 65 -> D.2 = 0 -> W = zA3 D.1.1.1 (b.drop D.1.2.toNat):=λh g i=>by rw [<- eW];exact zD4 h g eD i
 obtain ⟨R,eR⟩ : ∃ R,b.drop D.1.2.toNat = R:=⟨_,rfl⟩;have hR : BL R:=by rw [<- eR];exact hb.drop _
 have hRl : R.length = b.length - D.1.2.toNat:=by rw [<- eR];exact List.length_drop ..
 have hU:=udpD_w hR;have hn:=udpD_n hR;obtain ⟨U,eU⟩ : ∃ U,Qk R = U:=⟨_,rfl⟩;rw [eU] at hU hn;have rowR:=Yu b D.1.2.toNat (by omega);rw [eR] at rowR e3;obtain ⟨Z,eZ⟩ : ∃ Z,Qa (b.drop 1) = Z:=⟨_,rfl⟩;rw [eZ] at e1;have row1 : 1 <= b.length -> (Zw eB (b.length - 1) λi=>zn eB b (1 + i)) = b.drop 1:=λh=>Yu b 1 h;clear eW;obtain ⟨g1,g2,g3,g4⟩:=zg4;refine zG (wd:=1) (by decide) zM (zT LCd_ok) zN Tryz.func35 rfl _ (by show 5 <= _;decide) _ ?_;repeat' (first | (apply And.intro<;>intro hc<;>(first | exact Bool.noConfusion hc | (exfalso;first | exact absurd hc ‹_› | exact absurd ‹_› hc) | (simp only [Zi] at hc<;>first | exact absurd rfl hc | (exfalso;first | exact absurd hc ‹_› | exact absurd ‹_› hc) | skip) | skip)) | (refine And.intro Za ?_) | (apply And.intro) | (intro s hs;(first | (clear g1;have q : D = s:=(hs.trans ((congr (congr (congr (congrArg (λb x y l=>Zr b x y l now) (zx b)) (zt f)) (zt t)) (zU l)).trans eD)).symm;clear hs;subst q) | (clear g2;have q : Z = s:=(hs.trans ((congrArg Qa (row1 (by omega))).trans eZ)).symm;clear hs;subst q) | (clear g3;have q : U = s:=(hs.trans ((congrArg Qk rowR).trans eU)).symm;clear hs;subst q) | skip)))
 . rw [e0 (by omega)];exact zq3
 . show BL (Zw eB (b.length - 1) λi=>zn eB b (1 + i));rw [row1 (by omega)];exact hb.drop 1
 . show (Zw eB (b.length - 1) λi=>zn eB b (1 + i)).length <= _;rw [zS];omega
 . rw [e1 (by omega) ‹_›];refine Done.mk (zE ⟨zk rfl (λj hj=>?_) ?_,zA rfl,trivial⟩)
   . revert j;exact zt9
   . exact qh (λ_=>rfl) rfl rfl λi _ j _=>qd rfl
 . exact λ_=>rfl
 . exact λ_=>rfl
 . show BL (Zw eB b.length (zn eB b));rw [zx];exact hb
 . show (Zw eB b.length (zn eB b)).length <= _;rw [zx];exact hbl
 . show bytesL (Zw zb l.length (zn zb l));rw [zU];exact hl
 . rw [e2 (by omega) ‹_› ‹_›];exact zq3
 . show BL (Zw eB (b.length - D.1.2.toNat) λi=>zn eB b (D.1.2.toNat + i));rw [rowR];exact hR
 . show (Zw eB (b.length - D.1.2.toNat) λi=>zn eB b (D.1.2.toNat + i)).length <= _;rw [rowR];omega
 . rw [e3 (by omega) ‹_› ‹_›,zCC ‹_› eU ‹_›];exact zq3
 . obtain ⟨hn1,hn2⟩:=hn ‹_›;show (Zw eB (b.length - D.1.2.toNat - U.1.2.2.toNat) λi=>zn eB b (D.1.2.toNat + (U.1.2.2.toNat + i))).length <= _;rw [zS];omega
 . obtain ⟨hn1,hn2⟩:=hn ‹_›;have rowQ:=zEl b D.1.2.toNat U.1.2.2.toNat (by omega) (by omega);rw [eR] at rowQ;have q:=hs.trans (congrArg ZB (Zq (h:={ D.1.1.1 with sp:=U.1.1.1,dp:=U.1.1.2 }) (l:=R.drop U.1.2.2.toNat) (λj hj=>(by (iterate 38 (rcases j with _ | j;exact rfl));exact absurd hj (by omega))) rowQ));rw [e3 (by omega) ‹_› ‹_›,zFq ‹_› eU ‹_›,zFo (by rw [<- q];assumption)];exact zq3
 . obtain ⟨hn1,hn2⟩:=hn ‹_›;have rowQ:=zEl b D.1.2.toNat U.1.2.2.toNat (by omega) (by omega);rw [eR] at rowQ;refine Eq.mp (congrArg PkW (Zq (h:={ D.1.1.1 with sp:=U.1.1.1,dp:=U.1.1.2 }) (l:=R.drop U.1.2.2.toNat) (λj hj=>(by (iterate 38 (rcases j with _ | j;exact rfl));exact absurd hj (by omega))) rowQ).symm) ?_;exact zEr hH (hR.drop _) hU.1 hU.2.1
 . obtain ⟨hn1,hn2⟩:=hn ‹_›;show (Zw eB (b.length - D.1.2.toNat - U.1.2.2.toNat) λi=>zn eB b (D.1.2.toNat + (U.1.2.2.toNat + i))).length <= _;rw [zS];omega
 . obtain ⟨hn1,hn2⟩:=hn ‹_›;rename_i z hz hc1 hc2;have hy:=hs;have hc3:=hc;have rowQ:=zEl b D.1.2.toNat U.1.2.2.toNat (by omega) (by omega);rw [eR] at rowQ;have q:=hz.trans (congrArg ZB (Zq (h:={ D.1.1.1 with sp:=U.1.1.1,dp:=U.1.1.2 }) (l:=R.drop U.1.2.2.toNat) (λj hj=>(by (iterate 38 (rcases j with _ | j;exact rfl));exact absurd hj (by omega))) rowQ));have q2:=hy.trans (congrArg qZ (Zq (h:={ D.1.1.1 with sp:=U.1.1.1,dp:=U.1.1.2 }) (l:=R.drop U.1.2.2.toNat) (λj hj=>(by (iterate 38 (rcases j with _ | j;exact rfl));exact absurd hj (by omega))) rowQ));rw [e3 (by omega) ‹_› ‹_›,zFq ‹_› eU ‹_›,fin_6 (by rw [<- q];exact hc1) ‹_› (by rw [<- q2];exact hc3)];exact zq3
 . obtain ⟨hn1,hn2⟩:=hn ‹_›;rename_i z hz hc1 hc2;have hy:=hs;have hc3:=hc;have rowQ:=zEl b D.1.2.toNat U.1.2.2.toNat (by omega) (by omega);rw [eR] at rowQ;have q:=hz.trans (congrArg ZB (Zq (h:={ D.1.1.1 with sp:=U.1.1.1,dp:=U.1.1.2 }) (l:=R.drop U.1.2.2.toNat) (λj hj=>(by (iterate 38 (rcases j with _ | j;exact rfl));exact absurd hj (by omega))) rowQ));have q2:=hy.trans (congrArg qZ (Zq (h:={ D.1.1.1 with sp:=U.1.1.1,dp:=U.1.1.2 }) (l:=R.drop U.1.2.2.toNat) (λj hj=>(by (iterate 38 (rcases j with _ | j;exact rfl));exact absurd hj (by omega))) rowQ));rw [e3 (by omega) ‹_› ‹_›,zFq ‹_› eU ‹_›,zFp (by rw [<- q];exact hc1) (λ_=>by rw [<- q2];exact hc3),<- eR];refine Done.mk (zE ⟨zk rfl (λj hj=>?_) (zX (l:=(b.drop D.1.2.toNat).drop U.1.2.2.toNat) rfl rfl rfl ?_ ?_ ?_),zA rfl,trivial⟩)
   . revert j;exact zt9
   . rw [List.length_drop,List.length_drop];omega
   . show _ <= _;dsimp only;omega
   . dsimp only;refine isRow_odd ?_;exact YM (by omega) (by omega)
 . show (Zw eB (b.length - D.1.2.toNat) λi=>zn eB b (D.1.2.toNat + i)).length <= _;rw [rowR];omega
 . have q:=hs.trans (congrArg ZB (Zq (h:=D.1.1.1) (l:=R) (λj hj=>(by (iterate 38 (rcases j with _ | j;exact rfl));exact absurd hj (by omega))) rowR));rw [e3 (by omega) ‹_› ‹_›,restN ‹_›,zFo (by rw [<- q];assumption)];exact zq3
 . rename_i hc1 hc2;have hz:=hs;have q:=hz.trans (congrArg ZB (Zq (h:=D.1.1.1) (l:=R) (λj hj=>(by (iterate 38 (rcases j with _ | j;exact rfl));exact absurd hj (by omega))) rowR));rw [e3 (by omega) ‹_› ‹_›,restN ‹_›,zFp (by rw [<- q];exact hc1) (λh=>absurd h ‹_›),<- eR];refine Done.mk (zE ⟨zk rfl (λj hj=>?_) (zX (l:=b.drop D.1.2.toNat) rfl rfl rfl ?_ ?_ ?_),zA rfl,trivial⟩)
   . revert j;exact zt9
   . rw [List.length_drop];omega
   . show _ <= _;dsimp only;omega
   . dsimp only;refine isRow_od ?_;exact YM (by omega) (by omega)
def cSlT {α : Type} [Inhabited α] (E : Elem α) : Codec (List α) where
 enc l:=.e (.c (.sl true l.length E.sz (zn E l)))
 dec H x:=match x with
  | .e (.c (.sl true n s f))=>bif Nat.beq s E.sz then some (Zw E n f,some (∀ i,i < n -> E.ok (f i) = true),[]) else none
  | _=>none
 sound H H' x a p rd h hp hh:=by
  split at h
  . rename_i n s f;obtain ⟨hb,h⟩:=ZN h;injection h with h1 h2;injection h2 with h2 h3;subst h1 h2 h3;have hok : ∀ i,i < n -> E.ok (f i) = true:=hp;have hsE : s = E.sz:=Nat.eq_of_beq_eq_true hb;subst hsE;rintro cx r w v st ⟨a,cap,rfl,c1,c2⟩;show CV.rel (λ_=>none) (λb=>cx.X b \/ wr r H' b) (YU r H' []) w (.sl true (Zw E n f).length E.sz (zn E (Zw E n f))) (.slice a n cap);rw [zS];refine ⟨a,cap,rfl,c1,λh0=>?_⟩;obtain ⟨ad,rfl,hs,ho,hX,hlt,hc⟩:=c2 h0;refine ⟨ad,rfl,hs,λ⟨k,e,x,q1,q2,q3,_⟩=>ho ⟨k,e,x,q1,q2,q3⟩,λ_ h=>h.elim (hX rfl) ho,hlt,λi hi j hj=>?_⟩;obtain ⟨u,hu,hr⟩:=hc i hi j hj;refine ⟨u,hu,?_⟩;have key : zn E (Zw E n f) i j = f i j:=by
     unfold zn;rw [zGh hi];exact (E.ok_eq _ (hok i hi) j hj).symm
    rw [<- key] at hr;exact E.flat _ _ _ _ _ _ _ _ _ _ _ hr
  . cases h
structure TokD {α : Type} (E : Elem α) (a : α) (i n : Nat) (x : FV) : Prop where
 ex : ∃ g,x = .e (.agg (E.sz + 1) g) /\ (∀ j,j < E.sz -> g j = E.cell a j) /\ g E.sz = .os 0 i n
theorem callR_tok {P : Program} {T : Tys} {Q : Qs} {wi : Nat} (hwi : 0 < wi) (hT : qO P T) (hQ : zBR P Q) (hm : P.follows .mixedOrders = true) {f : FuncId} {fn : Func} {c : Code} (hf : P.funcs[f]? = some fn) (hb : fn.body = some c) (hnm : (fn.name == "runtime.NumGoroutine") = false)
 {pre : List FV} (hpre : ∀ x ∈ pre,∃ y,x = .e (.c y) /\ zA5 y) (hn : pre.length + 1 <= fn.ntmps) {α : Type} {E : Elem α} {a : α} {i n k : Nat} {H : Hp} {nm wd : Nat}
 (h : qo T Q wi fn.ntmps 1 c (Ya (pre ++ [.e (.c (.os 0 i n))]) 0) [] 1 (YQ T fn.results.toList λx _ _=>TokD E a i n x)) :
 zCd P f (pre ++ [.e (.c (.os k i n))]) H nm wd ⟨none,.e (.agg (E.sz + 1) (QH E a (.os k i n))),[],[]⟩:=by
 refine ⟨⟨fn,hf,by rw [hb];rfl,hnm⟩,λH' hh cx r w vals st hfr hw hrel=>?_⟩;have hG : GlobOk (λb=>False \/ (∃ y,r k = some y /\ y.b = b) \/ False) w:=zAf (gl_in st) λp _ h=>h.elim False.elim λh=>h.elim (λ⟨y,h1,h2⟩=>.inr (.inl ⟨k,y,h1,h2⟩)) False.elim;have r2 : ∀ j y,(if j = 0 then r k else none) = some y -> j = 0 /\ r k = some y:=λj y h=>by
  by_cases hj : j = 0
  . rw [if_pos hj] at h;exact ⟨hj,h⟩
  . rw [if_neg hj] at h;cases h
 refine (zCm (np:=1) (cx:=⟨w,λb=>∃ y,r k = some y /\ y.b = b,λ_=>False,λ_=>False,λj=>if j = 0 then r k else none⟩) (r:=λj=>if j = 0 then r k else none) (H0:=[]) hwi hT hQ hm hf hb (args:=pre ++ [.e (.c (.os 0 i n))]) (by rw [List.length_append];exact hn) h (λj b hj=>by have:=(r2 j b hj).1;omega)
  ⟨rfl,rfl,rfl,Nat.le_refl _,λ_ _ _=>rfl,⟨λb hb=>hb.elim,hG⟩,λj y hj=>?_,(λj e y he _=>by cases he),(λn m e1 e2 y z h=>by cases h),λj b hj=>hj,(λj e he=>by cases he)⟩ ⟨by rw [hrel.1,List.length_append,List.length_append];rfl,λq y u hy hu=>?_⟩ (λj hj=>⟨if_neg (by omega),rfl⟩)).mono λe w' he=>?_
 . obtain ⟨_,hk⟩:=r2 j y hj;exact ⟨(st.dom k y hk).1,.inr ⟨y,hk,rfl⟩,λh=>h⟩
 . by_cases hq : q < pre.length
   . rw [List.getElem?_append_left hq] at hy;obtain ⟨z,rfl,hz⟩:=hpre y (List.mem_of_getElem? hy);exact hz _ _ _ _ _ _ _ _ _ (hrel.2 q (.e (.c z)) u (by rw [List.getElem?_append_left hq];exact hy) hu : z.rel r cx.X (wr r H') w u)
   . have hq2 : q = pre.length:=by
      have:=(List.getElem?_eq_some_iff.1 hy).1;rw [List.length_append] at this;simp at this;omega
     subst hq2;rw [List.getElem?_append_right (Nat.le_refl _),Nat.sub_self] at hy;injection hy with hy;subst hy;obtain ⟨a,cap,rfl,h1,h2⟩:=hrel.2 pre.length (.e (.c (.os k i n))) u (by rw [List.getElem?_append_right (Nat.le_refl _),Nat.sub_self];rfl) hu;refine ⟨a,cap,rfl,h1,λh0=>?_⟩;obtain ⟨x,hx,h3⟩:=h2 h0;exact ⟨x,⟨(if_pos rfl).trans hx.1,hx.2⟩,h3⟩
 . obtain ⟨v,r',x,Hf,nf,rfl,⟨g,rfl,hg,hl⟩,st',hn',hx,hlow⟩:=he;have hbel : Below w.heap.size w w':=⟨st'.os,st'.tape,st'.output,st'.size,λb hb=>st'.kept b hb (λh=>h)⟩;obtain ⟨g1,g2⟩:=st.below hbel;refine ⟨v,rfl,r,g1,g2,λ_ _=>rfl,λk e he=>.inr ⟨e,he⟩,?_⟩;obtain ⟨cs,rfl,c1,c2⟩:=hx;refine ⟨cs,rfl,c1,λj u hu=>?_⟩;have hj : j < E.sz + 1:=by rw [<- c1];exact (Array.getElem?_eq_some_iff.1 hu).1
   have h3:=c2 j u hu;by_cases he : j = E.sz
   . subst he;rw [zCF];rw [hl] at h3;obtain ⟨a,cap,rfl,h1,h2⟩:=h3;refine ⟨a,cap,rfl,h1,λh0=>?_⟩;obtain ⟨x,hx,h4⟩:=h2 h0;exact ⟨x,⟨((hlow 0 (by omega)).symm.trans hx.1 : _),hx.2⟩,h4⟩
   . rw [YD (by omega)];rw [hg j (by omega)] at h3;exact E.flat _ _ _ _ _ _ _ _ _ _ _ h3
theorem loc_tok (s d : Int) (i n : Nat) : qo T (mkQ LRa) 1 Tryz.f27.ntmps 1 (Tryz.f27.body.getD Code.ret) (Ya ([(cI .u16).enc s,(cI .u16).enc d] ++ [.e (.c (.os 0 i n))]) 0) [] 1 (YQ T Tryz.f27.results.toList λx _ _=>TokD Yv (zCW s d []).1 i n x):=by
 have e1 : zCh k1 = (lX,true):=k_link1;have e2 : zCh k2 = (lY,true):=k_link2;unfold zCW;obtain ⟨X,eX⟩ : ∃ X,lX = X:=⟨_,rfl⟩;obtain ⟨Y,eY⟩ : ∃ X,lY = X:=⟨_,rfl⟩;rw [eX] at e1 ⊢;rw [eY] at e2 ⊢;have g1:=trivial;repeat' (first | (apply And.intro<;>intro hc<;>(first | exact Bool.noConfusion hc | (simp only [Zi] at hc<;>first | exact absurd rfl hc | skip) | skip)) | (refine And.intro Za ?_) | (apply And.intro) | (intro s hs;(first | (clear g1;have q : s = (X,true):=hs.trans e1;clear hs;subst q) | (have q : s = (Y,true):=hs.trans e2;clear hs;subst q))))
 refine ⟨⟨_,rfl,λj hj=>?_,rfl⟩⟩;iterate 38 (rcases j with _ | j;exact rfl)
 exact absurd hj (by show ¬ _ < 38;omega)
theorem local_ok (s d : Int) (b : List Int) : zY Tryz.prog 27 [(cI .u16).enc s,(cI .u16).enc d,(cSlT eB).enc b] (.e (zAk Yv eB (zCW s d b))):=by
 have e1 : zCh k1 = (lX,true):=k_link1;have e2 : zCh k2 = (lY,true):=k_link2;unfold zCW;obtain ⟨X,eX⟩ : ∃ X,lX = X:=⟨_,rfl⟩;obtain ⟨Y,eY⟩ : ∃ X,lY = X:=⟨_,rfl⟩;rw [eX] at e1 ⊢;rw [eY] at e2 ⊢;have g1:=trivial;refine zG (wd:=1) (by decide) zM (zT zHG) zN Tryz.func27 rfl _ (by show 3 <= _;decide) _ ?_;repeat' (first | (apply And.intro<;>intro hc<;>(first | exact Bool.noConfusion hc | (simp only [Zi] at hc<;>first | exact absurd rfl hc | skip) | skip)) | (refine And.intro Za ?_) | (apply And.intro) | (intro s hs;(first | (clear g1;have q : s = (X,true):=hs.trans e1;clear hs;subst q) | (have q : s = (Y,true):=hs.trans e2;clear hs;subst q))))
 refine Done.mk (ZS (zk rfl (λj hj=>?_) ?_))
 . revert j;exact zt9
 . exact qh (λ_=>rfl) rfl rfl λi _ j _=>qd rfl
def locE : ZD:=λargs H nm wd=>
 match args with
 | [.e (.c (.int .u16 s)),.e (.c (.int .u16 d)),.e (.c (.os k i n))]=>some λK=>K (.e (.agg (Yv.sz + 1) (QH Yv (zCW s d []).1 (.os k i n)))) [] []
 | _=>ZH (AC.cons (cI .u16) (AC.cons (cI .u16) (AC.cons (cSlT eB) AC.nil))) (λ_=>True) (λa=>zCW a.1 a.2.1 a.2.2.1) (λs=>.e (zAk Yv eB s)) args H nm wd
theorem locE_ok : EntOk Tryz.prog 27 locE:=by
 have h0:=zO (A:=AC.cons (cI .u16) (AC.cons (cI .u16) (AC.cons (cSlT eB) AC.nil))) (p:=λ_=>True) (F:=λa=>zCW a.1 a.2.1 a.2.2.1) (enc:=λs=>.e (zAk Yv eB s)) (P:=Tryz.prog) (f:=27) ⟨_,Tryz.func27,rfl,by kernel_rfl⟩ λa _=>local_ok a.1 a.2.1 a.2.2.1;refine ⟨λargs H nm wd q hwd hq K hK=>?_,λargs H nm wd q hq K K' hKK hK=>?_⟩
 . unfold locE at hq;split at hq
   . rename_i s d k i n;injection hq with hq;subst hq;refine ⟨_,_,_,callR_tok (by decide) zM (zT zHG) zN Tryz.func27 rfl rfl (pre:=[(cI .u16).enc s,(cI .u16).enc d]) (λx hx=>?_) (by show 2 + 1 <= _;decide) (E:=Yv) (a:=(zCW s d []).1) (loc_tok s d i n),hK⟩;rcases List.mem_cons.1 hx with rfl | hx
     . exact ⟨_,rfl,ZO⟩
     . obtain rfl:=List.mem_singleton.1 hx;exact ⟨_,rfl,ZO⟩
   . exact h0.ok args H nm wd q hwd hq K hK
 . unfold locE at hq;split at hq
   . injection hq with hq;subst hq;exact hKK _ _ _ hK
   . exact h0.mono args H nm wd q hq K K' hKK hK
abbrev cencE : ZD:=zBu (AC.cons cPk (AC.cons (cE ZF) (AC.cons (cE ZF) (AC.cons (qf zb zq) (AC.cons (cI .i64) AC.nil))))) (λa=>PkW a.1 /\ a.1.2.length <= 140737488355328 /\ bytesL a.2.2.2.1) (λa=>zAA a.1 a.2.1 a.2.2.1 a.2.2.2.1 a.2.2.2.2.1) (λs=>some s.1.length) (λs=>some [zB8 s.2]) (λs=>qD eB 5 s.1)
abbrev cplE : ZD:=zBu PA (λa=>PkW a.1 /\ a.1.2.length <= 140737488355328) (λa=>QQ a.1) (λs=>some s.1.length) (λs=>some [zB8 s.2]) (λs=>qD eB 5 s.1)
abbrev cdecE : ZD:=ZH (AC.cons (qf eB Zb) (AC.cons (cE ZF) (AC.cons (cE ZF) (AC.cons (qf zb zq) (AC.cons (cI .i64) AC.nil))))) (λa=>BL a.1 /\ a.1.length <= 140737488355328 /\ bytesL a.2.2.2.1) (λa=>zAU a.1 a.2.1 a.2.2.1 a.2.2.2.1 a.2.2.2.2.1) zB7
theorem cencE_ok : EntOk Tryz.prog 26 cencE:=QF ⟨_,Tryz.func26,rfl,by kernel_rfl⟩ (λs l h x hx=>by injection h with h;subst h;obtain rfl:=List.mem_singleton.1 hx;exact zC7 QS) λa h=>cenc_ok a.1 a.2.1 a.2.2.1 a.2.2.2.1 a.2.2.2.2.1 h.1 h.2.1 h.2.2
theorem cplE_ok : EntOk Tryz.prog 28 cplE:=QF ⟨_,Tryz.func28,rfl,by kernel_rfl⟩ (λs l h x hx=>by injection h with h;subst h;obtain rfl:=List.mem_singleton.1 hx;exact zC7 QS) λa h=>plain_ok a.1 h.1 h.2
theorem zHQ : EntOk Tryz.prog 35 cdecE:=zO ⟨_,Tryz.func35,rfl,by kernel_rfl⟩ λa h=>cdec_ok a.1 a.2.1 a.2.2.1 a.2.2.2.1 a.2.2.2.2.1 h.1 h.2.1 h.2.2
def LCo0 : Qb:=(26,some cencE) :: (28,some cplE) :: (35,some cdecE) :: (37,some rsameE) :: (25,some sizeE) :: (27,some locE) :: LIe
theorem LCo0_ok : ZC Tryz.prog LCo0:=⟨cencE_ok,cplE_ok,zHQ,(LRp_ok).1,zO ⟨_,Tryz.func25,rfl,by kernel_rfl⟩ λa h=>zFa a.1 h,locE_ok,LIe_ok⟩
theorem zEp {p p' : Zz} {a a' b b' : Adr} {l l' : List Ctx} {n : Int} (h1 : p' = p) (h2 : a' = a) (h3 : b' = b) (h4 : l' = l) : zAA p' a' b' l' n = zAA p a b l n:=by rw [h1,h2,h3,h4]
theorem zEq {b b' : List Int} {a a' c c' : Adr} {l l' : List Ctx} {n n' : Int} (h1 : b' = b) (h2 : a' = a) (h3 : c' = c) (h4 : l' = l) (h5 : n' = n) : zAU b' a' c' l' n' = zAU b a c l n:=by rw [h1,h2,h3,h4,h5]
theorem loc_known : ∃ x y : Int,zAA (zCW 61617 61618 [7]) k1 k2 [] 0 = ([126,51,243,18,x,y,7],0):=by
 have h:=locP_C (s:=61617) (d:=61618) (b:=[7]) (by decide) (by decide) (.cons (by decide) .nil) (by decide);rw [zAd] at h;exact ⟨_,_,h⟩
theorem zIF : zY Tryz.prog 9 [] (cB.enc true):=by
 obtain ⟨x,y,e3⟩:=loc_known;have hW:=(locP_m (s:=61617) (d:=61618) (b:=[7]) (by decide) (by decide) (.cons (by decide) .nil) (by decide)).w;refine zG (wd:=1) (by decide) zM (zT LCo0_ok) zN Tryz.func9 rfl _ (by show 0 <= _;decide) _ ?_;repeat' (first | (apply And.intro<;>intro hc<;>(first | exact Bool.noConfusion hc | (simp only [Zi] at hc<;>first | exact absurd rfl hc | skip) | skip)) | (refine And.intro Za ?_) | (apply And.intro) | (intro s hs;(have q : s = ([126,51,243,18,x,y,7],0):=hs.trans ((zEp (Zq (h:=(zCW 61617 61618 []).1) (l:=[7]) (λj hj=>YD hj) rfl) rfl rfl rfl).trans e3);clear hs;subst q)))
 all_goals first
  | exact rfl
  | exact Nat.le_of_ble_eq_true rfl
  | exact bytes_nil
  | exact Eq.mp (congrArg PkW (Zq (h:=(zCW 61617 61618 []).1) (l:=[7]) (λj hj=>YD hj) rfl).symm) hW
  | exact Done.mk (zC rfl)
  | skip
abbrev kn15E : ZD:=ZH AC.nil (λ_=>True) (λ_=>true) cB.enc
def LCo : Qb:=(9,some kn15E) :: LCo0
theorem LCo_ok : ZC Tryz.prog LCo:=⟨zO ⟨_,Tryz.func9,rfl,by kernel_rfl⟩ λ_ _=>zIF,LCo0_ok⟩
def LJ5 : Qb:=(52,some uniE) :: (53,some grpFE) :: (49,some (ZH chkA (λa=>bytesL a.2.2.1) (λa=>Zj a.1 a.2.1 a.2.2.1 a.2.2.2.1) (cI .i64).enc)) :: (50,some (ZH PA (λa=>0 <= a.1.1.flow /\ a.1.1.flow < 4294967296) (λa=>Zx a.1) zEH)) :: LJ1
theorem LJ5_ok : ZC Tryz.prog LJ5:=⟨zO ⟨_,Tryz.func52,rfl,by kernel_rfl⟩ λa h=>runi_ok a.1 a.2.1 a.2.2.1 a.2.2.2.1 a.2.2.2.2.1 h.1 h.2,zO ⟨_,Tryz.func53,rfl,by kernel_rfl⟩ λa _=>rgrp_ok a.1,zO ⟨_,Tryz.func49,rfl,by kernel_rfl⟩ λa h=>zGR a.1 a.2.1 a.2.2.1 a.2.2.2.1 h,zO ⟨_,Tryz.func50,rfl,by kernel_rfl⟩ λa h=>rflow_ok a.1 h,zFd⟩
theorem jflow_r (p : Zz) : 0 <= (Zx p).1 /\ (Zx p).1 <= 3:=by
 unfold Zx;split
 . exact ⟨(by decide : (0 : Int) <= 0),(by decide : (0 : Int) <= 3)⟩
 . split
   . exact ⟨(by decide : (0 : Int) <= 1),(by decide : (1 : Int) <= 3)⟩
   . split
     . exact ⟨(by decide : (0 : Int) <= 2),(by decide : (2 : Int) <= 3)⟩
     . exact ⟨(by decide : (0 : Int) <= 3),(by decide : (3 : Int) <= 3)⟩
theorem flow_l (p : Zz) : (Zx p).2.length <= 4:=by
 have h3:=zGI p.1.flow 3 (by decide);have h3' : (qk p.1.flow 3).length = 3:=h3;unfold Zx;split
 . simp [h3']
 . split
   . simp [h3']
   . split<;>simp
theorem hop_r (h : Int) : 0 <= zAB h /\ zAB h <= 3:=by
 unfold zAB;split<;>(try split)<;>(try split)<;>omega
theorem zEK {s d : Fm} (hs : FmW s) (hd : FmW d) (h : ¬ s.id = 0) : 16 * s.id + d.id ≠ 0:=by
 have:=hs.id;have:=hd.id;omega
theorem zEL {s d : Fm} (hs : FmW s) (hd : FmW d) (h0 : s.id = 0) (h : ¬ d.id = 0) : 16 * s.id + d.id ≠ 0:=by omega
theorem qx {x y z : Int} {k m : Nat} (hk : k < [y].length) (h : x = y) : CV.int .u8 (bif Nat.beq (0 + (m + k - m)) 0 then x else z) = .int .u8 ([y].getD k default):=by
 obtain rfl : k = 0:=(by have hk' : k < 1:=hk;omega);rw [show 0 + (m + 0 - m) = 0 by omega];exact congrArg (CV.int .u8) h
theorem Zt {y : Int} {k m : Nat} {c : CV} (hk : k < [y].length) : Zm (Nat.beq (0 + (m + k - m)) 0) (.int .u8 y) c = .int .u8 ([y].getD k default):=by
 obtain rfl : k = 0:=(by have hk' : k < 1:=hk;omega);rw [show 0 + (m + 0 - m) = 0 by omega];exact zBU _ _
theorem Zu {F H : Int} (n : Bool) (hF : 0 <= F /\ F <= 3) (hH : 0 <= H /\ H <= 3) : IntKind.u8.wrap (IntKind.i64.wrap (IntKind.i64.wrap (IntKind.i64.wrap (96 + IntKind.i64.wrap (8 * F)) + qL n 4) + H)) = 96 + 8 * F + qL n 4 + H:=by
 have:=Yx n 4 (by decide);rw [IntWalk.i64_in (8 * F) (by omega),IntWalk.i64_in (96 + 8 * F) (by omega),IntWalk.i64_in (96 + 8 * F + qL n 4) (by omega),IntWalk.i64_in _ (by omega),IntWalk.u8_in _ (by omega)]
theorem qQ {s d : Fm} (hs : FmW s) (hd : FmW d) (m b : Bool) (hb : decide (16 * s.id + d.id ≠ 0) = b) : IntKind.u8.wrap (IntKind.i64.wrap (IntKind.i64.wrap (IntKind.i64.wrap (IntKind.i64.wrap (IntKind.i64.wrap (qL b 128 + qL s.ctx 64) + IntKind.i64.wrap (16 * s.mode)) + qL m 8) + qL d.ctx 4) + d.mode)) = zAS s d m:=by
 have h1:=hs.mode;have h2:=hd.mode;unfold zAS;rw [hb];have b1:=Yx b 128 (by decide);have b2:=Yx s.ctx 64 (by decide);have b3:=Yx m 8 (by decide);have b4:=Yx d.ctx 4 (by decide);rw [IntWalk.i64_in (16 * s.mode) (by omega),IntWalk.i64_in (qL b 128 + qL s.ctx 64) (by omega),IntWalk.i64_in (qL b 128 + qL s.ctx 64 + 16 * s.mode) (by omega),IntWalk.i64_in (qL b 128 + qL s.ctx 64 + 16 * s.mode + qL m 8) (by omega),
  IntWalk.i64_in (qL b 128 + qL s.ctx 64 + 16 * s.mode + qL m 8 + qL d.ctx 4) (by omega),IntWalk.i64_in _ (by omega),IntWalk.u8_in _ (by omega)]
theorem ids_u8 {s d : Fm} (hs : FmW s) (hd : FmW d) : IntKind.u8.wrap (IntKind.i64.wrap (IntKind.i64.wrap (16 * s.id) + d.id)) = 16 * s.id + d.id:=by
 have h1:=hs.id;have h2:=hd.id;rw [zHD hs hd];exact u8_id (by omega)
theorem YY {s d : Fm} (h0 : s.id = 0) : decide (16 * s.id + d.id ≠ 0) = (d.id != 0):=by
 rw [show 16 * s.id + d.id = d.id by omega];by_cases h : d.id = 0<;>simp [h]
theorem renc_true (p : Zz) (f t : Adr) (l : List Ctx) (now : Int) (hp : PkW p) (hpl : p.2.length <= 140737488355328) (hl : bytesL l) (hm : ZP p.1.dst = true) : ql Tryz.prog 30 [cPk.enc p,(cE ZF).enc f,(cE ZF).enc t,(qf zb zq).enc l,(cI .i64).enc now] (some (qt p f t l now).1.length) (some [zB8 (qt p f t l now).2]) (qD eB 5 (qt p f t l now).1):=by
 obtain ⟨W,eW⟩ : ∃ W,qt p f t l now = W:=⟨_,rfl⟩;rw [eW];unfold qt zCf Qi zA1 at eW;have wU:=zEF p.1.src f true l now;have sl1:=zBA p.1.src f true l now;have hFl:=jflow_r p;have hHp:=hop_r p.1.hops;have slF:=flow_l p;have wX:=grp_w p.1.dst;have sl2:=(zGx p.1.dst).1;have eDst : zCt p t l now = zBH p.1.dst:=by unfold zCt;rw [if_pos hm]
 obtain ⟨G,eG⟩ : ∃ x,zBH p.1.dst = x:=⟨_,rfl⟩;obtain ⟨V,eV⟩ : ∃ x,zj p = x:=⟨_,rfl⟩;obtain ⟨Ck,eC⟩ : ∃ x,Zj f t l now = x:=⟨_,rfl⟩;obtain ⟨Fl,eF⟩ : ∃ x,Zx p = x:=⟨_,rfl⟩;obtain ⟨Hp,eH⟩ : ∃ x,zAB p.1.hops = x:=⟨_,rfl⟩;obtain ⟨U,eU⟩ : ∃ x,QZ p.1.src f true l now = x:=⟨_,rfl⟩;rw [eG] at eDst wX sl2;rw [eV,eC,eF,eH,eU,eDst,hm] at eW;rw [eU] at wU sl1;rw [eF] at hFl slF;rw [eH] at hHp;have hb1 : byteOk p.1.src:=⟨λq=>by have:=hp.src q.1;rw [ZV _ q.2] at this;exact this⟩;have hb2 : byteOk p.1.dst:=⟨λq=>by have:=hp.dst q.1;rw [ZV _ q.2] at this;exact this⟩;have e1 : V = false -> W = ([],1):=λh=>by rw [<- eW,if_pos h]
 have e2 : V = true -> ¬ Ck = 0 -> W = ([],Ck):=λh g=>by rw [<- eW,if_neg (by rw [h];decide),if_pos g]
 have e3_000 : V = true -> Ck = 0 -> 16 * U.1.id + G.1.id = 0 -> ¬ p.1.nxt = 17 -> ¬ Hp = 0 -> W = ([96 + 8 * Fl.1 + qL (decide (p.1.nxt = 17)) 4 + Hp,zAS U.1 G.1 true] ++ Fl.2 ++ [p.1.nxt] ++ U.2 ++ G.2,0):=λh g i n k=>by rw [<- eW,if_neg (by rw [h];decide),if_neg (λx=>x g),if_neg (λx=>x i),if_neg n,if_neg k];simp only [List.append_assoc,List.nil_append,List.append_nil]
 have e3_001 : V = true -> Ck = 0 -> 16 * U.1.id + G.1.id = 0 -> ¬ p.1.nxt = 17 -> Hp = 0 -> W = ([96 + 8 * Fl.1 + qL (decide (p.1.nxt = 17)) 4 + Hp,zAS U.1 G.1 true] ++ Fl.2 ++ [p.1.nxt] ++ [p.1.hops] ++ U.2 ++ G.2,0):=λh g i n k=>by rw [<- eW,if_neg (by rw [h];decide),if_neg (λx=>x g),if_neg (λx=>x i),if_neg n,if_pos k];simp only [List.append_assoc,List.nil_append,List.append_nil]
 have e3_010 : V = true -> Ck = 0 -> 16 * U.1.id + G.1.id = 0 -> p.1.nxt = 17 -> ¬ Hp = 0 -> W = ([96 + 8 * Fl.1 + qL (decide (p.1.nxt = 17)) 4 + Hp,zAS U.1 G.1 true] ++ Fl.2 ++ U.2 ++ G.2,0):=λh g i n k=>by rw [<- eW,if_neg (by rw [h];decide),if_neg (λx=>x g),if_neg (λx=>x i),if_pos n,if_neg k];simp only [List.append_assoc,List.nil_append,List.append_nil]
 have e3_011 : V = true -> Ck = 0 -> 16 * U.1.id + G.1.id = 0 -> p.1.nxt = 17 -> Hp = 0 -> W = ([96 + 8 * Fl.1 + qL (decide (p.1.nxt = 17)) 4 + Hp,zAS U.1 G.1 true] ++ Fl.2 ++ [p.1.hops] ++ U.2 ++ G.2,0):=λh g i n k=>by rw [<- eW,if_neg (by rw [h];decide),if_neg (λx=>x g),if_neg (λx=>x i),if_pos n,if_pos k];simp only [List.append_assoc,List.nil_append,List.append_nil]
 have e3_100 : V = true -> Ck = 0 -> 16 * U.1.id + G.1.id ≠ 0 -> ¬ p.1.nxt = 17 -> ¬ Hp = 0 -> W = ([96 + 8 * Fl.1 + qL (decide (p.1.nxt = 17)) 4 + Hp,zAS U.1 G.1 true] ++ [16 * U.1.id + G.1.id] ++ Fl.2 ++ [p.1.nxt] ++ U.2 ++ G.2,0):=λh g i n k=>by rw [<- eW,if_neg (by rw [h];decide),if_neg (λx=>x g),if_pos i,if_neg n,if_neg k];simp only [List.append_assoc,List.nil_append,List.append_nil]
 have e3_101 : V = true -> Ck = 0 -> 16 * U.1.id + G.1.id ≠ 0 -> ¬ p.1.nxt = 17 -> Hp = 0 -> W = ([96 + 8 * Fl.1 + qL (decide (p.1.nxt = 17)) 4 + Hp,zAS U.1 G.1 true] ++ [16 * U.1.id + G.1.id] ++ Fl.2 ++ [p.1.nxt] ++ [p.1.hops] ++ U.2 ++ G.2,0):=λh g i n k=>by rw [<- eW,if_neg (by rw [h];decide),if_neg (λx=>x g),if_pos i,if_neg n,if_pos k];simp only [List.append_assoc,List.nil_append,List.append_nil]
 have e3_110 : V = true -> Ck = 0 -> 16 * U.1.id + G.1.id ≠ 0 -> p.1.nxt = 17 -> ¬ Hp = 0 -> W = ([96 + 8 * Fl.1 + qL (decide (p.1.nxt = 17)) 4 + Hp,zAS U.1 G.1 true] ++ [16 * U.1.id + G.1.id] ++ Fl.2 ++ U.2 ++ G.2,0):=λh g i n k=>by rw [<- eW,if_neg (by rw [h];decide),if_neg (λx=>x g),if_pos i,if_pos n,if_neg k];simp only [List.append_assoc,List.nil_append,List.append_nil]
 have e3_111 : V = true -> Ck = 0 -> 16 * U.1.id + G.1.id ≠ 0 -> p.1.nxt = 17 -> Hp = 0 -> W = ([96 + 8 * Fl.1 + qL (decide (p.1.nxt = 17)) 4 + Hp,zAS U.1 G.1 true] ++ [16 * U.1.id + G.1.id] ++ Fl.2 ++ [p.1.hops] ++ U.2 ++ G.2,0):=λh g i n k=>by rw [<- eW,if_neg (by rw [h];decide),if_neg (λx=>x g),if_pos i,if_pos n,if_pos k];simp only [List.append_assoc,List.nil_append,List.append_nil]
 have eI8:=ids_u8 wU wX;have eF':=eF;have eH':=eH;have eF':=eF;have eH':=eH;clear eW eDst eF eH;obtain ⟨g1,g2⟩:=zg2;refine ZR (wd:=1) (by decide) zM (zT LJ5_ok) zN Tryz.func30 rfl _ (by show 5 <= _;decide) (λi _ j _=>qU eB _ i j) ?_;repeat' (first | (apply And.intro<;>intro hc<;>(first | exact Bool.noConfusion hc | (exfalso;first | exact Bool.noConfusion hc) | (simp only [Zi] at hc<;>first | exact absurd rfl hc | (exfalso;first | exact Bool.noConfusion hc) | skip) | skip)) | (refine And.intro Za ?_) | (apply And.intro) | (intro s hs;(first | (have q : V = s:=(hs.trans ((congrArg zj (ZX p _)).trans eV)).symm;clear hs;subst q) | (have q : Ck = s:=(hs.trans ((congr (congr (congrArg (λa b c=>Zj a b c now) (zt f)) (zt t)) (zU l)).trans eC)).symm;clear hs;subst q) | (clear g2;have q : Fl = s:=(hs.trans ((congrArg Zx (ZX p _)).trans eF')).symm;clear hs;subst q) | (have q : Hp = s:=(hs.trans eH').symm;clear hs;subst q) | (clear g1;have q : U = s:=(hs.trans ((congr (congr (congrArg (λa b c=>QZ a b true c now) (zAx p.1 _)) (zt f)) (zU l)).trans eU)).symm;clear hs;subst q) | (have q : s = true:=hs.trans ((congrArg ZP (zAM p.1 _)).trans hm);clear hs;subst q) | (have q : G = s:=(hs.trans ((congrArg zBH (zAM p.1 _)).trans eG)).symm;clear hs;subst q) | (have q:=hs;dsimp only at q;clear hs;subst q) | skip)))
 all_goals first
  | (show (Zw eB p.2.length _).length <= _;rw [zS];exact hpl)
  | ((first | rw [e1 ‹_›] | rw [e2 ‹_› ‹_›])
     exact ⟨⟨none,zE ⟨qN rfl,zA rfl,trivial⟩,rfl,rfl,(by show 0 < 1;omega)⟩⟩)
  | exact Eq.mp (congrArg PkW (ZX p _).symm) hp
  | exact Eq.mp (congrArg (λp : Zz=>0 <= p.1.flow) (ZX p _).symm) hp.flow.1
  | exact Eq.mp (congrArg (λp : Zz=>p.1.flow < 4294967296) (ZX p _).symm) hp.flow.2
  | exact Eq.mp (congrArg byteOk (zAx p.1 _).symm) hb1
  | exact Eq.mp (congrArg byteOk (zAM p.1 _).symm) hb2
  | exact Eq.mp (congrArg bytesL (zU l).symm) hl
  | omega
  | skip
 all_goals first
  | (have hne:=(show 16 * U.1.id + G.1.id = 0 by rw [show U.1.id = 0 by assumption,show G.1.id = 0 by assumption];rfl)
     have e:=e3_000 ‹_› ‹_› hne ‹_› ‹_›;have hid : decide (16 * U.1.id + G.1.id ≠ 0) = (G.1.id != 0):=YY ‹_›;rw [e];refine ⟨⟨some _,zE ⟨zy rfl ?_,zA rfl,trivial⟩,Zg ?_ (zD ?_ (zD ?_ (zD ?_ (zD rfl (qB (congrArg (CV.int .u8) (Zu _ hFl hHp)) (congrArg (CV.int .u8) (qQ wU wX true (G.1.id != 0) hid))) (λk hk=>zV (by omega))) (λk hk=>Zt hk)) (λk hk=>zV (by omega))) (λk hk=>zV (by omega)))⟩⟩;all_goals first
      | (simp only [List.length_append,List.length_cons,List.length_nil];done)
      | rfl
      | skip)
  | (have hne:=(show 16 * U.1.id + G.1.id = 0 by rw [show U.1.id = 0 by assumption,show G.1.id = 0 by assumption];rfl)
     have e:=e3_001 ‹_› ‹_› hne ‹_› ‹_›;have hid : decide (16 * U.1.id + G.1.id ≠ 0) = (G.1.id != 0):=YY ‹_›;rw [e];refine ⟨⟨some _,zE ⟨zy rfl ?_,zA rfl,trivial⟩,Zg ?_ (zD ?_ (zD ?_ (zD ?_ (zD ?_ (zD rfl (qB (congrArg (CV.int .u8) (Zu _ hFl hHp)) (congrArg (CV.int .u8) (qQ wU wX true (G.1.id != 0) hid))) (λk hk=>zV (by omega))) (λk hk=>Zt hk)) (λk hk=>Zt hk)) (λk hk=>zV (by omega))) (λk hk=>zV (by omega)))⟩⟩;all_goals first
      | (simp only [List.length_append,List.length_cons,List.length_nil];done)
      | rfl
      | skip)
  | (have hne:=(show 16 * U.1.id + G.1.id = 0 by rw [show U.1.id = 0 by assumption,show G.1.id = 0 by assumption];rfl)
     have e:=e3_010 ‹_› ‹_› hne ‹_› ‹_›;have hid : decide (16 * U.1.id + G.1.id ≠ 0) = (G.1.id != 0):=YY ‹_›;rw [e];refine ⟨⟨some _,zE ⟨zy rfl ?_,zA rfl,trivial⟩,Zg ?_ (zD ?_ (zD ?_ (zD rfl (qB (congrArg (CV.int .u8) (Zu _ hFl hHp)) (congrArg (CV.int .u8) (qQ wU wX true (G.1.id != 0) hid))) (λk hk=>zV (by omega))) (λk hk=>zV (by omega))) (λk hk=>zV (by omega)))⟩⟩;all_goals first
      | (simp only [List.length_append,List.length_cons,List.length_nil];done)
      | rfl
      | skip)
  | (have hne:=(show 16 * U.1.id + G.1.id = 0 by rw [show U.1.id = 0 by assumption,show G.1.id = 0 by assumption];rfl)
     have e:=e3_011 ‹_› ‹_› hne ‹_› ‹_›;have hid : decide (16 * U.1.id + G.1.id ≠ 0) = (G.1.id != 0):=YY ‹_›;rw [e];refine ⟨⟨some _,zE ⟨zy rfl ?_,zA rfl,trivial⟩,Zg ?_ (zD ?_ (zD ?_ (zD ?_ (zD rfl (qB (congrArg (CV.int .u8) (Zu _ hFl hHp)) (congrArg (CV.int .u8) (qQ wU wX true (G.1.id != 0) hid))) (λk hk=>zV (by omega))) (λk hk=>Zt hk)) (λk hk=>zV (by omega))) (λk hk=>zV (by omega)))⟩⟩;all_goals first
      | (simp only [List.length_append,List.length_cons,List.length_nil];done)
      | rfl
      | skip)
  | (have hne:=(zEK wU wX ‹_›)
     have e:=e3_100 ‹_› ‹_› hne ‹_› ‹_›;have hid : decide (16 * U.1.id + G.1.id ≠ 0) = true:=decide_eq_true hne;rw [e];refine ⟨⟨some _,zE ⟨zy rfl ?_,zA rfl,trivial⟩,Zg ?_ (zD ?_ (zD ?_ (zD ?_ (zD ?_ (zD rfl (qB (congrArg (CV.int .u8) (Zu _ hFl hHp)) (congrArg (CV.int .u8) (qQ wU wX true true hid))) (λk hk=>qx hk eI8)) (λk hk=>zV (by omega))) (λk hk=>Zt hk)) (λk hk=>zV (by omega))) (λk hk=>zV (by omega)))⟩⟩;all_goals first
      | (simp only [List.length_append,List.length_cons,List.length_nil];done)
      | rfl
      | skip)
  | (have hne:=(zEL wU wX ‹_› ‹_›)
     have e:=e3_100 ‹_› ‹_› hne ‹_› ‹_›;have hid : decide (16 * U.1.id + G.1.id ≠ 0) = (G.1.id != 0):=YY ‹_›;rw [e];refine ⟨⟨some _,zE ⟨zy rfl ?_,zA rfl,trivial⟩,Zg ?_ (zD ?_ (zD ?_ (zD ?_ (zD ?_ (zD rfl (qB (congrArg (CV.int .u8) (Zu _ hFl hHp)) (congrArg (CV.int .u8) (qQ wU wX true (G.1.id != 0) hid))) (λk hk=>qx hk eI8)) (λk hk=>zV (by omega))) (λk hk=>Zt hk)) (λk hk=>zV (by omega))) (λk hk=>zV (by omega)))⟩⟩;all_goals first
      | (simp only [List.length_append,List.length_cons,List.length_nil];done)
      | rfl
      | skip)
  | (have hne:=(zEK wU wX ‹_›)
     have e:=e3_101 ‹_› ‹_› hne ‹_› ‹_›;have hid : decide (16 * U.1.id + G.1.id ≠ 0) = true:=decide_eq_true hne;rw [e];refine ⟨⟨some _,zE ⟨zy rfl ?_,zA rfl,trivial⟩,Zg ?_ (zD ?_ (zD ?_ (zD ?_ (zD ?_ (zD ?_ (zD rfl (qB (congrArg (CV.int .u8) (Zu _ hFl hHp)) (congrArg (CV.int .u8) (qQ wU wX true true hid))) (λk hk=>qx hk eI8)) (λk hk=>zV (by omega))) (λk hk=>Zt hk)) (λk hk=>Zt hk)) (λk hk=>zV (by omega))) (λk hk=>zV (by omega)))⟩⟩;all_goals first
      | (simp only [List.length_append,List.length_cons,List.length_nil];done)
      | rfl
      | skip)
  | (have hne:=(zEL wU wX ‹_› ‹_›)
     have e:=e3_101 ‹_› ‹_› hne ‹_› ‹_›;have hid : decide (16 * U.1.id + G.1.id ≠ 0) = (G.1.id != 0):=YY ‹_›;rw [e];refine ⟨⟨some _,zE ⟨zy rfl ?_,zA rfl,trivial⟩,Zg ?_ (zD ?_ (zD ?_ (zD ?_ (zD ?_ (zD ?_ (zD rfl (qB (congrArg (CV.int .u8) (Zu _ hFl hHp)) (congrArg (CV.int .u8) (qQ wU wX true (G.1.id != 0) hid))) (λk hk=>qx hk eI8)) (λk hk=>zV (by omega))) (λk hk=>Zt hk)) (λk hk=>Zt hk)) (λk hk=>zV (by omega))) (λk hk=>zV (by omega)))⟩⟩;all_goals first
      | (simp only [List.length_append,List.length_cons,List.length_nil];done)
      | rfl
      | skip)
  | (have hne:=(zEK wU wX ‹_›)
     have e:=e3_110 ‹_› ‹_› hne ‹_› ‹_›;have hid : decide (16 * U.1.id + G.1.id ≠ 0) = true:=decide_eq_true hne;rw [e];refine ⟨⟨some _,zE ⟨zy rfl ?_,zA rfl,trivial⟩,Zg ?_ (zD ?_ (zD ?_ (zD ?_ (zD rfl (qB (congrArg (CV.int .u8) (Zu _ hFl hHp)) (congrArg (CV.int .u8) (qQ wU wX true true hid))) (λk hk=>qx hk eI8)) (λk hk=>zV (by omega))) (λk hk=>zV (by omega))) (λk hk=>zV (by omega)))⟩⟩;all_goals first
      | (simp only [List.length_append,List.length_cons,List.length_nil];done)
      | rfl
      | skip)
  | (have hne:=(zEL wU wX ‹_› ‹_›)
     have e:=e3_110 ‹_› ‹_› hne ‹_› ‹_›;have hid : decide (16 * U.1.id + G.1.id ≠ 0) = (G.1.id != 0):=YY ‹_›;rw [e];refine ⟨⟨some _,zE ⟨zy rfl ?_,zA rfl,trivial⟩,Zg ?_ (zD ?_ (zD ?_ (zD ?_ (zD rfl (qB (congrArg (CV.int .u8) (Zu _ hFl hHp)) (congrArg (CV.int .u8) (qQ wU wX true (G.1.id != 0) hid))) (λk hk=>qx hk eI8)) (λk hk=>zV (by omega))) (λk hk=>zV (by omega))) (λk hk=>zV (by omega)))⟩⟩;all_goals first
      | (simp only [List.length_append,List.length_cons,List.length_nil];done)
      | rfl
      | skip)
  | (have hne:=(zEK wU wX ‹_›)
     have e:=e3_111 ‹_› ‹_› hne ‹_› ‹_›;have hid : decide (16 * U.1.id + G.1.id ≠ 0) = true:=decide_eq_true hne;rw [e];refine ⟨⟨some _,zE ⟨zy rfl ?_,zA rfl,trivial⟩,Zg ?_ (zD ?_ (zD ?_ (zD ?_ (zD ?_ (zD rfl (qB (congrArg (CV.int .u8) (Zu _ hFl hHp)) (congrArg (CV.int .u8) (qQ wU wX true true hid))) (λk hk=>qx hk eI8)) (λk hk=>zV (by omega))) (λk hk=>Zt hk)) (λk hk=>zV (by omega))) (λk hk=>zV (by omega)))⟩⟩;all_goals first
      | (simp only [List.length_append,List.length_cons,List.length_nil];done)
      | rfl
      | skip)
  | (have hne:=(zEL wU wX ‹_› ‹_›)
     have e:=e3_111 ‹_› ‹_› hne ‹_› ‹_›;have hid : decide (16 * U.1.id + G.1.id ≠ 0) = (G.1.id != 0):=YY ‹_›;rw [e];refine ⟨⟨some _,zE ⟨zy rfl ?_,zA rfl,trivial⟩,Zg ?_ (zD ?_ (zD ?_ (zD ?_ (zD ?_ (zD rfl (qB (congrArg (CV.int .u8) (Zu _ hFl hHp)) (congrArg (CV.int .u8) (qQ wU wX true (G.1.id != 0) hid))) (λk hk=>qx hk eI8)) (λk hk=>zV (by omega))) (λk hk=>Zt hk)) (λk hk=>zV (by omega))) (λk hk=>zV (by omega)))⟩⟩;all_goals first
      | (simp only [List.length_append,List.length_cons,List.length_nil];done)
      | rfl
      | skip)
  | skip
theorem zJD (p : Zz) (f t : Adr) (l : List Ctx) (now : Int) (hp : PkW p) (hpl : p.2.length <= 140737488355328) (hl : bytesL l) (hm : ZP p.1.dst = false) : ql Tryz.prog 30 [cPk.enc p,(cE ZF).enc f,(cE ZF).enc t,(qf zb zq).enc l,(cI .i64).enc now] (some (qt p f t l now).1.length) (some [zB8 (qt p f t l now).2]) (qD eB 5 (qt p f t l now).1):=by
 obtain ⟨W,eW⟩ : ∃ W,qt p f t l now = W:=⟨_,rfl⟩;rw [eW];unfold qt zCf Qi zA1 at eW;have wU:=zEF p.1.src f true l now;have sl1:=zBA p.1.src f true l now;have hFl:=jflow_r p;have hHp:=hop_r p.1.hops;have slF:=flow_l p;have wX:=zEF p.1.dst t false l now;have sl2:=zBA p.1.dst t false l now;have eDst : zCt p t l now = QZ p.1.dst t false l now:=by unfold zCt;rw [if_neg (by rw [hm];decide)]
 obtain ⟨D,eG⟩ : ∃ x,QZ p.1.dst t false l now = x:=⟨_,rfl⟩;obtain ⟨V,eV⟩ : ∃ x,zj p = x:=⟨_,rfl⟩;obtain ⟨Ck,eC⟩ : ∃ x,Zj f t l now = x:=⟨_,rfl⟩;obtain ⟨Fl,eF⟩ : ∃ x,Zx p = x:=⟨_,rfl⟩;obtain ⟨Hp,eH⟩ : ∃ x,zAB p.1.hops = x:=⟨_,rfl⟩;obtain ⟨U,eU⟩ : ∃ x,QZ p.1.src f true l now = x:=⟨_,rfl⟩;rw [eG] at eDst wX sl2;rw [eV,eC,eF,eH,eU,eDst,hm] at eW;rw [eU] at wU sl1;rw [eF] at hFl slF;rw [eH] at hHp;have hb1 : byteOk p.1.src:=⟨λq=>by have:=hp.src q.1;rw [ZV _ q.2] at this;exact this⟩;have hb2 : byteOk p.1.dst:=⟨λq=>by have:=hp.dst q.1;rw [ZV _ q.2] at this;exact this⟩;have e1 : V = false -> W = ([],1):=λh=>by rw [<- eW,if_pos h]
 have e2 : V = true -> ¬ Ck = 0 -> W = ([],Ck):=λh g=>by rw [<- eW,if_neg (by rw [h];decide),if_pos g]
 have e3_000 : V = true -> Ck = 0 -> 16 * U.1.id + D.1.id = 0 -> ¬ p.1.nxt = 17 -> ¬ Hp = 0 -> W = ([96 + 8 * Fl.1 + qL (decide (p.1.nxt = 17)) 4 + Hp,zAS U.1 D.1 false] ++ Fl.2 ++ [p.1.nxt] ++ U.2 ++ D.2,0):=λh g i n k=>by rw [<- eW,if_neg (by rw [h];decide),if_neg (λx=>x g),if_neg (λx=>x i),if_neg n,if_neg k];simp only [List.append_assoc,List.nil_append,List.append_nil]
 have e3_001 : V = true -> Ck = 0 -> 16 * U.1.id + D.1.id = 0 -> ¬ p.1.nxt = 17 -> Hp = 0 -> W = ([96 + 8 * Fl.1 + qL (decide (p.1.nxt = 17)) 4 + Hp,zAS U.1 D.1 false] ++ Fl.2 ++ [p.1.nxt] ++ [p.1.hops] ++ U.2 ++ D.2,0):=λh g i n k=>by rw [<- eW,if_neg (by rw [h];decide),if_neg (λx=>x g),if_neg (λx=>x i),if_neg n,if_pos k];simp only [List.append_assoc,List.nil_append,List.append_nil]
 have e3_010 : V = true -> Ck = 0 -> 16 * U.1.id + D.1.id = 0 -> p.1.nxt = 17 -> ¬ Hp = 0 -> W = ([96 + 8 * Fl.1 + qL (decide (p.1.nxt = 17)) 4 + Hp,zAS U.1 D.1 false] ++ Fl.2 ++ U.2 ++ D.2,0):=λh g i n k=>by rw [<- eW,if_neg (by rw [h];decide),if_neg (λx=>x g),if_neg (λx=>x i),if_pos n,if_neg k];simp only [List.append_assoc,List.nil_append,List.append_nil]
 have e3_011 : V = true -> Ck = 0 -> 16 * U.1.id + D.1.id = 0 -> p.1.nxt = 17 -> Hp = 0 -> W = ([96 + 8 * Fl.1 + qL (decide (p.1.nxt = 17)) 4 + Hp,zAS U.1 D.1 false] ++ Fl.2 ++ [p.1.hops] ++ U.2 ++ D.2,0):=λh g i n k=>by rw [<- eW,if_neg (by rw [h];decide),if_neg (λx=>x g),if_neg (λx=>x i),if_pos n,if_pos k];simp only [List.append_assoc,List.nil_append,List.append_nil]
 have e3_100 : V = true -> Ck = 0 -> 16 * U.1.id + D.1.id ≠ 0 -> ¬ p.1.nxt = 17 -> ¬ Hp = 0 -> W = ([96 + 8 * Fl.1 + qL (decide (p.1.nxt = 17)) 4 + Hp,zAS U.1 D.1 false] ++ [16 * U.1.id + D.1.id] ++ Fl.2 ++ [p.1.nxt] ++ U.2 ++ D.2,0):=λh g i n k=>by rw [<- eW,if_neg (by rw [h];decide),if_neg (λx=>x g),if_pos i,if_neg n,if_neg k];simp only [List.append_assoc,List.nil_append,List.append_nil]
 have e3_101 : V = true -> Ck = 0 -> 16 * U.1.id + D.1.id ≠ 0 -> ¬ p.1.nxt = 17 -> Hp = 0 -> W = ([96 + 8 * Fl.1 + qL (decide (p.1.nxt = 17)) 4 + Hp,zAS U.1 D.1 false] ++ [16 * U.1.id + D.1.id] ++ Fl.2 ++ [p.1.nxt] ++ [p.1.hops] ++ U.2 ++ D.2,0):=λh g i n k=>by rw [<- eW,if_neg (by rw [h];decide),if_neg (λx=>x g),if_pos i,if_neg n,if_pos k];simp only [List.append_assoc,List.nil_append,List.append_nil]
 have e3_110 : V = true -> Ck = 0 -> 16 * U.1.id + D.1.id ≠ 0 -> p.1.nxt = 17 -> ¬ Hp = 0 -> W = ([96 + 8 * Fl.1 + qL (decide (p.1.nxt = 17)) 4 + Hp,zAS U.1 D.1 false] ++ [16 * U.1.id + D.1.id] ++ Fl.2 ++ U.2 ++ D.2,0):=λh g i n k=>by rw [<- eW,if_neg (by rw [h];decide),if_neg (λx=>x g),if_pos i,if_pos n,if_neg k];simp only [List.append_assoc,List.nil_append,List.append_nil]
 have e3_111 : V = true -> Ck = 0 -> 16 * U.1.id + D.1.id ≠ 0 -> p.1.nxt = 17 -> Hp = 0 -> W = ([96 + 8 * Fl.1 + qL (decide (p.1.nxt = 17)) 4 + Hp,zAS U.1 D.1 false] ++ [16 * U.1.id + D.1.id] ++ Fl.2 ++ [p.1.hops] ++ U.2 ++ D.2,0):=λh g i n k=>by rw [<- eW,if_neg (by rw [h];decide),if_neg (λx=>x g),if_pos i,if_pos n,if_pos k];simp only [List.append_assoc,List.nil_append,List.append_nil]
 have eI8:=ids_u8 wU wX;have eF':=eF;have eH':=eH;clear eW eDst eF eH;obtain ⟨g1,g2⟩:=zg2;refine ZR (wd:=1) (by decide) zM (zT LJ5_ok) zN Tryz.func30 rfl _ (by show 5 <= _;decide) (λi _ j _=>qU eB _ i j) ?_;repeat' (first | (apply And.intro<;>intro hc<;>(first | exact Bool.noConfusion hc | (exfalso;first | exact Bool.noConfusion hc) | (simp only [Zi] at hc<;>first | exact absurd rfl hc | (exfalso;first | exact Bool.noConfusion hc) | skip) | skip)) | (refine And.intro Za ?_) | (apply And.intro) | (intro s hs;(first | (have q : V = s:=(hs.trans ((congrArg zj (ZX p _)).trans eV)).symm;clear hs;subst q) | (have q : Ck = s:=(hs.trans ((congr (congr (congrArg (λa b c=>Zj a b c now) (zt f)) (zt t)) (zU l)).trans eC)).symm;clear hs;subst q) | (clear g2;have q : Fl = s:=(hs.trans ((congrArg Zx (ZX p _)).trans eF')).symm;clear hs;subst q) | (have q : Hp = s:=(hs.trans eH').symm;clear hs;subst q) | (clear g1;have q : U = s:=(hs.trans ((congr (congr (congrArg (λa b c=>QZ a b true c now) (zAx p.1 _)) (zt f)) (zU l)).trans eU)).symm;clear hs;subst q) | (have q : s = false:=hs.trans ((congrArg ZP (zAM p.1 _)).trans hm);clear hs;subst q) | (have q : D = s:=(hs.trans ((congr (congr (congrArg (λa b c=>QZ a b false c now) (zAM p.1 _)) (zt t)) (zU l)).trans eG)).symm;clear hs;subst q) | (have q:=hs;dsimp only at q;clear hs;subst q) | skip)))
 all_goals first
  | (show (Zw eB p.2.length _).length <= _;rw [zS];exact hpl)
  | ((first | rw [e1 ‹_›] | rw [e2 ‹_› ‹_›])
     exact ⟨⟨none,zE ⟨qN rfl,zA rfl,trivial⟩,rfl,rfl,(by show 0 < 1;omega)⟩⟩)
  | exact Eq.mp (congrArg PkW (ZX p _).symm) hp
  | exact Eq.mp (congrArg (λp : Zz=>0 <= p.1.flow) (ZX p _).symm) hp.flow.1
  | exact Eq.mp (congrArg (λp : Zz=>p.1.flow < 4294967296) (ZX p _).symm) hp.flow.2
  | exact Eq.mp (congrArg byteOk (zAx p.1 _).symm) hb1
  | exact Eq.mp (congrArg byteOk (zAM p.1 _).symm) hb2
  | exact Eq.mp (congrArg bytesL (zU l).symm) hl
  | omega
  | skip
 all_goals first
  | (have hne:=(show 16 * U.1.id + D.1.id = 0 by rw [show U.1.id = 0 by assumption,show D.1.id = 0 by assumption];rfl)
     have e:=e3_000 ‹_› ‹_› hne ‹_› ‹_›;have hid : decide (16 * U.1.id + D.1.id ≠ 0) = (D.1.id != 0):=YY ‹_›;rw [e];refine ⟨⟨some _,zE ⟨zy rfl ?_,zA rfl,trivial⟩,Zg ?_ (zD ?_ (zD ?_ (zD ?_ (zD rfl (qB (congrArg (CV.int .u8) (Zu _ hFl hHp)) (congrArg (CV.int .u8) (qQ wU wX false (D.1.id != 0) hid))) (λk hk=>zV (by omega))) (λk hk=>Zt hk)) (λk hk=>zV (by omega))) (λk hk=>zV (by omega)))⟩⟩;all_goals first
      | (simp only [List.length_append,List.length_cons,List.length_nil];done)
      | rfl
      | skip)
  | (have hne:=(show 16 * U.1.id + D.1.id = 0 by rw [show U.1.id = 0 by assumption,show D.1.id = 0 by assumption];rfl)
     have e:=e3_001 ‹_› ‹_› hne ‹_› ‹_›;have hid : decide (16 * U.1.id + D.1.id ≠ 0) = (D.1.id != 0):=YY ‹_›;rw [e];refine ⟨⟨some _,zE ⟨zy rfl ?_,zA rfl,trivial⟩,Zg ?_ (zD ?_ (zD ?_ (zD ?_ (zD ?_ (zD rfl (qB (congrArg (CV.int .u8) (Zu _ hFl hHp)) (congrArg (CV.int .u8) (qQ wU wX false (D.1.id != 0) hid))) (λk hk=>zV (by omega))) (λk hk=>Zt hk)) (λk hk=>Zt hk)) (λk hk=>zV (by omega))) (λk hk=>zV (by omega)))⟩⟩;all_goals first
      | (simp only [List.length_append,List.length_cons,List.length_nil];done)
      | rfl
      | skip)
  | (have hne:=(show 16 * U.1.id + D.1.id = 0 by rw [show U.1.id = 0 by assumption,show D.1.id = 0 by assumption];rfl)
     have e:=e3_010 ‹_› ‹_› hne ‹_› ‹_›;have hid : decide (16 * U.1.id + D.1.id ≠ 0) = (D.1.id != 0):=YY ‹_›;rw [e];refine ⟨⟨some _,zE ⟨zy rfl ?_,zA rfl,trivial⟩,Zg ?_ (zD ?_ (zD ?_ (zD rfl (qB (congrArg (CV.int .u8) (Zu _ hFl hHp)) (congrArg (CV.int .u8) (qQ wU wX false (D.1.id != 0) hid))) (λk hk=>zV (by omega))) (λk hk=>zV (by omega))) (λk hk=>zV (by omega)))⟩⟩;all_goals first
      | (simp only [List.length_append,List.length_cons,List.length_nil];done)
      | rfl
      | skip)
  | (have hne:=(show 16 * U.1.id + D.1.id = 0 by rw [show U.1.id = 0 by assumption,show D.1.id = 0 by assumption];rfl)
     have e:=e3_011 ‹_› ‹_› hne ‹_› ‹_›;have hid : decide (16 * U.1.id + D.1.id ≠ 0) = (D.1.id != 0):=YY ‹_›;rw [e];refine ⟨⟨some _,zE ⟨zy rfl ?_,zA rfl,trivial⟩,Zg ?_ (zD ?_ (zD ?_ (zD ?_ (zD rfl (qB (congrArg (CV.int .u8) (Zu _ hFl hHp)) (congrArg (CV.int .u8) (qQ wU wX false (D.1.id != 0) hid))) (λk hk=>zV (by omega))) (λk hk=>Zt hk)) (λk hk=>zV (by omega))) (λk hk=>zV (by omega)))⟩⟩;all_goals first
      | (simp only [List.length_append,List.length_cons,List.length_nil];done)
      | rfl
      | skip)
  | (have hne:=(zEK wU wX ‹_›)
     have e:=e3_100 ‹_› ‹_› hne ‹_› ‹_›;have hid : decide (16 * U.1.id + D.1.id ≠ 0) = true:=decide_eq_true hne;rw [e];refine ⟨⟨some _,zE ⟨zy rfl ?_,zA rfl,trivial⟩,Zg ?_ (zD ?_ (zD ?_ (zD ?_ (zD ?_ (zD rfl (qB (congrArg (CV.int .u8) (Zu _ hFl hHp)) (congrArg (CV.int .u8) (qQ wU wX false true hid))) (λk hk=>qx hk eI8)) (λk hk=>zV (by omega))) (λk hk=>Zt hk)) (λk hk=>zV (by omega))) (λk hk=>zV (by omega)))⟩⟩;all_goals first
      | (simp only [List.length_append,List.length_cons,List.length_nil];done)
      | rfl
      | skip)
  | (have hne:=(zEL wU wX ‹_› ‹_›)
     have e:=e3_100 ‹_› ‹_› hne ‹_› ‹_›;have hid : decide (16 * U.1.id + D.1.id ≠ 0) = (D.1.id != 0):=YY ‹_›;rw [e];refine ⟨⟨some _,zE ⟨zy rfl ?_,zA rfl,trivial⟩,Zg ?_ (zD ?_ (zD ?_ (zD ?_ (zD ?_ (zD rfl (qB (congrArg (CV.int .u8) (Zu _ hFl hHp)) (congrArg (CV.int .u8) (qQ wU wX false (D.1.id != 0) hid))) (λk hk=>qx hk eI8)) (λk hk=>zV (by omega))) (λk hk=>Zt hk)) (λk hk=>zV (by omega))) (λk hk=>zV (by omega)))⟩⟩;all_goals first
      | (simp only [List.length_append,List.length_cons,List.length_nil];done)
      | rfl
      | skip)
  | (have hne:=(zEK wU wX ‹_›)
     have e:=e3_101 ‹_› ‹_› hne ‹_› ‹_›;have hid : decide (16 * U.1.id + D.1.id ≠ 0) = true:=decide_eq_true hne;rw [e];refine ⟨⟨some _,zE ⟨zy rfl ?_,zA rfl,trivial⟩,Zg ?_ (zD ?_ (zD ?_ (zD ?_ (zD ?_ (zD ?_ (zD rfl (qB (congrArg (CV.int .u8) (Zu _ hFl hHp)) (congrArg (CV.int .u8) (qQ wU wX false true hid))) (λk hk=>qx hk eI8)) (λk hk=>zV (by omega))) (λk hk=>Zt hk)) (λk hk=>Zt hk)) (λk hk=>zV (by omega))) (λk hk=>zV (by omega)))⟩⟩;all_goals first
      | (simp only [List.length_append,List.length_cons,List.length_nil];done)
      | rfl
      | skip)
  | (have hne:=(zEL wU wX ‹_› ‹_›)
     have e:=e3_101 ‹_› ‹_› hne ‹_› ‹_›;have hid : decide (16 * U.1.id + D.1.id ≠ 0) = (D.1.id != 0):=YY ‹_›;rw [e];refine ⟨⟨some _,zE ⟨zy rfl ?_,zA rfl,trivial⟩,Zg ?_ (zD ?_ (zD ?_ (zD ?_ (zD ?_ (zD ?_ (zD rfl (qB (congrArg (CV.int .u8) (Zu _ hFl hHp)) (congrArg (CV.int .u8) (qQ wU wX false (D.1.id != 0) hid))) (λk hk=>qx hk eI8)) (λk hk=>zV (by omega))) (λk hk=>Zt hk)) (λk hk=>Zt hk)) (λk hk=>zV (by omega))) (λk hk=>zV (by omega)))⟩⟩;all_goals first
      | (simp only [List.length_append,List.length_cons,List.length_nil];done)
      | rfl
      | skip)
  | (have hne:=(zEK wU wX ‹_›)
     have e:=e3_110 ‹_› ‹_› hne ‹_› ‹_›;have hid : decide (16 * U.1.id + D.1.id ≠ 0) = true:=decide_eq_true hne;rw [e];refine ⟨⟨some _,zE ⟨zy rfl ?_,zA rfl,trivial⟩,Zg ?_ (zD ?_ (zD ?_ (zD ?_ (zD rfl (qB (congrArg (CV.int .u8) (Zu _ hFl hHp)) (congrArg (CV.int .u8) (qQ wU wX false true hid))) (λk hk=>qx hk eI8)) (λk hk=>zV (by omega))) (λk hk=>zV (by omega))) (λk hk=>zV (by omega)))⟩⟩;all_goals first
      | (simp only [List.length_append,List.length_cons,List.length_nil];done)
      | rfl
      | skip)
  | (have hne:=(zEL wU wX ‹_› ‹_›)
     have e:=e3_110 ‹_› ‹_› hne ‹_› ‹_›;have hid : decide (16 * U.1.id + D.1.id ≠ 0) = (D.1.id != 0):=YY ‹_›;rw [e];refine ⟨⟨some _,zE ⟨zy rfl ?_,zA rfl,trivial⟩,Zg ?_ (zD ?_ (zD ?_ (zD ?_ (zD rfl (qB (congrArg (CV.int .u8) (Zu _ hFl hHp)) (congrArg (CV.int .u8) (qQ wU wX false (D.1.id != 0) hid))) (λk hk=>qx hk eI8)) (λk hk=>zV (by omega))) (λk hk=>zV (by omega))) (λk hk=>zV (by omega)))⟩⟩;all_goals first
      | (simp only [List.length_append,List.length_cons,List.length_nil];done)
      | rfl
      | skip)
  | (have hne:=(zEK wU wX ‹_›)
     have e:=e3_111 ‹_› ‹_› hne ‹_› ‹_›;have hid : decide (16 * U.1.id + D.1.id ≠ 0) = true:=decide_eq_true hne;rw [e];refine ⟨⟨some _,zE ⟨zy rfl ?_,zA rfl,trivial⟩,Zg ?_ (zD ?_ (zD ?_ (zD ?_ (zD ?_ (zD rfl (qB (congrArg (CV.int .u8) (Zu _ hFl hHp)) (congrArg (CV.int .u8) (qQ wU wX false true hid))) (λk hk=>qx hk eI8)) (λk hk=>zV (by omega))) (λk hk=>Zt hk)) (λk hk=>zV (by omega))) (λk hk=>zV (by omega)))⟩⟩;all_goals first
      | (simp only [List.length_append,List.length_cons,List.length_nil];done)
      | rfl
      | skip)
  | (have hne:=(zEL wU wX ‹_› ‹_›)
     have e:=e3_111 ‹_› ‹_› hne ‹_› ‹_›;have hid : decide (16 * U.1.id + D.1.id ≠ 0) = (D.1.id != 0):=YY ‹_›;rw [e];refine ⟨⟨some _,zE ⟨zy rfl ?_,zA rfl,trivial⟩,Zg ?_ (zD ?_ (zD ?_ (zD ?_ (zD ?_ (zD rfl (qB (congrArg (CV.int .u8) (Zu _ hFl hHp)) (congrArg (CV.int .u8) (qQ wU wX false (D.1.id != 0) hid))) (λk hk=>qx hk eI8)) (λk hk=>zV (by omega))) (λk hk=>Zt hk)) (λk hk=>zV (by omega))) (λk hk=>zV (by omega)))⟩⟩;all_goals first
      | (simp only [List.length_append,List.length_cons,List.length_nil];done)
      | rfl
      | skip)
  | skip
theorem zH9 (p : Zz) (f t : Adr) (l : List Ctx) (now : Int) (hp : PkW p) (hpl : p.2.length <= 140737488355328) (hl : bytesL l) : ql Tryz.prog 30 [cPk.enc p,(cE ZF).enc f,(cE ZF).enc t,(qf zb zq).enc l,(cI .i64).enc now] (some (qt p f t l now).1.length) (some [zB8 (qt p f t l now).2]) (qD eB 5 (qt p f t l now).1):=by
 cases hm : ZP p.1.dst with
 | true=>exact renc_true p f t l now hp hpl hl hm
 | false=>exact zJD p f t l now hp hpl hl hm
theorem renIE_ok : EntOk Tryz.prog 30 enIE:=QF ⟨_,Tryz.func30,rfl,by kernel_rfl⟩ (λs l h x hx=>by injection h with h;subst h;obtain rfl:=List.mem_singleton.1 hx;exact zC7 QS) λa h=>zH9 a.1 a.2.1 a.2.2.1 a.2.2.2.1 a.2.2.2.2.1 h.1 h.2.1 h.2.2
end Go.Proofs.YtjknkfjhcapocaaGreatDoor.AX
namespace Go.Proofs.YtjknkfjhcapocaaGreatDoor.AX
open Go.RowKit
theorem shr8 {x : Int} (h : 0 <= x /\ x < 65536) : (Zn .u16 x 8 = 240) ↔ byt x = true:=by
 rw [zBb];have e : Zn .u16 x 8 = x / 256:=by
  show x.fdiv (2 ^ 8) = _;rw [Int.fdiv_eq_ediv_of_nonneg _ (by decide)];rfl
 rw [e];omega
theorem shr4 {x : Int} (h : 0 <= x /\ x < 65536) : (Zn .u16 x 4 = 3851) ↔ QX x = true:=by
 rw [zAj];have e : Zn .u16 x 4 = x / 16:=by
  show x.fdiv (2 ^ 4) = _;rw [Int.fdiv_eq_ediv_of_nonneg _ (by decide)];rfl
 rw [e];omega
def LCq0 : Qb:=(32,some zEx) :: []
theorem zEn : ZC Tryz.prog LCq0:=⟨zEy,trivial⟩
theorem rports_3 (sp dp : Int) (hs : 0 <= sp /\ sp < 65536) (hd : 0 <= dp /\ dp < 65536) (h1 : QX sp = true) (h2 : QX dp = true) : ql Tryz.prog 31 [(cI .u16).enc sp,(cI .u16).enc dp] (some (qe sp dp).length) none (qD eB 5 (qe sp dp)):=by
 have b1:=zAj.1 h1;have b2:=zAj.1 h2;have wS : IntKind.u64.wrap sp = sp:=IntWalk.u64_in _ (by omega);have wD : IntKind.u64.wrap dp = dp:=IntWalk.u64_in _ (by omega);have x8s:=shr8 hs;have x8d:=shr8 hd;have x4s:=shr4 hs;have x4d:=shr4 hd;rw [ports_3 h1 h2];have m0 : sp.tmod 16 = sp - 61616:=by rw [Int.tmod_eq_emod_of_nonneg hs.1];omega
 have m1 : dp.tmod 16 = dp - 61616:=by rw [Int.tmod_eq_emod_of_nonneg hd.1];omega
 have e0 : IntKind.u8.wrap (IntKind.u16.wrap (IntKind.u16.wrap (sp.tmod 16 * 16) + dp.tmod 16)) = (sp - 61616) * 16 + (dp - 61616):=by
  rw [m0,m1,IntWalk.u16_in ((sp - 61616) * 16) (by omega),IntWalk.u16_in _ (by omega),IntWalk.u8_in _ (by omega)]
 refine ZR (wd:=1) (by decide) zM (zT zEn) zN Tryz.func31 rfl _ (by show 2 <= _;decide) (λi _ j _=>qU eB _ i j) ?_;repeat' (first | (apply And.intro<;>intro hc<;>(first | exact Bool.noConfusion hc | (exfalso;first | exact absurd hc ‹_› | exact absurd ‹_› hc | exact absurd (x4s.2 h1) hc | exact absurd (x4d.2 h2) hc) | (simp only [Zi] at hc<;>first | exact absurd rfl hc | (exfalso;first | exact absurd hc ‹_› | exact absurd ‹_› hc | exact absurd (x4s.2 h1) hc | exact absurd (x4d.2 h2) hc) | skip) | skip)) | (refine And.intro Za ?_) | (apply And.intro) | (intro s hs;(first | skip)))
 all_goals first
  | exact rfl
  | exact λ_=>rfl
  | (show (Zw eB _ _).length <= _;rw [zS];omega)
  | omega
  | (refine ⟨⟨some _,qM (zy rfl rfl),Zg rfl ⟨λk hk=>?_⟩⟩⟩
     have hk' : k < 2:=hk;rcases k with _ | _ | k
     . rfl
     . exact congrArg (CV.int .u8) e0
     . omega)
  | skip
theorem rports_1 (sp dp : Int) (hs : 0 <= sp /\ sp < 65536) (hd : 0 <= dp /\ dp < 65536) (h : ¬ (QX sp = true /\ QX dp = true)) (h1 : byt dp = true) : ql Tryz.prog 31 [(cI .u16).enc sp,(cI .u16).enc dp] (some (qe sp dp).length) none (qD eB 5 (qe sp dp)):=by
 have b1:=zBb.1 h1;have wS : IntKind.u64.wrap sp = sp:=IntWalk.u64_in _ (by omega);have wD : IntKind.u64.wrap dp = dp:=IntWalk.u64_in _ (by omega);have x8s:=shr8 hs;have x8d:=shr8 hd;have x4s:=shr4 hs;have x4d:=shr4 hd;rw [ports_1 h h1];have e0 : IntKind.u8.wrap dp = dp - 61440:=by
  unfold IntKind.wrap;simp [IntKind.signed,IntKind.bits];omega
 obtain ⟨B1,e1⟩ : ∃ x,[241] ++ [sp / 256 % 256,sp % 256] = x:=⟨_,rfl⟩;have l1 : B1.length = 3:=by rw [<- e1];rfl
 have g0:=trivial;rw [show [241,sp / 256 % 256,sp % 256,dp - 61440] = B1 ++ [dp - 61440] by rw [<- e1];rfl];refine ZR (wd:=1) (by decide) zM (zT zEn) zN Tryz.func31 rfl _ (by show 2 <= _;decide) (λi _ j _=>qU eB _ i j) ?_;repeat' (first | (apply And.intro<;>intro hc<;>(first | exact Bool.noConfusion hc | (exfalso;first | exact absurd hc ‹_› | exact absurd ‹_› hc | exact absurd (x8d.2 h1) hc | exact h ⟨x4s.1 ‹_›,x4d.1 hc⟩) | (simp only [Zi] at hc<;>first | exact absurd rfl hc | (exfalso;first | exact absurd hc ‹_› | exact absurd ‹_› hc | exact absurd (x8d.2 h1) hc | exact h ⟨x4s.1 ‹_›,x4d.1 hc⟩) | skip) | skip)) | (refine And.intro Za ?_) | (apply And.intro) | (intro s hs;(first | (clear g0;have q : B1 = s:=((Yi (v:=sp) (n:=2) (l:=[241]) hs rfl wS (zAd _)).trans e1).symm;clear hs;subst q) | skip)))
 all_goals first
  | exact rfl
  | exact λ_=>rfl
  | (show (Zw eB _ _).length <= _;rw [zS];omega)
  | omega
  | (refine ⟨⟨some _,qM (zy rfl ?_),Zg ?_ (zD rfl (QK _) (λk hk=>?_))⟩⟩
     . rw [List.length_append];rfl
     . rw [List.length_append];rfl
     . have hk' : k < 1:=hk;obtain rfl:=Nat.lt_one_iff.1 hk';simp only [Nat.add_sub_cancel_left];exact congrArg (CV.int .u8) e0)
  | skip
theorem rports_2 (sp dp : Int) (hs : 0 <= sp /\ sp < 65536) (hd : 0 <= dp /\ dp < 65536) (h : ¬ (QX sp = true /\ QX dp = true)) (h1 : byt dp = false) (h2 : byt sp = true) : ql Tryz.prog 31 [(cI .u16).enc sp,(cI .u16).enc dp] (some (qe sp dp).length) none (qD eB 5 (qe sp dp)):=by
 have b2:=zBb.1 h2;have wS : IntKind.u64.wrap sp = sp:=IntWalk.u64_in _ (by omega);have wD : IntKind.u64.wrap dp = dp:=IntWalk.u64_in _ (by omega);have x8s:=shr8 hs;have x8d:=shr8 hd;have x4s:=shr4 hs;have x4d:=shr4 hd;rw [ports_2 h h1 h2];have y8d : ¬ Zn .u16 dp 8 = 240:=λg=>by rw [x8d.1 g] at h1;cases h1
 have e0 : IntKind.u8.wrap sp = sp - 61440:=by
  unfold IntKind.wrap;simp [IntKind.signed,IntKind.bits];omega
 obtain ⟨B1,e1⟩ : ∃ x,[242,sp - 61440] ++ [dp / 256 % 256,dp % 256] = x:=⟨_,rfl⟩;have l1 : B1.length = 4:=by rw [<- e1];rfl
 have g0:=trivial;rw [show [242,sp - 61440,dp / 256 % 256,dp % 256] = B1 by rw [<- e1];rfl];refine ZR (wd:=1) (by decide) zM (zT zEn) zN Tryz.func31 rfl _ (by show 2 <= _;decide) (λi _ j _=>qU eB _ i j) ?_;repeat' (first | (apply And.intro<;>intro hc<;>(first | exact Bool.noConfusion hc | (exfalso;first | exact absurd hc ‹_› | exact absurd ‹_› hc | exact absurd hc y8d | exact absurd (x8s.2 h2) hc | exact h ⟨x4s.1 ‹_›,x4d.1 hc⟩) | (simp only [Zi] at hc<;>first | exact absurd rfl hc | (exfalso;first | exact absurd hc ‹_› | exact absurd ‹_› hc | exact absurd hc y8d | exact absurd (x8s.2 h2) hc | exact h ⟨x4s.1 ‹_›,x4d.1 hc⟩) | skip) | skip)) | (refine And.intro Za ?_) | (apply And.intro) | (intro s hs;(first | (clear g0;have q : B1 = s:=((Yi (v:=dp) (n:=2) (l:=[242,sp - 61440]) hs (congrArg (λx=>[242,x]) e0) wD (zAd _)).trans e1).symm;clear hs;subst q) | skip)))
 all_goals first
  | exact rfl
  | exact λ_=>rfl
  | (show (Zw eB _ _).length <= _;rw [zS];omega)
  | omega
  | exact ⟨⟨some _,qM (zy rfl rfl),qp⟩⟩
  | skip
theorem rports_0 (sp dp : Int) (hs : 0 <= sp /\ sp < 65536) (hd : 0 <= dp /\ dp < 65536) (h : ¬ (QX sp = true /\ QX dp = true)) (h1 : byt dp = false) (h2 : byt sp = false) : ql Tryz.prog 31 [(cI .u16).enc sp,(cI .u16).enc dp] (some (qe sp dp).length) none (qD eB 5 (qe sp dp)):=by
 have wS : IntKind.u64.wrap sp = sp:=IntWalk.u64_in _ (by omega);have wD : IntKind.u64.wrap dp = dp:=IntWalk.u64_in _ (by omega);have x8s:=shr8 hs;have x8d:=shr8 hd;have x4s:=shr4 hs;have x4d:=shr4 hd;rw [ports_0 h h1 h2];have y8d : ¬ Zn .u16 dp 8 = 240:=λg=>by rw [x8d.1 g] at h1;cases h1
 have y8s : ¬ Zn .u16 sp 8 = 240:=λg=>by rw [x8s.1 g] at h2;cases h2
 obtain ⟨B1,e1⟩ : ∃ x,[240] ++ [sp / 256 % 256,sp % 256] = x:=⟨_,rfl⟩;have l1 : B1.length = 3:=by rw [<- e1];rfl
 have g0:=trivial;obtain ⟨B2,e2⟩ : ∃ x,B1 ++ [dp / 256 % 256,dp % 256] = x:=⟨_,rfl⟩;have l2 : B2.length = 5:=by rw [<- e2,List.length_append,l1];rfl
 have g1:=trivial;rw [show [240,sp / 256 % 256,sp % 256,dp / 256 % 256,dp % 256] = B2 by rw [<- e2,<- e1];rfl];refine ZR (wd:=1) (by decide) zM (zT zEn) zN Tryz.func31 rfl _ (by show 2 <= _;decide) (λi _ j _=>qU eB _ i j) ?_;repeat' (first | (apply And.intro<;>intro hc<;>(first | exact Bool.noConfusion hc | (exfalso;first | exact absurd hc ‹_› | exact absurd ‹_› hc | exact absurd hc y8d | exact absurd hc y8s | exact h ⟨x4s.1 ‹_›,x4d.1 hc⟩) | (simp only [Zi] at hc<;>first | exact absurd rfl hc | (exfalso;first | exact absurd hc ‹_› | exact absurd ‹_› hc | exact absurd hc y8d | exact absurd hc y8s | exact h ⟨x4s.1 ‹_›,x4d.1 hc⟩) | skip) | skip)) | (refine And.intro Za ?_) | (apply And.intro) | (intro s hs;(first | (clear g0;have q : B1 = s:=((Yi (v:=sp) (n:=2) (l:=[240]) hs rfl wS (zAd _)).trans e1).symm;clear hs;subst q) | (clear g1;have q : B2 = s:=((Yi (v:=dp) (n:=2) (l:=B1) hs (Zv _) wD (zAd _)).trans e2).symm;clear hs;subst q) | skip)))
 all_goals first
  | exact rfl
  | exact λ_=>rfl
  | (show (Zw eB _ _).length <= _;rw [zS];omega)
  | omega
  | exact ⟨⟨some _,qM (zy rfl rfl),qp⟩⟩
  | skip
theorem rports_ok (sp dp : Int) (hs : 0 <= sp /\ sp < 65536) (hd : 0 <= dp /\ dp < 65536) : ql Tryz.prog 31 [(cI .u16).enc sp,(cI .u16).enc dp] (some (qe sp dp).length) none (qD eB 5 (qe sp dp)):=by
 by_cases h : QX sp = true /\ QX dp = true
 . exact rports_3 sp dp hs hd h.1 h.2
 . cases h1 : byt dp with
   | true=>exact rports_1 sp dp hs hd h h1
   | false=>
     cases h2 : byt sp with
     | true=>exact rports_2 sp dp hs hd h h1 h2
     | false=>exact rports_0 sp dp hs hd h h1 h2
abbrev rportsE : ZD:=zBu (AC.cons (cI .u16) (AC.cons (cI .u16) AC.nil)) (λa=>(0 <= a.1 /\ a.1 < 65536) /\ 0 <= a.2.1 /\ a.2.1 < 65536) (λa=>qe a.1 a.2.1) (λs=>some s.length) (λ_=>none) (λs=>qD eB 5 s)
def LCq : Qb:=(31,some rportsE) :: (30,some enIE) :: (32,some zEx) :: (33,some rsumE) :: (34,some rencE) :: []
theorem LCq_ok : ZC Tryz.prog LCq:=⟨QF ⟨_,Tryz.func31,rfl,by kernel_rfl⟩ (λs l h=>by cases h) λa h=>rports_ok a.1 a.2.1 h.1 h.2,renIE_ok,zEy,(zEh).1,(zEk).1,trivial⟩
theorem rcenc_ok (p : Zz) (f t : Adr) (l : List Ctx) (now : Int) (hp : PkW p) (hpl : p.2.length <= 140737488355328) (hl : bytesL l) : ql Tryz.prog 13 [cPk.enc p,(cE ZF).enc f,(cE ZF).enc t,(qf zb zq).enc l,(cI .i64).enc now] (some (zAA p f t l now).1.length) (some [zB8 (zAA p f t l now).2]) (qD eB 5 (zAA p f t l now).1):=by
 obtain ⟨W,eW⟩ : ∃ W,zAA p f t l now = W:=⟨_,rfl⟩;have hCl:=zFm p f t l now;obtain ⟨C,eC⟩ : ∃ C,qt p f t l now = C:=⟨_,rfl⟩;rw [eC] at hCl;have hsm:=encI_v eC;have e1:=λh=>eW.symm.trans (encC_1 (p:=p) (f:=f) (t:=t) (l:=l) (now:=now) eC h);have e2:=λh g=>eW.symm.trans (encC_2 (p:=p) (f:=f) (t:=t) (l:=l) (now:=now) eC h g);have e3:=λh g=>eW.symm.trans (encC_3 (p:=p) (f:=f) (t:=t) (l:=l) (now:=now) eC h g);rw [eW];clear eW;have hM:=zBn p;have hsp:=hp.sp;have hdp:=hp.dp;obtain ⟨M,eM⟩ : ∃ M,qZ p = M:=⟨_,rfl⟩;rw [eM] at hM;have wM : IntKind.u64.wrap M = M:=IntWalk.u64_in _ (by omega);have hP:=zDd p.1.sp p.1.dp;obtain ⟨R,eR⟩ : ∃ R,qe p.1.sp p.1.dp = R:=⟨_,rfl⟩;rw [eR] at hP;have eU : YZ p = R ++ qk M 2:=by unfold YZ;rw [eR,eM]
 obtain ⟨B2,eB2⟩ : ∃ x,(C.1 ++ R) ++ qk M 2 = x:=⟨_,rfl⟩;have hB2 : B2.length = C.1.length + R.length + 2:=by rw [<- eB2,List.length_append,List.length_append,zAd];rfl
 have eBU : C.1 ++ YZ p = B2:=by rw [eU,<- List.append_assoc];exact eB2
 rw [eBU] at e2;have rowQ : Zw eB (C.1.length + R.length) (λk j=>Zm (Nat.blt (0 + k) C.1.length) (zn eB C.1 (0 + k) j) (zn eB R (0 + (0 + k - C.1.length)) j)) = C.1 ++ R:=YX (List.length_append ..).symm (zEc (F:=λk j=>Zm (Nat.blt k C.1.length) (zn eB C.1 k j) (zn eB R (0 + (k - C.1.length)) j)) (zD rfl (QK _) (λk hk=>zV (by omega))));obtain ⟨g1,g2,g3⟩:=zg3;refine ZR (wd:=1) (by decide) zM (zT LCq_ok) zN Tryz.func13 rfl _ (by show 5 <= _;decide) (λi _ j _=>qU eB _ i j) ?_;repeat' (first | (apply And.intro<;>intro hc<;>(first | exact Bool.noConfusion hc | (exfalso;first | exact absurd hc ‹_› | exact absurd ‹_› hc) | (simp only [Zi] at hc<;>first | exact absurd rfl hc | (exfalso;first | exact absurd hc ‹_› | exact absurd ‹_› hc) | skip) | skip)) | (refine And.intro Za ?_) | (apply And.intro) | (intro s hs;(first | (clear g1;have q : C = s:=(hs.trans ((zFn (ZX p _) (zt f) (zt t) (zU l)).trans eC)).symm;clear hs;subst q) | (clear g2;have q : R = s:=(hs.trans eR).symm;clear hs;subst q) | (have q : M = s:=(hs.trans ((congrArg qZ (ZX p _)).trans eM)).symm;clear hs;subst q) | (clear g3;have q : B2 = s:=((Yi (v:=M) (n:=2) (l:=C.1 ++ R) hs rowQ wM rfl).trans eB2).symm;clear hs;subst q) | skip)))
 all_goals first
  | exact λ_=>rfl
  | exact Eq.mp (congrArg PkW (ZX p _).symm) hp
  | (show (Zw eB _ _).length <= _;rw [zS];omega)
  | exact Eq.mp (congrArg bytesL (zU l).symm) hl
  | (rw [e1 ‹_›]
     exact ⟨⟨none,zE ⟨qN rfl,zA rfl,trivial⟩,rfl,rfl,(by show 0 < 1;omega)⟩⟩)
  | omega
  | (have:=hsm ‹_›;omega)
  | exact rfl
  | (rw [e2 ‹_› ‹_›]
     refine ⟨⟨some _,zE ⟨zy rfl ?_,zA rfl,trivial⟩,Zg ?_ (zD rfl (QK _) (λk hk=>zV (by omega)))⟩⟩
     . exact (List.length_append ..).symm
     . exact (List.length_append ..).symm)
  | (rw [e3 ‹_› ‹_›]
     refine ⟨⟨some _,zE ⟨zy rfl ?_,zA rfl,trivial⟩,Zg ?_ (zD rfl (QK _) (λk hk=>zV (by omega)))⟩⟩
     . exact (List.length_append ..).symm
     . exact (List.length_append ..).symm)
  | skip
theorem rplain_ok (p : Zz) (hp : PkW p) (hpl : p.2.length <= 140737488355328) : ql Tryz.prog 14 [cPk.enc p] (some (QQ p).1.length) (some [zB8 (QQ p).2]) (qD eB 5 (QQ p).1):=by
 obtain ⟨W,eW⟩ : ∃ W,QQ p = W:=⟨_,rfl⟩;have hl : ((zAC p).getD []).length <= 1280:=by
  unfold zAC;split
  . rename_i h;have h1:=zAv p (qZ p);have h2:=zAw h;show (Qx p (qZ p)).length <= 1280;omega
  . exact Nat.zero_le _
 obtain ⟨E,eE⟩ : ∃ E,zAC p = E:=⟨_,rfl⟩;have e0 : ¬ ecR E = 0 -> W = ([],1):=λh=>by
  rw [<- eW];unfold QQ;rw [if_neg];intro hv;apply h;rw [<- eE];unfold zAC;rw [if_pos hv];rfl
 have e1 : ecR E = 0 -> W = (65 :: E.getD [],0):=λh=>by
  rw [<- eW];unfold QQ;by_cases hv : zj p = true
  . rw [if_pos hv,<- eE];unfold zAC;rw [if_pos hv];rfl
  . exfalso;rw [<- eE] at h;unfold zAC at h;rw [if_neg hv] at h;exact absurd h (by decide)
 rw [eE] at hl;rw [eW];clear eW;refine ZR (wd:=1) (by decide) zM (zT LCq_ok) zN Tryz.func14 rfl _ (by show 1 <= _;decide) (λi _ j _=>qU eB _ i j) ?_;repeat' (first | (apply And.intro<;>intro hc<;>(first | exact Bool.noConfusion hc | (exfalso;first | exact absurd hc ‹_› | exact absurd ‹_› hc) | (simp only [Zi] at hc<;>first | exact absurd rfl hc | (exfalso;first | exact absurd hc ‹_› | exact absurd ‹_› hc) | skip) | skip)) | (refine And.intro Za ?_) | (apply And.intro) | (intro s hs;(first | (have q : E = s:=(hs.trans ((congrArg zAC (ZX p _)).trans eE)).symm;clear hs;subst q) | skip)))
 . exact Eq.mp (congrArg PkW (ZX p _).symm) hp
 . show (Zw eB _ _).length <= _;rw [zS];omega
 . have he : ecR E = 1:=by
    cases E with
    | none=>rfl
    | some x=>exact absurd rfl (by assumption : ¬ ecR (some x) = 0)
   rw [e0 ‹_›];exact ⟨⟨none,zE ⟨qN rfl,zA he,trivial⟩,rfl,rfl,(by show 0 < 1;omega)⟩⟩
 . rw [e1 ‹_›];refine ⟨⟨some _,zE ⟨zy rfl ?_,zA rfl,trivial⟩,Zg (l:=[65] ++ E.getD []) ?_ (zD (n:=1) (C:=λk j=>zn eB (E.getD []) (0 + (k - 1)) j) (l1:=[65]) rfl ⟨λk hk=>?_⟩ (λk hk=>zV (by omega)))⟩⟩
   . show _ = (65 :: E.getD []).length;rw [List.length_cons];omega
   . rw [List.length_append];exact rfl
   . have hk' : k < 1:=hk;have : k = 0:=by omega
     subst this;rfl
theorem rcencE_ok : EntOk Tryz.prog 13 cencE:=QF ⟨_,Tryz.func13,rfl,by kernel_rfl⟩ (λs l h x hx=>by injection h with h;subst h;obtain rfl:=List.mem_singleton.1 hx;exact zC7 QS) λa h=>rcenc_ok a.1 a.2.1 a.2.2.1 a.2.2.2.1 a.2.2.2.2.1 h.1 h.2.1 h.2.2
theorem rcplE_ok : EntOk Tryz.prog 14 cplE:=QF ⟨_,Tryz.func14,rfl,by kernel_rfl⟩ (λs l h x hx=>by injection h with h;subst h;obtain rfl:=List.mem_singleton.1 hx;exact zC7 QS) λa h=>rplain_ok a.1 h.1 h.2
theorem encC_len' (p : Zz) (f t : Adr) (l : List Ctx) (now : Int) : (zAA p f t l now).1.length <= 48 + p.2.length:=by
 unfold zAA;split
 . have h1:=zFm p f t l now;have h2:=@tail_len p;show ((qt p f t l now).1 ++ _).length <= _;rw [List.length_append];omega
 . exact Nat.zero_le _
theorem encC_sm (p : Zz) (f t : Adr) (l : List Ctx) (now : Int) : (zAA p f t l now).1.length <= 2000:=by
 have h:=encC_len' p f t l now;by_cases h0 : (qt p f t l now).2 = 0
 . have:=encI_v rfl h0;omega
 . unfold zAA;rw [if_neg h0];exact Nat.zero_le _
theorem plainZ_sm (p : Zz) : (QQ p).1.length <= 2000:=by
 unfold QQ;split
 . rename_i h;have h1:=zAv p (qZ p);have h2:=zAw h;show (Qx p (qZ p)).length + 1 <= 2000;omega
 . exact Nat.zero_le _
section
variable (b : List Int) (f t : Adr) (l : List Ctx) (now : Int)
theorem rd8 (hC : Zj f t l now = 0) (hb : BL b) (hbl : b.length <= 140737488355328) (hl : bytesL l) (s : RS8 b f t l now) : Sem Tryz.prog Tryz.f65.ntmps 0 (zC1 17 (Tryz.f65.body.getD Code.ret)) (HS8 b f t l now s).fr (HS8 b f t l now s).H (HS8 b f t l now s).nx (YQ T Tryz.f65.results.toList λx H _=>Done H x (zAN (Zr b f t l now))):=by
 obtain ⟨y,h,q,e,hr,hy,j⟩:=s;unfold HS8;dsimp only;obtain ⟨E,eE⟩ : ∃ x,za e (ZP h.dst != qG y 8) 5 = x:=⟨_,rfl⟩;obtain ⟨Mc,eM⟩ : ∃ x,ZP h.dst = x:=⟨_,rfl⟩;rw [eE] at j;rw [eM] at eE;have d1 : ¬ E = 0 -> Zr b f t l now = (((zJ,[]),0),E):=λg=>zBI hC rfl (j.err g) g;have d2 : E = 0 -> Zr b f t l now = (((h,[]),q),0):=λg=>zFi hC (j.ok g);obtain ⟨W,hW⟩ : ∃ x,Zr b f t l now = x:=⟨_,rfl⟩;rw [hW] at d1 d2 ⊢;clear j hW;have g1:=trivial;refine YO (wd:=1) (by decide) zM (zT qA) zN ?_;repeat' (first | (apply And.intro<;>intro hc<;>(first | exact Bool.noConfusion hc | exact zn2 hc | (simp only [Zi] at hc<;>first | exact absurd rfl hc | exact zn2 hc | skip) | skip)) | (refine And.intro Za ?_) | (apply And.intro) | (refine Exists.intro b (And.intro ⟨rfl,rfl,by first | exact trivial⟩ ?_)) | (intro s hs;(first | (clear g1;have q : Mc = s:=(by (dsimp only at hs;refine (hs.trans ((congrArg ZP (Yc (a:=h.dst) (λj hj=>?_))).trans eM)).symm;(iterate 16 (rcases j with _ | j;exact rfl));exact absurd hj (by omega)));clear hs;subst q) | (have q : s = ((),q,E):=hs.trans (congrArg (λx=>((),q,x)) eE);clear hs;subst q) | skip)))
 all_goals try (first | exact rfl)
 refine YO (wd:=1) (by decide) zM (zT qA) zN ?_;repeat' (first | (apply And.intro<;>intro hc<;>(first | exact Bool.noConfusion hc | exact zn2 hc | (simp only [Zi] at hc<;>first | exact absurd rfl hc | exact zn2 hc | skip) | skip)) | (refine And.intro Za ?_) | (apply And.intro) | (refine Exists.intro b (And.intro ⟨rfl,rfl,by first | exact trivial⟩ ?_)) | (intro s hs;skip))
 . rw [d1 ‹_›];exact zq4
 refine zFj (wd:=1) (by decide) zM (zT qA) zN ?_;repeat' (first | (apply And.intro<;>intro hc<;>(first | exact Bool.noConfusion hc | exact zn2 hc | (simp only [Zi] at hc<;>first | exact absurd rfl hc | exact zn2 hc | skip) | skip)) | (refine And.intro Za ?_) | (apply And.intro) | (refine Exists.intro b (And.intro ⟨rfl,rfl,by first | exact trivial⟩ ?_)) | (intro s hs;skip))
 rw [d2 ‹_›];exact zq4
end
section
variable (b : List Int) (f t : Adr) (l : List Ctx) (now : Int)
theorem rd7 (hC : Zj f t l now = 0) (hb : BL b) (hbl : b.length <= 140737488355328) (hl : bytesL l) (s : RS7 b f t l now) : Sem Tryz.prog Tryz.f65.ntmps 0 (zC1 16 (Tryz.f65.body.getD Code.ret)) (HS7 b f t l now s).fr (HS7 b f t l now s).H (HS7 b f t l now s).nx (YQ T Tryz.f65.results.toList λx H _=>Done H x (zAN (Zr b f t l now))):=by
 obtain ⟨y,ids,h,q,e,hr,hy,hi,hd,j⟩:=s;unfold HS7;dsimp only;have hym : 0 <= y % 4 /\ y % 4 <= 3:=by omega
 have wi : ids.tmod 16 = ids % 16:=Int.tmod_eq_emod_of_nonneg hi.1;unfold K2 zCa at j;rw [YC] at j;obtain ⟨jg,ja⟩:=J_if j;have jg:=λh8=>J_grp (m:=y % 4) hr (by omega) (jg h8);have ja:=λh8=>J_adr (m:=y % 4) hr (by omega) (zFw hl) (ja h8);have rg:=grpS_r (e:=e) (m:=y % 4) hr;have ra:=adrS_r (e:=e) (m:=y % 4) (ctx:=qG y 4) (k:=t) (C:=zK l (ids % 16) now) hr;obtain ⟨G,eG⟩ : ∃ x,Yn b q e (y % 4) = x:=⟨_,rfl⟩;obtain ⟨A,eA'⟩ : ∃ x,qa b q e (qG y 4) (y % 4) t (zK l (ids % 16) now) = x:=⟨_,rfl⟩;rw [eG] at jg rg;rw [eA'] at ja ra;have eA2 : qa b q e (qG y 4) (y % 4) t (zK l (ids.tmod 16) now) = A:=by rw [wi];exact eA'
 clear j;have g1:=trivial;refine zBC (wd:=1) (by decide) zM (zT qA) (ZE qA) zN (HS8 b f t l now) (λ_=>rfl) ?_ (rd8 b f t l now hC hb hbl hl);repeat' (first | (apply And.intro<;>intro hc<;>(first | exact Bool.noConfusion hc | exact zn2 hc | (simp only [Zi] at hc<;>first | exact absurd rfl hc | exact zn2 hc | skip) | skip)) | (refine And.intro Za ?_) | (apply And.intro) | (refine Exists.intro b (And.intro ⟨rfl,rfl,by first | exact trivial | exact ⟨hr,by omega,by omega⟩ | exact ⟨hr,Eq.mp (congrArg bytesL (zU l).symm) hl,hym.1,hym.2⟩⟩ ?_)) | (intro s hs;(first | (clear g1;have q : G = s:=(hs.trans eG).symm;clear hs;subst q) | (have q : A = s:=(hs.trans ((congr (congrArg (λk l=>qa b q e (qG y 4) (md y 4) k (zK l (ids.tmod 16) now)) (zt t)) (zU l)).trans eA2)).symm;clear hs;subst q) | skip)))
 all_goals try (first | exact rfl | exact λ_=>rfl)
 all_goals first
  | (refine ⟨⟨y,{ h with dst:=G.1 },G.2.1,G.2.2,rg,hy,?_⟩,[],rfl,?_,?_⟩
     . show J _ (za G.2.2 (ZP G.1 != qG y 8) 5) _;rw [show qG y 8 = true by assumption];exact jg ‹_›
     . exact QI
     . repeat' (first | exact qH | refine zF ?_ | refine zC ?_ | exact qI | apply And.intro)
       all_goals first
        | exact QL rfl rfl rfl
        | (refine zh ?_;repeat' (first | exact trivial | exact rfl | exact zA rfl | exact zH rfl | exact zm | apply And.intro))
        | skip)
  | (refine ⟨⟨y,{ h with dst:=A.1 },A.2.1,A.2.2,ra,hy,?_⟩,[],rfl,?_,?_⟩
     . have h8 : qG y 8 = false:=by assumption
       show J _ (za A.2.2 (ZP A.1 != qG y 8) 5) _;rw [h8,show (ZP A.1 != false) = ZP A.1 by cases ZP A.1<;>rfl];exact ja (by rw [h8];decide)
     . exact QI
     . repeat' (first | exact qH | refine zF ?_ | refine zC ?_ | exact qI | apply And.intro)
       all_goals first
        | exact QL rfl rfl rfl
        | (refine zh ?_;repeat' (first | exact trivial | exact rfl | exact zA rfl | exact zH rfl | exact zm | apply And.intro))
        | skip)
  | skip
end
section
variable (b : List Int) (f t : Adr) (l : List Ctx) (now : Int)
theorem rd6 (hC : Zj f t l now = 0) (hb : BL b) (hbl : b.length <= 140737488355328) (hl : bytesL l) (s : RS6 b f t l now) : Sem Tryz.prog Tryz.f65.ntmps 0 (zC1 15 (Tryz.f65.body.getD Code.ret)) (HS6 b f t l now s).fr (HS6 b f t l now s).H (HS6 b f t l now s).nx (YQ T Tryz.f65.results.toList λx H _=>Done H x (zAN (Zr b f t l now))):=by
 obtain ⟨y,ids,h,q,e,hr,hy,hi,hs0,hd,j⟩:=s;unfold HS6;dsimp only;have hym : 0 <= y / 16 % 4 /\ y / 16 % 4 <= 3:=by omega
 have w64:=zDe hy 64 2 (by decide) (by decide);have w16:=zDe hy 16 4 (by decide) (by decide);have wi:=raw_d hi 16 (by decide);have hym' : 0 <= (IntKind.i64.wrap (y.tdiv 16)).tmod 4 /\ (IntKind.i64.wrap (y.tdiv 16)).tmod 4 <= 3:=by rw [w16];exact hym
 have c64 : ((IntKind.i64.wrap (y.tdiv 64)).tmod 2 == 1) = qG y 64:=by rw [w64];rfl
 unfold K1 zDs at j;rw [YC] at j;obtain ⟨ja,js⟩:=J_if j;have ja:=λhh=>J_adr (m:=y / 16 % 4) hr hym (zFw hl) (ja hh);have ra:=adrS_r (e:=e) (m:=y / 16 % 4) (ctx:=qG y 64) (k:=f) (C:=zK l (ids / 16) now) hr;obtain ⟨A,eA'⟩ : ∃ x,qa b q e (qG y 64) (y / 16 % 4) f (zK l (ids / 16) now) = x:=⟨_,rfl⟩;rw [eA'] at ja ra;obtain ⟨Mc,eM⟩ : ∃ x,ZP A.1 = x:=⟨_,rfl⟩;rw [eM] at ja;obtain ⟨E,eE⟩ : ∃ x,za A.2.2 Mc 5 = x:=⟨_,rfl⟩;rw [eE] at ja;have eA2 : qa b q e ((IntKind.i64.wrap (y.tdiv 64)).tmod 2 == 1) ((IntKind.i64.wrap (y.tdiv 16)).tmod 4) f (zK l (IntKind.i64.wrap (ids.tdiv 16)) now) = A:=by rw [c64,w16,wi];exact eA'
 have t1 : ¬ (IntKind.i64.wrap (y.tdiv 64)).tmod 2 = 1 -> qG y 64 = false \/ y / 16 % 4 ≠ 0:=λhh=>.inl (by rw [<- c64];exact beq_eq_false_iff_ne.2 hh);have t2 : ¬ (IntKind.i64.wrap (y.tdiv 16)).tmod 4 = 0 -> qG y 64 = false \/ y / 16 % 4 ≠ 0:=λhh=>.inr (by rw [<- w16];exact hh);have t3 : (IntKind.i64.wrap (y.tdiv 64)).tmod 2 = 1 -> (IntKind.i64.wrap (y.tdiv 16)).tmod 4 = 0 -> ¬ (qG y 64 = false \/ y / 16 % 4 ≠ 0):=λh1 h2 hh=>hh.elim (λx=>by rw [<- c64,h1] at x;cases x) (λx=>x (by rw [<- w16];exact h2));have hsz : ({ h with src:=zI } : Hdr) = h:=by rw [<- hs0]
 clear j;obtain ⟨g1,g2⟩:=zg2;refine zBC (wd:=1) (by decide) zM (zT qA) (ZE qA) zN (HS7 b f t l now) (λ_=>rfl) ?_ (rd7 b f t l now hC hb hbl hl);repeat' (first | (apply And.intro<;>intro hc<;>(first | exact Bool.noConfusion hc | exact zn2 hc | (simp only [Zi] at hc<;>first | exact absurd rfl hc | exact zn2 hc | skip) | skip)) | (refine And.intro Za ?_) | (apply And.intro) | (refine Exists.intro b (And.intro ⟨rfl,rfl,by first | exact trivial | exact ⟨hr,Eq.mp (congrArg bytesL (zU l).symm) hl,hym'.1,hym'.2⟩⟩ ?_)) | (intro s hs;(first | (clear g1;have q : A = s:=(hs.trans ((congr (congrArg (λk l=>qa b q e ((IntKind.i64.wrap (y.tdiv 64)).tmod 2 == 1) ((IntKind.i64.wrap (y.tdiv 16)).tmod 4) k (zK l (IntKind.i64.wrap (ids.tdiv 16)) now)) (zt f)) (zU l)).trans eA2)).symm;clear hs;subst q) | (clear g2;have q : Mc = s:=(by (dsimp only at hs;refine (hs.trans ((congrArg ZP (Yc (a:=A.1) (λj hj=>?_))).trans eM)).symm;(iterate 16 (rcases j with _ | j;exact rfl));exact absurd hj (by omega)));clear hs;subst q) | (have q : s = ((),A.2.1,E):=hs.trans (congrArg (λx=>((),A.2.1,x)) eE);clear hs;subst q) | skip)))
 all_goals try (first | exact rfl | exact λ_=>rfl)
 all_goals first
  | (refine ⟨⟨y,ids,{ h with src:=A.1 },A.2.1,E,ra,hy,hi,hd,ja (t1 ‹_›)⟩,[],rfl,?_,?_⟩
     . exact QI
     . repeat' (first | exact qH | refine zF ?_ | refine zC ?_ | exact qI | apply And.intro)
       all_goals first
        | exact QL rfl rfl rfl
        | (refine zh ?_;repeat' (first | exact trivial | exact rfl | exact zA rfl | exact zH rfl | exact zm | apply And.intro))
        | skip)
  | (refine ⟨⟨y,ids,{ h with src:=A.1 },A.2.1,E,ra,hy,hi,hd,ja (t2 ‹_›)⟩,[],rfl,?_,?_⟩
     . exact QI
     . repeat' (first | exact qH | refine zF ?_ | refine zC ?_ | exact qI | apply And.intro)
       all_goals first
        | exact QL rfl rfl rfl
        | (refine zh ?_;repeat' (first | exact trivial | exact rfl | exact zA rfl | exact zH rfl | exact zm | apply And.intro))
        | skip)
  | (refine ⟨⟨y,ids,h,q,e,hr,hy,hi,hd,?_⟩,[],rfl,?_,?_⟩
     . have j3:=js (t3 ‹_› ‹_›);rw [YK,hsz] at j3;exact j3
     . exact QI
     . repeat' (first | exact qH | refine zF ?_ | refine zC ?_ | exact qI | apply And.intro)
       all_goals first
        | exact QL rfl rfl rfl
        | (refine zh ?_;repeat' (first | exact trivial | exact rfl | exact zA rfl | exact zH rfl | exact zm | apply And.intro))
        | skip)
  | skip
end
section
variable (b : List Int) (f t : Adr) (l : List Ctx) (now : Int)
theorem rd5 (hC : Zj f t l now = 0) (hb : BL b) (hbl : b.length <= 140737488355328) (hl : bytesL l) (s : RS5 b f t l now) : Sem Tryz.prog Tryz.f65.ntmps 0 (zC1 14 (Tryz.f65.body.getD Code.ret)) (HS5 b f t l now s).fr (HS5 b f t l now s).H (HS5 b f t l now s).nx (YQ T Tryz.f65.results.toList λx H _=>Done H x (zAN (Zr b f t l now))):=by
 obtain ⟨x,y,ids,c,fl,nx,q,e,hr,hx,hy,hi,j⟩:=s;unfold HS5;dsimp only;have wx : x.tmod 4 = x % 4:=Int.tmod_eq_emod_of_nonneg hx.1;unfold KH at j;rw [YC] at j;obtain ⟨ja,js⟩:=J_if j;have ja:=λhh=>zC4 (ja hh);have rU:=zAO (e:=e) (n:=1) hr;have vU:=zCE (q:=q) (e:=e) hb;obtain ⟨U,eU⟩ : ∃ x,ZM b q e 1 = x:=⟨_,rfl⟩;rw [eU] at ja rU vU;have wu : IntKind.u8.wrap U.1 = U.1:=IntWalk.u8_in _ (by omega);have t1 : x.tmod 4 = 0 -> x % 4 = 0:=λhh=>by rw [<- wx];exact hh
 have t2 : ¬ x.tmod 4 = 0 -> ¬ x % 4 = 0:=λhh h2=>hh (by rw [wx];exact h2);clear j;have g1:=trivial;refine zBC (wd:=1) (by decide) zM (zT qA) (ZE qA) zN (HS6 b f t l now) (λ_=>rfl) ?_ (rd6 b f t l now hC hb hbl hl);repeat' (first | (apply And.intro<;>intro hc<;>(first | exact Bool.noConfusion hc | exact zn2 hc | (simp only [Zi] at hc<;>first | exact absurd rfl hc | exact zn2 hc | skip) | skip)) | (refine And.intro Za ?_) | (apply And.intro) | (refine Exists.intro b (And.intro ⟨rfl,rfl,by first | exact trivial | exact ⟨hr,by decide,by decide⟩⟩ ?_)) | (intro s hs;(first | (clear g1;have q : U = s:=(hs.trans eU).symm;clear hs;subst q) | skip)))
 all_goals try (first | exact rfl | exact λ_=>rfl)
 all_goals first
  | (refine ⟨⟨y,ids,⟨c,fl,nx,U.1,zI,zI,0,0⟩,U.2.1,U.2.2,rU,hy,hi,rfl,rfl,ja (t1 ‹_›)⟩,[],rfl,?_,?_⟩
     . exact QI
     . repeat' (first | exact qH | refine zF ?_ | refine zC ?_ | exact qI | apply And.intro)
       all_goals first
        | exact QL rfl rfl rfl
        | (refine zh ?_;repeat' (first | exact trivial | exact rfl | exact zA rfl | exact zH rfl | exact zm | exact zA wu | apply And.intro))
        | skip)
  | (refine ⟨⟨y,ids,⟨c,fl,nx,Qr (x % 4),zI,zI,0,0⟩,q,e,hr,hy,hi,rfl,rfl,?_⟩,[],rfl,?_,?_⟩
     . have j3:=js (t2 ‹_›);rw [YK] at j3;exact j3
     . exact QI
     . repeat' (first | exact qH | refine zF ?_ | refine zC ?_ | exact qI | apply And.intro)
       all_goals first
        | exact QL rfl rfl rfl
        | (refine zh ?_;repeat' (first | exact trivial | exact rfl | exact zA rfl | exact zH rfl | exact zm | apply And.intro))
        | skip)
  | skip
end
section
variable (b : List Int) (f t : Adr) (l : List Ctx) (now : Int)
theorem rd4 (hC : Zj f t l now = 0) (hb : BL b) (hbl : b.length <= 140737488355328) (hl : bytesL l) (s : RS4 b f t l now) : Sem Tryz.prog Tryz.f65.ntmps 0 (zC1 12 (Tryz.f65.body.getD Code.ret)) (HS4 b f t l now s).fr (HS4 b f t l now s).H (HS4 b f t l now s).nx (YQ T Tryz.f65.results.toList λx H _=>Done H x (zAN (Zr b f t l now))):=by
 obtain ⟨x,y,ids,c,fl,q,e,hr,hx,hy,hi,hf,j⟩:=s;unfold HS4;dsimp only;have w4:=zDe hx 4 2 (by decide) (by decide);unfold KL at j;have j1 : J (qi b f t l now) e (if decide (1048576 <= fl) = true then ((zJ,5),q) else KN b f t l now x y ids c fl q):=by
  refine Eq.mp (congrArg (J _ _) ?_) j;by_cases hh : 1048575 < fl
  . rw [if_pos hh,if_pos (decide_eq_true (show 1048576 <= fl by omega))]
  . rw [if_neg hh,if_neg (λx=>hh (by have:=of_decide_eq_true x;omega))]
 have j2:=zGa (by decide) j1;obtain ⟨E,eE⟩ : ∃ x,za e (decide (1048576 <= fl)) 5 = x:=⟨_,rfl⟩;rw [eE] at j2;unfold KN at j2;rw [YC] at j2;obtain ⟨ja,js⟩:=J_if j2;have ja:=λhh=>zC4 (ja hh);have rU:=zAO (e:=E) (n:=1) hr;have vU:=zCE (q:=q) (e:=E) hb;obtain ⟨U,eU⟩ : ∃ x,ZM b q E 1 = x:=⟨_,rfl⟩;rw [eU] at ja rU vU;have wu : IntKind.u8.wrap U.1 = U.1:=IntWalk.u8_in _ (by omega);obtain ⟨E2,eE2⟩ : ∃ x,za U.2.2 (IntKind.u8.wrap U.1 == 17) 5 = x:=⟨_,rfl⟩;have jb : x / 4 % 2 = 0 -> J (qi b f t l now) E2 (KH b f t l now x y ids c fl U.1 U.2.1):=λhh=>by
  rw [<- eE2];refine zGa (z:=zJ) (q:=U.2.1) (by decide) ?_;refine Eq.mp (congrArg (J _ _) ?_) (ja hh);rw [wu];by_cases h17 : U.1 = 17
  . rw [if_pos ⟨hh,h17⟩,h17];rfl
  . rw [if_neg (λx=>h17 x.2),if_neg (λx=>h17 (by simpa using x))]
 have t1 : (IntKind.i64.wrap (x.tdiv 4)).tmod 2 = 0 -> x / 4 % 2 = 0:=λhh=>by rw [<- w4];exact hh
 have t2 : ¬ (IntKind.i64.wrap (x.tdiv 4)).tmod 2 = 0 -> ¬ x / 4 % 2 = 0:=λhh h2=>hh (by rw [w4];exact h2);clear j j1 j2;obtain ⟨g1,g2⟩:=zg2;refine YO (wd:=1) (by decide) zM (zT qA) zN ?_;repeat' (first | (apply And.intro<;>intro hc<;>(first | exact Bool.noConfusion hc | exact zn2 hc | (simp only [Zi] at hc<;>first | exact absurd rfl hc | exact zn2 hc | skip) | skip)) | (refine And.intro Za ?_) | (apply And.intro) | (refine Exists.intro b (And.intro ⟨rfl,rfl,by first | exact trivial⟩ ?_)) | (intro s hs;(first | (clear g1;have q : s = ((),q,E):=hs.trans (congrArg (λx=>((),q,x)) eE);clear hs;subst q) | skip)))
 all_goals try (first | exact rfl | exact λ_=>rfl)
 refine zBC (wd:=1) (by decide) zM (zT qA) (ZE qA) zN (HS5 b f t l now) (λ_=>rfl) ?_ (rd5 b f t l now hC hb hbl hl);repeat' (first | (apply And.intro<;>intro hc<;>(first | exact Bool.noConfusion hc | exact zn2 hc | (simp only [Zi] at hc<;>first | exact absurd rfl hc | exact zn2 hc | skip) | skip)) | (refine And.intro Za ?_) | (apply And.intro) | (refine Exists.intro b (And.intro ⟨rfl,rfl,by first | exact trivial | exact ⟨hr,by decide,by decide⟩⟩ ?_)) | (intro s hs;(first | (clear g2;have q : U = s:=(hs.trans eU).symm;clear hs;subst q) | (have q : s = ((),U.2.1,E2):=hs.trans (congrArg (λx=>((),U.2.1,x)) eE2);clear hs;subst q) | skip)))
 all_goals try (first | exact rfl | exact λ_=>rfl)
 all_goals first
  | (refine ⟨⟨x,y,ids,c,fl,U.1,U.2.1,E2,rU,hx,hy,hi,jb (t1 ‹_›)⟩,[],rfl,?_,?_⟩
     . exact QI
     . repeat' (first | exact qH | refine zF ?_ | refine zC ?_ | exact qI | apply And.intro)
       all_goals first
        | exact QL rfl rfl rfl
        | (refine zh ?_;repeat' (first | exact trivial | exact rfl | exact zA rfl | exact zH rfl | exact zm | exact zA wu | apply And.intro))
        | skip)
  | (refine ⟨⟨x,y,ids,c,fl,17,q,E,hr,hx,hy,hi,?_⟩,[],rfl,?_,?_⟩
     . have h4:=t2 ‹_›;have j3:=js h4;rw [YK,if_neg (λx=>h4 x.1)] at j3;exact j3
     . exact QI
     . repeat' (first | exact qH | refine zF ?_ | refine zC ?_ | exact qI | apply And.intro)
       all_goals first
        | exact QL rfl rfl rfl
        | (refine zh ?_;repeat' (first | exact trivial | exact rfl | exact zA rfl | exact zH rfl | exact zm | apply And.intro))
        | skip)
  | skip
end
section
variable (b : List Int) (f t : Adr) (l : List Ctx) (now : Int)
theorem rd3 (hC : Zj f t l now = 0) (hb : BL b) (hbl : b.length <= 140737488355328) (hl : bytesL l) (s : RS3 b f t l now) : Sem Tryz.prog Tryz.f65.ntmps 0 (zC1 10 (Tryz.f65.body.getD Code.ret)) (HS3 b f t l now s).fr (HS3 b f t l now s).H (HS3 b f t l now s).nx (YQ T Tryz.f65.results.toList λx H _=>Done H x (zAN (Zr b f t l now))):=by
 obtain ⟨x,y,ids,q,e,hr,hx,hy,hi,j⟩:=s;unfold HS3;dsimp only;have w8:=zDe hx 8 4 (by decide) (by decide);have wx : x.tmod 4 = x % 4:=Int.tmod_eq_emod_of_nonneg hx.1;have hx4 : x % 4 = 0 \/ x % 4 = 1 \/ x % 4 = 2 \/ x % 4 = 3:=by omega
 unfold K0 at j;rw [YC] at j;obtain ⟨jA,jB⟩:=J_if j;have b0 : x / 8 % 4 = 0 -> J (qi b f t l now) (ZM b (ZM b q e 1).2.1 (ZM b q e 1).2.2 3).2.2 (KL b f t l now x y ids (ZM b q e 1).1 (ZM b (ZM b q e 1).2.1 (ZM b q e 1).2.2 3).1 (ZM b (ZM b q e 1).2.1 (ZM b q e 1).2.2 3).2.1):=λh0=>by
  have a1:=zC4 (jA (.inl h0));rw [YC,if_pos (.inl h0)] at a1;exact zC4 a1
 have b2 : x / 8 % 4 = 2 -> J (qi b f t l now) (ZM b q e 1).2.2 (KL b f t l now x y ids (ZM b q e 1).1 0 (ZM b q e 1).2.1):=λh0=>by
  have a1:=zC4 (jA (.inr h0));rw [YC,if_neg (by omega),YK] at a1;exact a1
 have b1 : x / 8 % 4 = 1 -> J (qi b f t l now) (ZM b q e 3).2.2 (KL b f t l now x y ids 0 (ZM b q e 3).1 (ZM b q e 3).2.1):=λh0=>by
  have a1:=jB (by omega);rw [YK,YC,if_pos (.inr h0)] at a1;exact zC4 a1
 have b3 : ¬ x / 8 % 4 = 0 -> ¬ x / 8 % 4 = 1 -> ¬ x / 8 % 4 = 2 -> J (qi b f t l now) e (KL b f t l now x y ids 0 0 q):=λh0 h1 h2=>by
  have a1:=jB (by omega);rw [YK,YC,if_neg (by omega),YK] at a1;exact a1
 have rC:=zAO (e:=e) (n:=1) hr;have rF:=zAO (e:=(ZM b q e 1).2.2) (n:=3) rC;have rG:=zAO (e:=e) (n:=3) hr;have vC:=zCE (q:=q) (e:=e) hb;have vF:=uintS_3 (q:=(ZM b q e 1).2.1) (e:=(ZM b q e 1).2.2) hb;have vG:=uintS_3 (q:=q) (e:=e) hb;obtain ⟨C,eC⟩ : ∃ x,ZM b q e 1 = x:=⟨_,rfl⟩;rw [eC] at b0 b2 rC rF vC vF;obtain ⟨F,eF⟩ : ∃ x,ZM b C.2.1 C.2.2 3 = x:=⟨_,rfl⟩;rw [eF] at b0 rF vF;obtain ⟨G,eG⟩ : ∃ x,ZM b q e 3 = x:=⟨_,rfl⟩;rw [eG] at b1 rG vG;have wc : IntKind.u8.wrap C.1 = C.1:=IntWalk.u8_in _ (by omega);have wf : IntKind.u32.wrap F.1 = F.1:=IntWalk.u32_in _ (by omega);have wf1 : IntKind.u32.wrap G.1 = G.1:=IntWalk.u32_in _ (by omega);rw [<- w8] at b0 b1 b2 b3;clear j jA jB;obtain ⟨g1,g2,g3⟩:=zg3;refine YO (wd:=1) (by decide) zM (zT qA) zN ?_;repeat' (first | (apply And.intro<;>intro hc<;>(first | exact Bool.noConfusion hc | exact zn2 hc | (simp only [Zi] at hc<;>first | exact absurd rfl hc | exact zn2 hc | skip) | skip)) | (refine And.intro Za ?_) | (apply And.intro) | (refine Exists.intro b (And.intro ⟨rfl,rfl,by first | exact trivial⟩ ?_)) | (intro s hs;skip))
 all_goals try (first | exact rfl | exact λ_=>rfl | omega)
 refine zBC (wd:=1) (by decide) zM (zT qA) (ZE qA) zN (HS4 b f t l now) (λ_=>rfl) ?_ (rd4 b f t l now hC hb hbl hl);repeat' (first | (apply And.intro<;>intro hc<;>(first | exact Bool.noConfusion hc | exact zn2 hc | (simp only [Zi] at hc<;>first | exact absurd rfl hc | exact zn2 hc | skip) | skip)) | (refine And.intro Za ?_) | (apply And.intro) | (refine Exists.intro b (And.intro ⟨rfl,rfl,by first | exact trivial | exact ⟨hr,by decide,by decide⟩ | exact ⟨rC,by decide,by decide⟩⟩ ?_)) | (intro s hs;(first | (clear g1;(first | have h0 : (IntKind.i64.wrap (x.tdiv 8)).tmod 4 = 0:=‹_› | have h0 : (IntKind.i64.wrap (x.tdiv 8)).tmod 4 = 2:=‹_›);have q : C = s:=(hs.trans eC).symm;clear hs;subst q) | (clear g2;have h0 : (IntKind.i64.wrap (x.tdiv 8)).tmod 4 = 0:=‹_›;have q : F = s:=(hs.trans eF).symm;clear hs;subst q) | (clear g3;have h0 : (IntKind.i64.wrap (x.tdiv 8)).tmod 4 = 1:=‹_›;have q : G = s:=(hs.trans eG).symm;clear hs;subst q) | skip)))
 all_goals try (first | exact rfl | exact λ_=>rfl)
 all_goals first
  | (refine ⟨⟨x,y,ids,C.1,F.1,F.2.1,F.2.2,rF,hx,hy,hi,vF,b0 ‹_›⟩,[],rfl,?_,?_⟩
     . exact QI
     . repeat' (first | exact qH | refine zF ?_ | refine zC ?_ | exact qI | apply And.intro)
       all_goals first
        | exact QL rfl rfl rfl
        | (refine zh ?_;repeat' (first | exact trivial | exact rfl | exact zA rfl | exact zH rfl | exact zm | (refine zA ?_;first | exact wc | exact wf | exact wf1 | (rw [wx];rcases hx4 with h4 | h4 | h4 | h4<;>rw [h4]<;>rfl)) | apply And.intro))
        | skip)
  | (refine ⟨⟨x,y,ids,0,G.1,G.2.1,G.2.2,rG,hx,hy,hi,vG,b1 ‹_›⟩,[],rfl,?_,?_⟩
     . exact QI
     . repeat' (first | exact qH | refine zF ?_ | refine zC ?_ | exact qI | apply And.intro)
       all_goals first
        | exact QL rfl rfl rfl
        | (refine zh ?_;repeat' (first | exact trivial | exact rfl | exact zA rfl | exact zH rfl | exact zm | (refine zA ?_;first | exact wc | exact wf | exact wf1 | (rw [wx];rcases hx4 with h4 | h4 | h4 | h4<;>rw [h4]<;>rfl)) | apply And.intro))
        | skip)
  | (refine ⟨⟨x,y,ids,C.1,0,C.2.1,C.2.2,rC,hx,hy,hi,⟨by decide,by decide⟩,b2 ‹_›⟩,[],rfl,?_,?_⟩
     . exact QI
     . repeat' (first | exact qH | refine zF ?_ | refine zC ?_ | exact qI | apply And.intro)
       all_goals first
        | exact QL rfl rfl rfl
        | (refine zh ?_;repeat' (first | exact trivial | exact rfl | exact zA rfl | exact zH rfl | exact zm | (refine zA ?_;first | exact wc | exact wf | exact wf1 | (rw [wx];rcases hx4 with h4 | h4 | h4 | h4<;>rw [h4]<;>rfl)) | apply And.intro))
        | skip)
  | (refine ⟨⟨x,y,ids,0,0,q,e,hr,hx,hy,hi,⟨by decide,by decide⟩,b3 ‹_› ‹_› ‹_›⟩,[],rfl,?_,?_⟩
     . exact QI
     . repeat' (first | exact qH | refine zF ?_ | refine zC ?_ | exact qI | apply And.intro)
       all_goals first
        | exact QL rfl rfl rfl
        | (refine zh ?_;repeat' (first | exact trivial | exact rfl | exact zA rfl | exact zH rfl | exact zm | (refine zA ?_;first | exact wc | exact wf | exact wf1 | (rw [wx];rcases hx4 with h4 | h4 | h4 | h4<;>rw [h4]<;>rfl)) | apply And.intro))
        | skip)
  | skip
end
end Go.Proofs.YtjknkfjhcapocaaGreatDoor.AX
