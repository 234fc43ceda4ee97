/- Texts of one's own in one file: IhP, Dp, Ad, Pv, Ih, R12, Ih2, Ih3, Ih4, PkM, PkQ, PkR, PkT, Ih5, Oc2, Rd2, Rd3, Rd4p, Rd4a, Rd4b, Rd4c. -/
import Derived.Test.YtjknkfjhcapocaaJIphcDecodesc
set_option linter.unusedVariables false
set_option linter.unusedSimpArgs false
set_option maxHeartbeats 16000000
set_option maxRecDepth 20000
namespace Go.Proofs.Ytjknkfjhcapocaa.AX
open Go.RowKit
structure Fm where
 ctx : Bool
 id : Int
 mode : Int
instance : Inhabited Fm := ⟨⟨false, 0, 0⟩⟩
def eFmC (x : Fm) (j : Nat) : CV := bif Nat.beq j 0 then .bool x.ctx else bif Nat.beq j 1 then .int .i64 x.id else (.int .i64 x.mode)
def eFm : Elem Fm where
 sz := 3
 cell := eFmC
 rd g := ⟨valB (g 0), valI (g 1), valI (g 2)⟩
 ok g := isB (g 0) && isK .i64 (g 1) && isK .i64 (g 2)
 ok_eq g h j hj := by
  simp only [Bool.and_eq_true] at h
  unfold eFmC
  by_cases c0 : j < 1
  . have e : j = 0 := by omega
    subst e
    exact isB_eq h.1.1
  by_cases c1 : j < 2
  . have e : j = 1 := by omega
    subst e
    exact isK_eq h.1.2
  by_cases c2 : j < 3
  . have e : j = 2 := by omega
    subst e
    exact isK_eq h.2
  omega
 flat a j := by
  unfold eFmC
  cases Nat.beq j 0 with
  | true => exact flat_bool
  | false =>
  cases Nat.beq j 1 with
  | true => exact flat_int
  | false =>
  exact flat_int
abbrev Form := Fm × List Int
def zeroA : Fin 16 -> Int := fun _ => 0
def iidsF (iid : Int) (k : Adr) : Int × List Int :=
 if iidF k = (iid, true) then (3, []) else if bits .andNot .u64 iid 65535 = 1099478073344 then (2, beB iid 2) else (1, beB iid 8)
def coverF (a : Fin 16 -> Int) (l : List Ctx) (now : Int) : Bool := (forCom l a now).2 && decide ((forCom l a now).1.bits <= 64) && decide (hiF (forCom l a now).1.ip = hiF a)
def uniF (a : Fin 16 -> Int) (k : Adr) (source : Bool) (l : List Ctx) (now : Int) : Form :=
 if source = true /\ ipEq a zeroA = true then (⟨true, 0, 0⟩, [])
 else if hiF a = 18338657682652659712 then (⟨false, 0, (iidsF (loF a) k).1⟩, (iidsF (loF a) k).2)
 else if coverF a l now = true then (⟨true, (forCom l a now).1.id, (iidsF (loF a) k).1⟩, (iidsF (loF a) k).2)
 else (⟨false, 0, 0⟩, ipL a)
def zr (a : Fin 16 -> Int) (i j : Nat) : Bool := (((ipL a).drop i).take (j - i)).all fun x => x == 0
def grpF (a : Fin 16 -> Int) : Form :=
 if vget a 1 = 2 /\ zr a 2 15 = true then (⟨false, 0, 3⟩, [vget a 15])
 else if zr a 2 13 = true then (⟨false, 0, 2⟩, [vget a 1, vget a 13, vget a 14, vget a 15])
 else if zr a 2 11 = true then (⟨false, 0, 1⟩, [vget a 1, vget a 11, vget a 12, vget a 13, vget a 14, vget a 15])
 else (⟨false, 0, 0⟩, ipL a)
def flowF (p : Pkt) : Int × List Int :=
 if p.1.cls ≠ 0 /\ p.1.flow ≠ 0 then (0, [p.1.cls] ++ beB p.1.flow 3)
 else if p.1.flow ≠ 0 then (1, [] ++ beB p.1.flow 3)
 else if p.1.cls ≠ 0 then (2, [p.1.cls])
 else (3, [])
def hopF (h : Int) : Int := if h = 1 then 1 else if h = 64 then 2 else if h = 255 then 3 else 0
def bitV (b : Bool) (v : Int) : Int := if b = true then v else 0
def inlF (p : Pkt) : List Int := (flowF p).2 ++ (if p.1.nxt = 17 then [] else [p.1.nxt]) ++ (if hopF p.1.hops = 0 then [p.1.hops] else [])
def firstF (p : Pkt) : Int := 96 + 8 * (flowF p).1 + bitV (decide (p.1.nxt = 17)) 4 + hopF p.1.hops
def checkF (f t : Adr) (l : List Ctx) (now : Int) : Int := if adrValid f = true /\ adrValid t = true /\ validT l = true then (if vt now = true then 0 else 2) else 1
def dstF (p : Pkt) (t : Adr) (l : List Ctx) (now : Int) : Form := if mcast p.1.dst = true then grpF p.1.dst else uniF p.1.dst t false l now
def secF (s d : Fm) (m : Bool) : Int := bitV (decide (16 * s.id + d.id ≠ 0)) 128 + bitV s.ctx 64 + 16 * s.mode + bitV m 8 + bitV d.ctx 4 + d.mode
def joinH (p : Pkt) (s d : Form) : List Int := [firstF p, secF s.1 d.1 (mcast p.1.dst)] ++ (if 16 * s.1.id + d.1.id ≠ 0 then [16 * s.1.id + d.1.id] else []) ++ inlF p ++ s.2 ++ d.2
def encI (p : Pkt) (f t : Adr) (l : List Ctx) (now : Int) : List Int × Int :=
 if validP p = false then ([], 1)
 else if checkF f t l now ≠ 0 then ([], checkF f t l now)
 else (joinH p (uniF p.1.src f true l now) (dstF p t l now), 0)
theorem beB_n (v : Int) (n : Nat) (h : n <= 8) : (beB v n).length = n := by
 unfold beB
 rw [if_pos (by omega), beN_len]
 omega
theorem iids_len (y : Int) (k : Adr) : (iidsF y k).2.length <= 8 := by
 unfold iidsF
 split
 . simp
 . split
   . exact Nat.le_trans (Nat.le_of_eq (beB_n y 2 (by decide))) (by decide)
   . exact Nat.le_of_eq (beB_n y 8 (by decide))
theorem uni_len (a : Fin 16 -> Int) (k : Adr) (s : Bool) (l : List Ctx) (now : Int) : (uniF a k s l now).2.length <= 16 := by
 have := iids_len (loF a) k
 unfold uniF
 split
 . simp
 . split
   . dsimp only; omega
   . split
     . dsimp only; omega
     . dsimp only; rw [ipL_len]; exact Nat.le_refl _
theorem grp_len (a : Fin 16 -> Int) : (grpF a).2.length <= 16 /\ (grpF a).1.id = 0 := by
 unfold grpF
 split
 . exact ⟨by simp, rfl⟩
 . split
   . exact ⟨by simp, rfl⟩
   . split
     . exact ⟨by simp, rfl⟩
     . exact ⟨by dsimp only; rw [ipL_len]; exact Nat.le_refl _, rfl⟩
theorem inl_len (p : Pkt) : (inlF p).length <= 6 := by
 have h3 := beB_n p.1.flow 3 (by decide)
 have h3' : (beB p.1.flow 3).length = 3 := h3
 have h1 : (flowF p).2.length <= 4 := by
  unfold flowF
  split
  . simp [h3']
  . split
    . simp [h3']
    . split <;> simp
 unfold inlF
 rw [List.length_append, List.length_append]
 have h4 : (if p.1.nxt = 17 then [] else [p.1.nxt]).length <= 1 := by split <;> simp
 have h5 : (if hopF p.1.hops = 0 then [p.1.hops] else []).length <= 1 := by split <;> simp
 omega
theorem join_len (p : Pkt) (s d : Form) : (joinH p s d).length = 2 + (if 16 * s.1.id + d.1.id ≠ 0 then 1 else 0) + (inlF p).length + s.2.length + d.2.length := by
 unfold joinH
 simp only [List.length_append, List.length_cons, List.length_nil]
 split <;> simp
theorem forCom_id {l : List Ctx} {a : Fin 16 -> Int} {now : Int} (h : (forCom l a now).2 = true) : 0 <= (forCom l a now).1.id /\ (forCom l a now).1.id < 16 := by
 obtain ⟨h1, _, h2, _⟩ := forCom_in h
 have := valid_lt h1 h2
 omega
theorem uni_id (a : Fin 16 -> Int) (k : Adr) (s : Bool) (l : List Ctx) (now : Int) : 0 <= (uniF a k s l now).1.id /\ (uniF a k s l now).1.id < 16 := by
 unfold uniF
 split
 . exact ⟨(by decide : (0 : Int) <= 0), (by decide : (0 : Int) < 16)⟩
 . split
   . exact ⟨(by decide : (0 : Int) <= 0), (by decide : (0 : Int) < 16)⟩
   . split
     . rename_i h
       unfold coverF at h
       simp only [Bool.and_eq_true] at h
       exact forCom_id h.1.1
     . exact ⟨(by decide : (0 : Int) <= 0), (by decide : (0 : Int) < 16)⟩
theorem dst_len (p : Pkt) (k : Adr) (l : List Ctx) (now : Int) : (dstF p k l now).2.length <= 16 := by
 unfold dstF
 split
 . exact (grp_len _).1
 . exact uni_len _ _ _ _ _
theorem encI_ok {p : Pkt} {f t : Adr} {l : List Ctx} {now : Int} (hp : validP p = true) (hf : adrValid f = true) (ht : adrValid t = true) (hl : validT l = true) (hn : vt now = true) : encI p f t l now = (joinH p (uniF p.1.src f true l now) (dstF p t l now), 0) := by
 have hc : checkF f t l now = 0 := by unfold checkF; rw [if_pos ⟨hf, ht, hl⟩, if_pos hn]
 unfold encI
 rw [if_neg (by rw [hp]; decide), if_neg (by rw [hc]; decide)]
theorem iids_own {k : Adr} {y : Int} (h : iidF k = (y, true)) : iidsF y k = (3, []) := if_pos h
def hP (hops : Int) (src dst : Fin 16 -> Int) : Pkt := (⟨0, 0, 17, hops, src, dst, 0, 0⟩, [])
abbrev RD (α : Type) := (α × Int) × Int
def thenD {α β : Type} (x : RD α) (z : β) (f : α -> Int -> RD β) : RD β := if x.1.2 = 0 then f x.1.1 x.2 else ((z, x.1.2), x.2)
theorem thenD_ok {α β : Type} {v : α} {q : Int} {z : β} {f : α -> Int -> RD β} : thenD ((v, 0), q) z f = f v q := if_pos rfl
theorem thenD_err {α β : Type} {v : α} {e q : Int} {z : β} {f : α -> Int -> RD β} (h : e ≠ 0) : thenD ((v, e), q) z f = ((z, e), q) := if_neg h
def numF (b : List Int) (q n : Int) : RD Int := if (uintF b q n).2 = true then (((uintF b q n).1, 0), q + n) else ((0, 4), q)
def ipAt (b : List Int) (q : Int) : Fin 16 -> Int := fun i => b.getD (q.toNat + i.1) default
def ipRF (b : List Int) (q : Int) : RD (Fin 16 -> Int) := if (b.length : Int) - q < 16 then ((zeroA, 4), q) else ((ipAt b q, 0), q + 16)
def bitAt (y k : Int) : Bool := decide (y / k % 2 = 1)
def badY (y : Int) : Bool := bitAt y 4 && (bitAt y 8 || decide (y % 4 = 0))
abbrev I3 := Int × Int × Int
def z3 : I3 := (0, 0, 0)
def startF (b : List Int) (q : Int) : RD I3 :=
 thenD (numF b q 1) z3 fun x q => if x < 96 \/ 127 < x then ((z3, 5), q) else
  thenD (numF b q 1) z3 fun y q => if badY y = true then ((z3, 5), q) else if 128 <= y then thenD (numF b q 1) z3 fun i q => (((x, y, i), 0), q) else (((x, y, 0), 0), q)
def zeroH : Hdr := ⟨0, 0, 0, 0, zeroA, zeroA, 0, 0⟩
def hopV (h : Int) : Int := if h = 1 then 1 else if h = 2 then 64 else if h = 3 then 255 else 0
def fieldsD (b : List Int) (x q : Int) : RD Hdr :=
 thenD (if x / 8 % 4 = 0 \/ x / 8 % 4 = 2 then numF b q 1 else ((0, 0), q)) zeroH fun c q =>
 thenD (if x / 8 % 4 = 0 \/ x / 8 % 4 = 1 then numF b q 3 else ((0, 0), q)) zeroH fun fl q => if 1048575 < fl then ((zeroH, 5), q) else
 thenD (if x / 4 % 2 = 0 then numF b q 1 else ((17, 0), q)) zeroH fun nx q => if x / 4 % 2 = 0 /\ nx = 17 then ((zeroH, 5), q) else
 thenD (if x % 4 = 0 then numF b q 1 else ((hopV (x % 4), 0), q)) zeroH fun hp q => ((⟨c, fl, nx, hp, zeroA, zeroA, 0, 0⟩, 0), q)
def prefD (ctx : Bool) (C : Ctx × Bool) : Pfx := if ctx = true then pfxOf C.1 else llP
def uniV (b : List Int) (mode : Int) (k : Adr) (P : Pfx) (q : Int) : RD (Fin 16 -> Int) :=
 if mode = 0 then ipRF b q else if mode = 1 then thenD (numF b q 8) zeroA fun v q => ((jn P.ip v, 0), q)
 else if mode = 2 then thenD (numF b q 2) zeroA fun v q => ((jn P.ip (v + 1099478073344), 0), q)
 else ((jn P.ip (iidF k).1, 0), q)
def uniD (b : List Int) (ctx : Bool) (mode : Int) (k : Adr) (C : Ctx × Bool) (q : Int) : RD (Fin 16 -> Int) :=
 if mode = 3 /\ (iidF k).2 = false then ((zeroA, 5), q)
 else if ctx = true /\ C.2 = false then ((zeroA, 9), q)
 else if ctx = true /\ 64 < C.1.bits then ((zeroA, 5), q)
 else thenD (uniV b mode k (prefD ctx C) q) zeroA fun a q => if mcast a = true then ((zeroA, 5), q) else ((a, 0), q)
def grpN (mode : Int) : Int := if mode = 1 then 6 else if mode = 2 then 4 else 1
def grpV (n : Nat) (w : List Int) : Fin 16 -> Int := fun i => if i.1 = 0 then 255 else if i.1 = 1 then (if n = 1 then 2 else w.getD 0 default) else if i.1 + n < 17 /\ n ≠ 1 \/ i.1 < 15 /\ n = 1 then 0 else w.getD (i.1 + n - 16) default
def grpD (b : List Int) (mode q : Int) : RD (Fin 16 -> Int) :=
 if mode = 0 then thenD (ipRF b q) zeroA fun a q => if mcast a = true then ((a, 0), q) else ((a, 5), q)
 else thenD (numF b q (grpN mode)) zeroA fun v q' => ((grpV (grpN mode).toNat ((b.drop q.toNat).take (grpN mode).toNat), 0), q')
def srcD (b : List Int) (y ids : Int) (f : Adr) (l : List Ctx) (now q : Int) : RD (Fin 16 -> Int) :=
 if bitAt y 64 = false \/ y / 16 % 4 ≠ 0 then uniD b (bitAt y 64) (y / 16 % 4) f (forDec l (ids / 16) now) q else ((zeroA, 0), q)
def dstD (b : List Int) (y ids : Int) (t : Adr) (l : List Ctx) (now q : Int) : RD (Fin 16 -> Int) :=
 if bitAt y 8 = true then grpD b (y % 4) q else uniD b (bitAt y 4) (y % 4) t (forDec l (ids % 16) now) q
def readD (b : List Int) (f t : Adr) (l : List Ctx) (now : Int) : RD Hdr :=
 thenD (startF b 0) zeroH fun s q => thenD (fieldsD b s.1 q) zeroH fun h q =>
 thenD (srcD b s.2.1 s.2.2 f l now q) zeroH fun src q => thenD (dstD b s.2.1 s.2.2 t l now q) zeroH fun dst q => (({ h with src := src, dst := dst }, 0), q)
def decI (b : List Int) (f t : Adr) (l : List Ctx) (now : Int) : (Pkt × Int) × Int :=
 if checkF f t l now ≠ 0 then (((zeroH, []), 0), checkF f t l now)
 else if (readD b f t l now).1.2 = 0 then ((((readD b f t l now).1.1, []), (readD b f t l now).2), 0) else (((zeroH, []), 0), (readD b f t l now).1.2)
theorem zero_eq3 (b : Adr) (h : b.mode = 0) : eqFrom (fun q => eAdr.cell b q) (nth [CV.int .i64 0, .int .u16 0, .int .u64 0]) 3 0 = ((b.short == 0) && (b.eui == 0)) := by
 rw [Bool.eq_iff_iff, eqFrom_iff]
 constructor
 . intro g
   have g1 := g 1 (by decide)
   have g2 := g 2 (by decide)
   have g1' : eqCell (.int .u16 b.short) (.int .u16 0) = true := g1
   have g2' : eqCell (.int .u64 b.eui) (.int .u64 0) = true := g2
   simp [eqCell] at g1' g2'
   simp [g1', g2']
 . intro g
   simp at g
   intro i hi
   rcases i with _ | _ | _ | i
   . show eqCell (.int .i64 b.mode) (.int .i64 0) = true
     rw [h]; rfl
   . show eqCell (.int .u16 b.short) (.int .u16 0) = true
     rw [g.1]; rfl
   . show eqCell (.int .u64 b.eui) (.int .u64 0) = true
     rw [g.2]; rfl
   . omega
theorem avalid_ok (a : Adr) : PureOk Try.prog 111 [(cE eAdr).enc a] (cB.enc (adrValid a)) := by
 refine pure_intro (wd := 1) (Q := mkQ LE0) (by decide) tysOk (q_of LE0_ok) mixed Try.func111 rfl _ (by show 1 <= _; decide) _ ?_
 repeat' (first | (apply And.intro <;> intro hc <;> (first | exact Bool.noConfusion hc | (simp only [zb0] at hc) | skip)) | (refine And.intro zp0 ?_) | (apply And.intro) | (intro s hs))
 all_goals first
  | (refine Done.mk (leF_bool ?_); simp [adrValid, *]; done)
  | (refine Done.mk (leF_bool ((zero_eq3 a (by assumption)).trans ?_)); simp [adrValid, *])
def LAd0 : CsL := (111, some (pureE (AC.cons (cE eAdr) AC.nil) (fun _ => True) (fun a => adrValid a.1) cB.enc)) :: (LE3 ++ LPb)
theorem LAd0_ok : AllOk Try.prog LAd0 := ⟨pureE_ok ⟨_, Try.func111, rfl, by kernel_rfl⟩ fun a _ => avalid_ok a.1, append_ok LE3_ok LPb_ok⟩
theorem iid_2 {a : Adr} (h : adrValid a = true) (h2 : a.mode = 2) : iidF a = (IntKind.u64.wrap (1099478073344 + IntKind.u64.wrap a.short), true) := by
 unfold iidF adrSome
 rw [if_pos (by rw [h, h2]; rfl), if_neg (by rw [h2]; decide)]
theorem iid_3 {a : Adr} (h : adrValid a = true) (h2 : a.mode = 3) : iidF a = (bits .xor .u64 a.eui 144115188075855872, true) := by
 unfold iidF adrSome
 rw [if_pos (by rw [h, h2]; rfl), if_pos h2]
theorem iid_no {a : Adr} (h : adrValid a = false) : iidF a = (0, false) := by
 unfold iidF adrSome
 rw [h]; rfl
theorem iid_0 {a : Adr} (h : adrValid a = true) (h2 : ¬ a.mode = 2) (h3 : ¬ a.mode = 3) : iidF a = (0, false) := by
 have : a.mode = 0 := by
  unfold adrValid at h
  rw [if_neg h2, if_neg h3] at h
  split at h
  . assumption
  . cases h
 unfold iidF adrSome
 rw [if_neg (by rw [this]; simp)]
theorem aiid_ok (a : Adr) : PureOk Try.prog 120 [(cE eAdr).enc a] (encIB (iidF a)) := by
 refine pure_intro (wd := 1) (Q := mkQ LAd0) (by decide) tysOk (q_of LAd0_ok) mixed Try.func120 rfl _ (by show 1 <= _; decide) _ ?_
 repeat' (first | (apply And.intro <;> intro hc <;> (first | exact Bool.noConfusion hc | (simp only [zb0, ne_eq, not_true_eq_false] at hc <;> first | exact absurd rfl hc | skip) | skip)) | (refine And.intro zp1 ?_) | (apply And.intro) | (intro s hs; (have q : s = adrValid a := hs.trans (congrArg adrValid (rd_adr a)); clear hs; subst q)))
 all_goals first
  | (rw [iid_no (by assumption)]; exact Done.mk (leF_tup ⟨leC_int rfl, leC_bool rfl, trivial⟩))
  | (rw [iid_2 (by assumption) (by assumption)]; exact Done.mk (leF_tup ⟨leC_int rfl, leC_bool rfl, trivial⟩))
  | (rw [iid_3 (by assumption) (by assumption)]; exact Done.mk (leF_tup ⟨leC_int rfl, leC_bool rfl, trivial⟩))
  | (rw [iid_0 (by assumption) (by assumption) (by assumption)]; exact Done.mk (leF_tup ⟨leC_int rfl, leC_bool rfl, trivial⟩))
def encUU (r : Int × Int) : FV := .tup [.c (.int .u64 r.1), .c (.int .u64 r.2)]
theorem uint_hi (a : Fin 16 -> Int) : uintF (ipL a) 0 8 = (hiF a, true) := by
 unfold uintF hiF
 rw [if_pos (by rw [ipL_len]; omega)]; rfl
theorem uint_lo (a : Fin 16 -> Int) : uintF (ipL a) 8 8 = (loF a, true) := by
 unfold uintF loF
 rw [if_pos (by rw [ipL_len]; omega)]
 show (beVal ((List.drop 8 (ipL a)).take 8), true) = _
 rw [List.take_of_length_le (by rw [List.length_drop, ipL_len]; decide)]
theorem ip_toL (a : Fin 16 -> Int) {n : Nat} {F : Nat -> Nat -> CV} (hn : n = 16) (h : ∀ k, F k 0 = .int .u8 (vget a k)) : toL eB n F = ipL a := by
 subst hn
 exact toL_ip fun k _ => h k
theorem ip_fn (a : Fin 16 -> Int) : toL eB (16 - 0) (fun k q => (fun x : Nat => (eA IntKind.u8 16).cell a) 0 (0 + 0 * 1 + (k * 1 + q))) = ipL a := ip_toL a rfl fun k => congrArg (fun j => CV.int .u8 (vget a j)) (by omega)
theorem ip_len' (a : Fin 16 -> Int) : (ipL a).length <= 70368744177664 := by rw [ipL_len]; decide
theorem asplit_ok (a : Fin 16 -> Int) (ha : byteOk a) : PureOk Try.prog 113 [(cE (eA .u8 16)).enc a] (encUU (splF a)) := by
 have g1 : True := trivial
 refine pure_intro (wd := 1) (Q := mkQ LAd0) (by decide) tysOk (q_of LAd0_ok) mixed Try.func113 rfl _ (by show 1 <= _; decide) _ ?_
 repeat' (first | (apply And.intro <;> intro hc <;> (first | exact Bool.noConfusion hc | (simp only [zb0, ne_eq, not_true_eq_false] at hc <;> first | exact absurd rfl hc | skip) | skip)) | (refine And.intro zp1 ?_) | (apply And.intro) | (intro s hs; (first | (clear g1; have q : s = (hiF a, true) := hs.trans ((congrArg (fun l => uintF l 0 8) (ip_fn a)).trans (uint_hi a)); clear hs; subst q) | (have q : s = (loF a, true) := hs.trans ((congrArg (fun l => uintF l 8 8) (ip_fn a)).trans (uint_lo a)); clear hs; subst q))))
 all_goals first
  | exact fun i hi => rfl
  | exact Eq.mp (congrArg BL (ip_fn a).symm) (ipBL ha)
  | exact Eq.mp (congrArg (fun l : List Int => l.length <= 70368744177664) (ip_fn a).symm) (ip_len' a)
  | exact Done.mk (leF_tup ⟨leC_int rfl, leC_int rfl, trivial⟩)
def joinF (p : Pfx) (y : Int) : (Fin 16 -> Int) × Bool := if vpf p = true /\ p.bits <= 64 then (jn p.ip y, true) else (zeroA, false)
def encIpB (r : (Fin 16 -> Int) × Bool) : FV := .tup [.agg 16 ((eA .u8 16).cell r.1), .c (.bool r.2)]
theorem beB_M (y : Int) : [] ++ beB y 8 = beM y 8 := by rw [List.nil_append, beB8, beM_eq y 8 (by decide)]
theorem ajoin_ok (p : Pfx) (y : Int) : PureOk Try.prog 115 [(cE ePfx).enc p, (cI .u64).enc y] (encIpB (joinF p y)) := by
 have g1 : True := trivial
 obtain ⟨J, eJ⟩ : ∃ J, joinF p y = J := ⟨_, rfl⟩
 rw [eJ]
 refine pure_intro (wd := 1) (Q := mkQ LAd0) (by decide) tysOk (q_of LAd0_ok) mixed Try.func115 rfl _ (by show 2 <= _; decide) _ ?_
 repeat' (first | (apply And.intro <;> intro hc <;> (first | exact Bool.noConfusion hc | (simp only [zb0, ne_eq, not_true_eq_false] at hc <;> first | exact absurd rfl hc | skip) | skip)) | (refine And.intro zp1 ?_) | (apply And.intro) | (intro s hs; (first | (clear g1; have q : s = vpf p := hs.trans (congrArg vpf (rd_pfx p)); clear hs; subst q) | (have q : s = beM y 8 := hs.trans (beB_M y); clear hs; subst q))))
 . have e : J = (zeroA, false) := by rw [<- eJ]; unfold joinF; rw [if_neg (fun h => by have := h.1; simp_all)]
   rw [e]
   refine Done.mk (leF_tup ?_)
   repeat' (first | exact zw2 | refine leE_all ?_ | exact leC_bool (by assumption) | apply And.intro)
 . have e : J = (zeroA, false) := by rw [<- eJ]; unfold joinF; rw [if_neg (fun h => by have := h.2; omega)]
   rw [e]
   refine Done.mk (leF_tup ?_)
   repeat' (first | exact zw2 | refine leE_all ?_ | exact leC_bool (by assumption) | apply And.intro)
 . exact Nat.zero_le _
 . exact Nat.le_refl _
 . have e : J = (jn p.ip y, true) := by rw [<- eJ]; unfold joinF; rw [if_pos ⟨by assumption, by omega⟩]
   rw [e]
   exact Done.mk (leF_tup ⟨leE_all (by repeat' (first | exact zw2 | refine leE_all ?_ | exact leC_bool (by assumption) | apply And.intro)), leC_bool rfl, trivial⟩)
abbrev aIp : AC ((Fin 16 -> Int) × Unit) := AC.cons (cE (eA .u8 16)) AC.nil
def LAd : CsL := (120, some (pureE (AC.cons (cE eAdr) AC.nil) (fun _ => True) (fun a => iidF a.1) encIB)) ::
 (113, some (pureE aIp (fun a => byteOk a.1) (fun a => splF a.1) encUU)) ::
 (115, some (pureE (AC.cons (cE ePfx) (AC.cons (cI .u64) AC.nil)) (fun _ => True) (fun a => joinF a.1 a.2.1) encIpB)) :: LAd0
theorem LAd_ok : AllOk Try.prog LAd := ⟨pureE_ok ⟨_, Try.func120, rfl, by kernel_rfl⟩ fun a _ => aiid_ok a.1, pureE_ok ⟨_, Try.func113, rfl, by kernel_rfl⟩ fun a h => asplit_ok a.1 h, pureE_ok ⟨_, Try.func115, rfl, by kernel_rfl⟩ fun a _ => ajoin_ok a.1 a.2.1, LAd0_ok⟩
def cPv {α : Type} (E : Elem α) : Codec α where
 enc a := .e (.c (.rp false E.sz (E.cell a)))
 dec H x := match x with
  | .e (.c (.ptr k 0 0 _)) => match hget H k with
    | some e => bif Nat.blt 0 e.n && Nat.beq e.sz E.sz && E.ok (e.f 0) then some (E.rd (e.f 0), none, [k]) else none
    | none => none
  | _ => none
 sound H H' x a p rd h hp hh := by
  split at h
  . rename_i k fl
    split at h
    . rename_i e he
      obtain ⟨hb, h⟩ := cond_some h
      injection h with h h'
      injection h' with h' h''
      subst h h' h''
      rw [Bool.and_eq_true, Bool.and_eq_true] at hb
      have hsz := Nat.eq_of_beq_eq_true hb.1.2
      have he' : hget H' k = some e := by rw [<- hh k (List.mem_cons_self ..)]; exact he
      rintro cx r w v st ⟨y, hy, rfl⟩
      refine ⟨⟨y.b, 0 * y.sz + 0, none⟩, rfl, rfl, ?_, (fun h => by cases h), (st.dom k y hy.1).1, fun j hj => ?_⟩
      . rintro ⟨k2, e2, z, q1, q2, q3, q4⟩
        have := st.inj k2 k e2 _ z y q1 he' q2 hy.1 q3
        exact q4 (by rw [this]; exact List.mem_cons_self ..)
      . obtain ⟨u, hu, hr⟩ := blk_cell st he' hy (i := 0) (j := j) (Nat.le_of_ble_eq_true hb.1.1) (by omega)
        refine ⟨u, hu, ?_⟩
        rw [E.ok_eq _ hb.2 j hj] at hr
        exact E.flat _ _ _ _ _ _ _ _ _ _ _ hr
    . cases h
  . cases h
theorem llp_ok : PureOk Try.prog 116 [] ((cE ePfx).enc llP) := by
 refine pure_intro (wd := 1) (Q := mkQ LE0) (by decide) tysOk (q_of LE0_ok) mixed Try.func116 rfl _ (by show 0 <= _; decide) _ ?_
 exact Done.mk (leF_e (leE_all (by repeat' (first | exact zw2 | refine leE_all ?_ | exact leC_bool (by assumption) | apply And.intro))))
theorem flag_ok (b : Bool) (v : Int) : PureOk Try.prog 83 [cB.enc b, (cI .i64).enc v] ((cI .i64).enc (bitV b v)) := by
 refine pure_intro (wd := 1) (Q := mkQ LE0) (by decide) tysOk (q_of LE0_ok) mixed Try.func83 rfl _ (by show 2 <= _; decide) _ ?_
 repeat' (first | (apply And.intro <;> intro hc <;> (first | exact Bool.noConfusion hc | (simp only [zb0] at hc) | skip)) | (refine And.intro zp0 ?_) | (apply And.intro) | (intro s hs))
 all_goals exact Done.mk (leF_int (by simp [bitV, *]))
theorem high_ok (a : Fin 16 -> Int) (ha : byteOk a) : PureOk Try.prog 118 [(cE (eA .u8 16)).enc a] ((cI .u64).enc (hiF a)) := by
 refine pure_intro (wd := 1) (Q := mkQ LAd) (by decide) tysOk (q_of LAd_ok) mixed Try.func118 rfl _ (by show 1 <= _; decide) _ ?_
 repeat' (first | (apply And.intro <;> intro hc <;> (first | exact Bool.noConfusion hc | (simp only [zb0, ne_eq, not_true_eq_false] at hc <;> first | exact absurd rfl hc | skip) | skip)) | (refine And.intro zp1 ?_) | (apply And.intro) | (intro s hs; (have q : s = splF a := hs.trans (congrArg splF (rd_ip a)); clear hs; subst q)))
 . exact Eq.mp (congrArg byteOk (rd_ip a).symm) ha
 . exact Done.mk (leF_int rfl)
def shortF (y : Int) : List Int × Bool := if bits .andNot .u64 y 65535 = 1099478073344 then (beB y 2, true) else ([], false)
def boolV (b : Bool) : EV := .c (.bool b)
theorem short_ok (y : Int) : NewOk Try.prog 121 [(cI .u64).enc y] (some (shortF y).1.length) (some [boolV (shortF y).2]) (ents eB 5 (shortF y).1) := by
 obtain ⟨w, eW⟩ : ∃ w, shortF y = w := ⟨_, rfl⟩
 rw [eW]
 refine new_intro (wd := 1) (Q := mkQ LAd) (by decide) tysOk (q_of LAd_ok) mixed Try.func121 rfl _ (by show 1 <= _; decide) (fun i _ j _ => row_nf eB _ i j) ?_
 repeat' (first | (apply And.intro <;> intro hc <;> (first | exact Bool.noConfusion hc | (simp only [zb0, ne_eq, not_true_eq_false] at hc <;> first | exact absurd rfl hc | skip) | skip)) | (refine And.intro zp1 ?_) | (apply And.intro) | (intro s hs; (have q : s = beB y 2 := hs; clear hs; subst q)))
 . have e : w = ([], false) := by rw [<- eW]; unfold shortF; rw [if_neg hc]
   rw [e]
   exact ⟨⟨none, leF_tup ⟨leC_nils_os rfl, leC_bool rfl, trivial⟩, rfl, rfl, (by show 0 < 1; omega)⟩⟩
 . exact Nat.zero_le _
 . have e : w = (beB y 2, true) := by rw [<- eW]; unfold shortF; rw [if_pos hc]
   rw [e]
   exact ⟨⟨some _, leF_tup ⟨leC_os rfl rfl, leC_bool rfl, trivial⟩, leN_ents⟩⟩
def withinF (p : Pfx) (y : Int) (a : Fin 16 -> Int) : Bool := decide (vpf p = true /\ p.bits <= 64) && ipEq (jn p.ip y) a
theorem ip_from (a b : Fin 16 -> Int) : eqFrom ((eA .u8 16).cell a) ((eA .u8 16).cell b) 16 0 = ipEq a b := by
 rw [Bool.eq_iff_iff, eqFrom_iff]
 unfold ipEq
 simp only [List.all_eq_true, List.mem_range, beq_iff_eq]
 constructor
 . intro h j hj
   have := h j hj
   rw [Nat.zero_add] at this
   simpa [eA, eqCell] using this
 . intro h j hj
   rw [Nat.zero_add]
   have := h j hj
   simpa [eA, eqCell] using this
theorem within_ok (p : Pfx) (y : Int) (a : Fin 16 -> Int) : PureOk Try.prog 114 [(cE ePfx).enc p, (cPv (eI .u64)).enc y, (cPv (eA .u8 16)).enc a] (cB.enc (withinF p y a)) := by
 refine pure_intro (wd := 1) (Q := mkQ LAd) (by decide) tysOk (q_of LAd_ok) mixed Try.func114 rfl _ (by show 3 <= _; decide) _ ?_
 repeat' (first | (apply And.intro <;> intro hc <;> (first | exact Bool.noConfusion hc | (simp only [zb0, ne_eq, not_true_eq_false] at hc <;> first | exact absurd rfl hc | skip) | skip)) | (refine And.intro zp1 ?_) | (apply And.intro) | (intro s hs; (have q : s = joinF p y := hs.trans (congrArg (joinF · y) (rd_pfx p)); clear hs; subst q)))
 . have e : withinF p y a = ipEq (joinF p y).1 a := by
    unfold withinF joinF at *
    split at hc
    . rename_i h
      rw [decide_eq_true h, Bool.true_and, if_pos h]
    . cases hc
   rw [e]
   exact Done.mk (leF_bool (ip_from (joinF p y).1 a))
 . have e : withinF p y a = false := by
    unfold withinF joinF at *
    split at hc
    . cases hc
    . rename_i h
      rw [decide_eq_false h, Bool.false_and]
   rw [e]
   exact Done.mk (leF_bool rfl)
theorem rtime_ok (t : Int) : PureOk Try.prog 130 [(cI .i64).enc t] (cB.enc (vt t)) := by
 refine pure_intro (wd := 1) (Q := mkQ LE0) (by decide) tysOk (q_of LE0_ok) mixed Try.func130 rfl _ (by show 1 <= _; decide) _ ?_
 repeat' (first | (apply And.intro <;> intro hc <;> (first | exact Bool.noConfusion hc | (simp only [zb0] at hc) | skip)) | (refine And.intro zp0 ?_) | (apply And.intro) | (intro s hs))
 all_goals (refine Done.mk (leF_bool ?_); simp [vt, *])
theorem rcompr_ok (c : Ctx) (now : Int) : PureOk Try.prog 151 [(cE eCtx).enc c, (cI .i64).enc now] (cB.enc (compr c now)) := by
 refine pure_intro (wd := 1) (Q := mkQ LE0) (by decide) tysOk (q_of LE0_ok) mixed Try.func151 rfl _ (by show 2 <= _; decide) _ ?_
 repeat' (first | (apply And.intro <;> intro hc <;> (first | exact Bool.noConfusion hc | (simp only [zb0] at hc) | skip)) | (refine And.intro zp0 ?_) | (apply And.intro) | (intro s hs))
 all_goals (refine Done.mk (leF_bool ?_); simp [compr, *])
theorem rexp_ok (c : Ctx) (now : Int) : PureOk Try.prog 156 [(cE eCtx).enc c, (cI .i64).enc now] (cB.enc (decom c now)) := by
 refine pure_intro (wd := 1) (Q := mkQ LE0) (by decide) tysOk (q_of LE0_ok) mixed Try.func156 rfl _ (by show 2 <= _; decide) _ ?_
 repeat' (first | (apply And.intro <;> intro hc <;> (first | exact Bool.noConfusion hc | (simp only [zb0] at hc) | skip)) | (refine And.intro zp0 ?_) | (apply And.intro) | (intro s hs))
 all_goals (refine Done.mk (leF_bool ?_); simp [decom, *])
structure bytesL (l : List Ctx) : Prop where
 b : ∀ c ∈ l, byteOk c.ip
 n : l.length <= 2932031007317
theorem mem_getD {L : List Ctx} {i : Nat} (h : i < L.length) : L.getD i default ∈ L := by
 rw [List.getD_eq_getElem?_getD, List.getElem?_eq_getElem h]
 exact List.getElem_mem h
def LQ0 : CsL := (130, some (pureE (AC.cons (cI .i64) AC.nil) (fun _ => True) (fun a => vt a.1) cB.enc)) ::
 (151, some (pureE (AC.cons (cE eCtx) (AC.cons (cI .i64) AC.nil)) (fun _ => True) (fun a => compr a.1 a.2.1) cB.enc)) ::
 (156, some (pureE (AC.cons (cE eCtx) (AC.cons (cI .i64) AC.nil)) (fun _ => True) (fun a => decom a.1 a.2.1) cB.enc)) :: LR2
theorem LQ0_ok : AllOk Try.prog LQ0 := ⟨pureE_ok ⟨_, Try.func130, rfl, by kernel_rfl⟩ fun a _ => rtime_ok a.1, pureE_ok ⟨_, Try.func151, rfl, by kernel_rfl⟩ fun a _ => rcompr_ok a.1 a.2.1, pureE_ok ⟨_, Try.func156, rfl, by kernel_rfl⟩ fun a _ => rexp_ok a.1 a.2.1, LR2_ok⟩
def pv (l : List Ctx) (i : Nat) : Int := if i = 0 then -1 else (l.getD (i - 1) default).id
theorem rvalid_ok (l : List Ctx) (hl : bytesL l) : PureOk Try.prog 129 [(cSl eCtx eCtx_sz).enc l] (cB.enc (validT l)) := by
 have hn := hl.n
 refine pure_intro (wd := 1) (Q := mkQ LQ0) (by decide) tysOk (q_of LQ0_ok) mixed Try.func129 rfl _ (by show 1 <= _; decide) _ ?_
 refine loop_intro (mono_of LQ0_ok) (fun i : {i : Nat // i <= l.length /\ validT l = validFrom (pv l i) (l.drop i) /\ -1 <= pv l i} => (⟨[(0, one (.sl false l.length eCtx.sz (rowF eCtx l))), (3, one (.int .i64 (i.1 : Int)))], [], 5⟩ : Hd)) (fun i => l.length - i.1) (fun _ => rfl) ?_ ⟨0, by omega, rfl, by simp [pv]⟩ [] ?_
 . rintro ⟨i, hi, hv, hm⟩
   dsimp only at hi hv hm ⊢
   have w1 : IntKind.i64.wrap ((i : Int) - 1) = (i : Int) - 1 := IntWalk.i64_in _ (by omega)
   have hpv : 0 < (i : Int) -> pv l i = (l.getD (IntKind.i64.wrap ((i : Int) - 1)).toNat default).id := fun h => by
    rw [w1, show ((i : Int) - 1).toNat = i - 1 by omega, pv, if_neg (by omega)]
   have hp0 : ¬ 0 < (i : Int) -> pv l i = -1 := fun h => by rw [pv, if_pos (by omega)]
   have hps : pv l (i + 1) = (l.getD i default).id := by simp [pv]
   have hpr : ePfx.rd (fun j => eCtx.cell (l.getD i default) (0 + 1 + j)) = pfxOf (l.getD i default) := by simp only [Nat.zero_add]; exact pfx_of_ctx _
   repeat' (first | (apply And.intro <;> intro hc <;> (first | exact Bool.noConfusion hc | (simp only [zb0] at hc) | skip)) | (refine And.intro zp0 ?_) | (apply And.intro) | (intro s hs))
   all_goals first
    | (show byteOk (ePfx.rd fun j => eCtx.cell (l.getD i default) (0 + 1 + j)).ip
       rw [hpr]
       exact hl.b _ (mem_getD (by omega)))
    | (refine Done.mk (leF_bool ?_)
       symm
       rw [hv, valid_step _ (show i < l.length by omega), Bool.eq_false_iff]
       intro h
       simp only [Bool.and_eq_true, decide_eq_true_eq] at h
       obtain ⟨⟨⟨⟨h1, h2⟩, h3⟩, h4⟩, _⟩ := h
       first
        | (have q : (l.getD i default).id < 0 := by assumption
           omega)
        | (have q : 16 <= (l.getD i default).id := by assumption
           omega)
        | (have q := hpv (by assumption)
           have q2 : (l.getD i default).id <= (l.getD (IntKind.i64.wrap ((i : Int) - 1)).toNat default).id := by assumption
           omega)
        | (have q : s = false := by assumption
           have e : s = vt (l.getD i default).til := hs
           rw [e, h4] at q; cases q)
        | (have q : s = false := by assumption
           have e : s = vpf (ePfx.rd fun j => eCtx.cell (l.getD i default) (0 + 1 + j)) := hs
           rw [hpr, h3, q] at e; cases e))
    | (rename_i s1 hs1 c1
       have e1 : s1 = vpf (ePfx.rd fun j => eCtx.cell (l.getD i default) (0 + 1 + j)) := hs1
       rw [hpr] at e1
       have e2 : s = vt (l.getD i default).til := hs
       have g1 : ¬ (l.getD i default).id < 0 := by assumption
       have g2 : ¬ 16 <= (l.getD i default).id := by assumption
       have d1 : decide (pv l i < (l.getD i default).id) = true := decide_eq_true (by
        first
         | (have q := hp0 (by assumption)
            omega)
         | (have q := hpv (by assumption)
            have q2 : ¬ (l.getD i default).id <= (l.getD (IntKind.i64.wrap ((i : Int) - 1)).toNat default).id := by assumption
            omega))
       have d2 : decide ((l.getD i default).id < 16) = true := decide_eq_true (by omega)
       refine ⟨⟨i + 1, by omega, ?_, by rw [hps]; omega⟩, [], by dsimp only; omega, rfl, ?_, ?_⟩
       . rw [hv, valid_step _ (show i < l.length by omega), hps, d1, d2, <- e1, <- e2, c1, hc]; rfl
       . repeat' (first | exact zw0 | refine leF_int ?_ | refine leF_bool ?_ | exact zw1 | apply And.intro)
         refine (IntWalk.i64_in _ ?_).trans ?_
         . constructor <;> omega
         . dsimp only
           omega
       . repeat' (first | exact zw0 | refine leF_int ?_ | refine leF_bool ?_ | exact zw1 | apply And.intro))
    | (refine Done.mk (leF_bool ?_)
       have hil : i = l.length := by omega
       rw [hv, hil, List.drop_length]; rfl)
 . refine ⟨rfl, ?_, ?_⟩
   . repeat' (first | exact zw0 | refine leF_int ?_ | refine leF_bool ?_ | exact zw1 | apply And.intro)
   . repeat' (first | exact zw0 | refine leF_int ?_ | refine leF_bool ?_ | exact zw1 | apply And.intro)
def LQ1 : CsL := (129, some (pureE (AC.cons (cSl eCtx eCtx_sz) AC.nil) (fun a => bytesL a.1) (fun a => validT a.1) cB.enc)) :: LQ0
theorem LQ1_ok : AllOk Try.prog LQ1 := ⟨pureE_ok ⟨_, Try.func129, rfl, by kernel_rfl⟩ fun a h => rvalid_ok a.1 h, LQ0_ok⟩
abbrev withinE : Entry := pureE (AC.cons (cE ePfx) (AC.cons (cPv (eI .u64)) (AC.cons (cPv (eA .u8 16)) AC.nil))) (fun _ => True) (fun a => withinF a.1 a.2.1 a.2.2.1) cB.enc
abbrev comE : Entry := pureE (AC.cons (cSl eCtx eCtx_sz) (AC.cons (cE (eA .u8 16)) (AC.cons (cI .i64) AC.nil))) (fun a => a.1.length <= 9223372036854775807) (fun a => forCom a.1 a.2.1 a.2.2.1) encCB
abbrev shortE : Entry := newE (AC.cons (cI .u64) AC.nil) (fun _ => True) (fun a => shortF a.1) (fun s => some s.1.length) (fun s => some [boolV s.2]) (fun s => ents eB 5 s.1)
def LIh0 : CsL := (116, some (pureE AC.nil (fun _ => True) (fun _ => llP) (cE ePfx).enc)) ::
 (83, some (pureE (AC.cons cB (AC.cons (cI .i64) AC.nil)) (fun _ => True) (fun a => bitV a.1 a.2.1) (cI .i64).enc)) ::
 (118, some (pureE aIp (fun a => byteOk a.1) (fun a => hiF a.1) (cI .u64).enc)) ::
 (121, some shortE) :: (114, some withinE) :: (117, some comE) :: LAd
theorem LIh0_ok : AllOk Try.prog LIh0 := ⟨pureE_ok ⟨_, Try.func116, rfl, by kernel_rfl⟩ fun _ _ => llp_ok, pureE_ok ⟨_, Try.func83, rfl, by kernel_rfl⟩ fun a _ => flag_ok a.1 a.2.1, pureE_ok ⟨_, Try.func118, rfl, by kernel_rfl⟩ fun a h => high_ok a.1 h,
 newE_ok ⟨_, Try.func121, rfl, by kernel_rfl⟩ (fun s l h x hx => by injection h with h; subst h; obtain rfl := List.mem_singleton.1 hx; exact nfE_c nf_bool) fun a _ => short_ok a.1,
 pureE_ok ⟨_, Try.func114, rfl, by kernel_rfl⟩ fun a _ => within_ok a.1 a.2.1 a.2.2.1, pureE_ok ⟨_, Try.func117, rfl, by kernel_rfl⟩ fun a h => forCom_ok a.1 a.2.1 a.2.2.1 h, LAd_ok⟩
def chE : Entry := inlE T (mkQ LAd) 1 Try.f119.ntmps Try.f119.results.toList (Try.f119.body.getD Code.ret)
theorem chE_ok : EntOk Try.prog 119 chE := inlE_ok (by decide) tysOk (q_of LAd_ok) (mono_of LAd_ok) mixed Try.func119 rfl rfl
def LIh1 : CsL := (119, some chE) :: LIh0
theorem LIh1_ok : AllOk Try.prog LIh1 := ⟨chE_ok, LIh0_ok⟩
abbrev encFm (r : Form) : FV := .e (tailR eFm eB r)
theorem zero_from (a : Fin 16 -> Int) : eqFrom (fun q => (eA .u8 16).cell a (0 + q)) (zf [CV.int .u8 0, CV.int .u8 0, CV.int .u8 0, CV.int .u8 0, CV.int .u8 0, CV.int .u8 0, CV.int .u8 0, CV.int .u8 0, CV.int .u8 0, CV.int .u8 0, CV.int .u8 0, CV.int .u8 0, CV.int .u8 0, CV.int .u8 0, CV.int .u8 0, CV.int .u8 0]) 16 0 = ipEq a zeroA := by
 refine (eqFrom_congr (fun j hj => by rw [Nat.zero_add]) (fun j hj => ?_)).trans (ip_from a zeroA)
 iterate 16 (rcases j with _ | j; exact rfl)
 exact absurd hj (by omega)
theorem pfx_rd {c : Ctx} {g : Nat -> CV} (h : ∀ q, g q = eCtx.cell c (1 + q)) : ePfx.rd g = pfxOf c := by rw [funext h]; exact pfx_of_ctx c
theorem within_ll {a : Fin 16 -> Int} (ha : byteOk a) : withinF llP (loF a) a = decide (hiF a = 18338657682652659712) := by
 unfold withinF
 rw [decide_eq_true (show vpf llP = true /\ llP.bits <= 64 from ⟨llP_v, by decide⟩), Bool.true_and, Bool.eq_iff_iff, ipEq_iff, jn_iff llP_b ha, llP_hi, decide_eq_true_eq]
 exact eq_comm
theorem within_cx {a : Fin 16 -> Int} {l : List Ctx} {now : Int} (ha : byteOk a) (hl : bytesL l) : coverF a l now = ((forCom l a now).2 && withinF (pfxOf (forCom l a now).1) (loF a) a) := by
 unfold coverF
 cases h : (forCom l a now).2 with
 | false => rfl
 | true =>
   obtain ⟨h1, _, h2, _⟩ := forCom_in h
   have hv := (valid_lt h1 h2).2.2.2
   have hb := hl.b _ h2
   rw [Bool.true_and, Bool.true_and]
   unfold withinF
   rw [show (pfxOf (forCom l a now).1).bits = (forCom l a now).1.bits from rfl, hv, Bool.eq_iff_iff]
   simp only [Bool.and_eq_true, decide_eq_true_eq, ipEq_iff, true_and]
   rw [jn_iff (show byteOk (pfxOf (forCom l a now).1).ip from hb) ha]
   exact Iff.rfl
theorem uni_0 {a : Fin 16 -> Int} {k : Adr} {source : Bool} {l : List Ctx} {now : Int} (h : source = true /\ ipEq a zeroA = true) : uniF a k source l now = (⟨true, 0, 0⟩, []) := if_pos h
theorem uni_1 {a : Fin 16 -> Int} {k : Adr} {source : Bool} {l : List Ctx} {now : Int} (h : ¬ (source = true /\ ipEq a zeroA = true)) (h1 : hiF a = 18338657682652659712) : uniF a k source l now = (⟨false, 0, (iidsF (loF a) k).1⟩, (iidsF (loF a) k).2) := by
 unfold uniF
 rw [if_neg h, if_pos h1]
theorem uni_2 {a : Fin 16 -> Int} {k : Adr} {source : Bool} {l : List Ctx} {now : Int} (h : ¬ (source = true /\ ipEq a zeroA = true)) (h1 : hiF a ≠ 18338657682652659712) (h2 : coverF a l now = true) : uniF a k source l now = (⟨true, (forCom l a now).1.id, (iidsF (loF a) k).1⟩, (iidsF (loF a) k).2) := by
 unfold uniF
 rw [if_neg h, if_neg h1, if_pos h2]
theorem uni_3 {a : Fin 16 -> Int} {k : Adr} {source : Bool} {l : List Ctx} {now : Int} (h : ¬ (source = true /\ ipEq a zeroA = true)) (h1 : hiF a ≠ 18338657682652659712) (h2 : coverF a l now = false) : uniF a k source l now = (⟨false, 0, 0⟩, ipL a) := by
 unfold uniF
 rw [if_neg h, if_neg h1, if_neg (by rw [h2]; decide)]
theorem iids_2 {y : Int} {k : Adr} (h : iidF k ≠ (y, true)) (h2 : bits .andNot .u64 y 65535 = 1099478073344) : iidsF y k = (2, beB y 2) := by
 unfold iidsF
 rw [if_neg h, if_pos h2]
theorem iids_1 {y : Int} {k : Adr} (h : iidF k ≠ (y, true)) (h2 : ¬ bits .andNot .u64 y 65535 = 1099478073344) : iidsF y k = (1, beB y 8) := by
 unfold iidsF
 rw [if_neg h, if_neg h2]
theorem iids_2' {y : Int} {k : Adr} (h : iidF k ≠ (y, true)) (h2 : (shortF y).2 = true) : iidsF y k = (2, (shortF y).1) := by
 unfold shortF at h2 ⊢
 split at h2
 . rename_i g
   rw [if_pos g, iids_2 h g]
 . cases h2
theorem iids_1' {y : Int} {k : Adr} (h : iidF k ≠ (y, true)) (h2 : (shortF y).2 = false) : iidsF y k = (1, beB y 8) := by
 unfold shortF at h2
 split at h2
 . cases h2
 . rename_i g
   exact iids_1 h g
theorem uni_ok0 (a : Fin 16 -> Int) (k : Adr) (source : Bool) (l : List Ctx) (now : Int) (ha : byteOk a) (hl : bytesL l) (Z : source = true /\ ipEq a zeroA = true) : PureOk Try.prog 81 [(cE (eA .u8 16)).enc a, (cE eAdr).enc k, cB.enc source, (cSl eCtx eCtx_sz).enc l, (cI .i64).enc now] (encFm (uniF a k source l now)) := by
 rw [uni_0 Z]
 obtain ⟨Z1, Z2⟩ := Z
 have Z3 := (zero_from a).trans Z2
 refine pure_intro (wd := 64) (Q := mkQ LIh1) (by decide) tysOk (q_of LIh1_ok) mixed Try.func81 rfl _ (by show 5 <= _; decide) _ ?_
 repeat' (first | (apply And.intro <;> intro hc <;> (first | exact Bool.noConfusion hc | (exfalso; first | exact Bool.noConfusion (Z1.symm.trans hc) | exact Bool.noConfusion (Z3.symm.trans hc)) | (simp only [zb0, ne_eq, not_true_eq_false] at hc <;> first | exact absurd rfl hc | (exfalso; first | exact Bool.noConfusion (Z1.symm.trans hc) | exact Bool.noConfusion (Z3.symm.trans hc)) | skip) | skip)) | (refine And.intro zp1 ?_) | (apply And.intro) | (intro s hs; skip))
 refine Done.mk (leF_e (leE_tail rfl (fun j hj => ?_) (leC_nils_sl rfl)))
 iterate 3 (rcases j with _ | j; (first | exact leC_int rfl | exact leC_bool rfl))
 exact absurd hj (by show ¬ _ < 3; omega)
theorem uni_ok1 (a : Fin 16 -> Int) (k : Adr) (source : Bool) (l : List Ctx) (now : Int) (ha : byteOk a) (hl : bytesL l) (Z : ¬ (source = true /\ ipEq a zeroA = true)) : PureOk Try.prog 81 [(cE (eA .u8 16)).enc a, (cE eAdr).enc k, cB.enc source, (cSl eCtx eCtx_sz).enc l, (cI .i64).enc now] (encFm (uniF a k source l now)) := by
 have u1 := fun h => uni_1 (k := k) (l := l) (now := now) Z h
 have u2 := fun h g => uni_2 (k := k) (l := l) (now := now) Z h g
 have u3 := fun h g => uni_3 (k := k) (l := l) (now := now) Z h g
 have hB := within_ll ha
 have hK := within_cx (now := now) ha hl
 have i3 := fun h => iids_own (k := k) (y := loF a) h
 have i2 := fun h g => iids_2' (k := k) (y := loF a) h g
 have i1 := fun h g => iids_1' (k := k) (y := loF a) h g
 have hL := beB_hi ha
 have eS : splF a = (hiF a, loF a) := rfl
 have Z3 := zero_from a
 obtain ⟨W, eW⟩ : ∃ W, uniF a k source l now = W := ⟨_, rfl⟩
 rw [eW] at u1 u2 u3 ⊢
 obtain ⟨C, eC⟩ : ∃ C, forCom l a now = C := ⟨_, rfl⟩
 obtain ⟨Hi, eHi⟩ : ∃ x, hiF a = x := ⟨_, rfl⟩
 obtain ⟨Lo, eLo⟩ : ∃ x, loF a = x := ⟨_, rfl⟩
 obtain ⟨I, eI⟩ : ∃ x, iidF k = x := ⟨_, rfl⟩
 obtain ⟨V, eV⟩ : ∃ x, coverF a l now = x := ⟨_, rfl⟩
 obtain ⟨D, eD⟩ : ∃ x, iidsF (loF a) k = x := ⟨_, rfl⟩
 rw [eLo] at eD
 rw [eC, eLo, eV] at hK
 rw [eHi, eLo] at hB
 rw [eHi, eLo] at hL eS
 rw [eHi, eLo, eD] at u1
 rw [eHi, eLo, eD, eV, eC] at u2
 rw [eHi, eV] at u3
 rw [eI, eLo, eD] at i1 i2 i3
 obtain ⟨Sh, eSh⟩ : ∃ x, shortF Lo = x := ⟨_, rfl⟩
 rw [eSh] at i1 i2
 obtain ⟨B, eB'⟩ : ∃ x, withinF llP Lo a = x := ⟨_, rfl⟩
 obtain ⟨K, eK⟩ : ∃ x, withinF (pfxOf C.1) Lo a = x := ⟨_, rfl⟩
 rw [eB'] at hB
 rw [eK] at hK
 clear eW eV eD
 have g1 : True := trivial
 have g2 : True := trivial
 refine pure_intro (wd := 64) (Q := mkQ LIh1) (by decide) tysOk (q_of LIh1_ok) mixed Try.func81 rfl _ (by show 5 <= _; decide) _ ?_
 repeat' (first | (apply And.intro <;> intro hc <;> (first | exact Bool.noConfusion hc | (exfalso; first | exact Z ⟨(by assumption), (Z3.symm.trans hc)⟩ | exact Bool.noConfusion ((by assumption : B = true).symm.trans hc) | exact Bool.noConfusion ((by assumption : B = false).symm.trans hc)) | (simp only [zb0, ne_eq, not_true_eq_false] at hc <;> first | exact absurd rfl hc | (exfalso; first | exact Z ⟨(by assumption), (Z3.symm.trans hc)⟩ | exact Bool.noConfusion ((by assumption : B = true).symm.trans hc) | exact Bool.noConfusion ((by assumption : B = false).symm.trans hc)) | skip) | skip)) | (refine And.intro zp1 ?_) | (apply And.intro) | (intro s hs; (first | (have q : (Hi, Lo) = s := (hs.trans ((congrArg splF (rd_ip a)).trans eS)).symm; clear hs; subst q) | (have q : s = llP := hs; clear hs; subst q) | (clear g1; have q : B = s := (hs.trans ((congr (congrArg (fun p b => withinF p Lo b) (rd_pfx llP)) (eA_rd (k := .u8) a)).trans eB')).symm; clear hs; subst q) | (clear g2; have q : C = s := (hs.trans ((congr (congrArg (fun l b => forCom l b now) (toL_ctx l)) (rd_ip a)).trans eC)).symm; clear hs; subst q) | (have q : K = s := (hs.trans ((congr (congrArg (fun p b => withinF p Lo b) (pfx_rd (c := C.1) (fun q => congrArg (eCtx.cell C.1) (by omega)))) (eA_rd (k := .u8) a)).trans eK)).symm; clear hs; subst q) | (have q : Hi = s := (hs.trans ((congrArg hiF (rd_ip a)).trans eHi)).symm; clear hs; subst q) | (have q : s = beB Hi 8 := hs; clear hs; subst q) | (have q : s = beB Hi 8 ++ beB Lo 8 := hs.trans (congrArg (· ++ beB Lo 8) (toL_b0 (beB Hi 8))); clear hs; subst q) | (have q : I = s := (hs.trans ((congrArg iidF (rd_adr k)).trans eI)).symm; clear hs; subst q) | (have q : Sh = s := (hs.trans eSh).symm; clear hs; subst q) | (have q : s = beB Lo 8 := hs; clear hs; subst q) | skip)))
 all_goals first
  | exact rfl
  | exact absurd ((by assumption : B = true).symm.trans (by assumption : B = false)) (by decide)
  | exact Eq.mp (congrArg byteOk (rd_ip a).symm) ha
  | (show (toL eCtx l.length _).length <= _; rw [toL_len]; have := hl.n; omega)
  | exact Nat.zero_le _
  | (show (toL eB (beB Hi 8).length _).length <= _; rw [toL_len]; have := beB_len Hi 8; omega)
  | (have w := u3 (of_decide_eq_false (hB.symm.trans (by assumption))) (hK.trans (by rw [show C.2 = false by assumption, Bool.false_and]))
     rw [w, <- hL]
     refine Done.mk (leF_e (leE_tail rfl (fun j hj => ?_) (by first | exact leC_nils_sl rfl | exact leC_row_fin rfl rfl)))
     iterate 3 (rcases j with _ | j; (first | exact leC_int rfl | exact leC_bool rfl))
     exact absurd hj (by show ¬ _ < 3; omega))
  | (have w := u3 (of_decide_eq_false (hB.symm.trans (by assumption))) (hK.trans (by rw [show K = false by assumption, Bool.and_false]))
     rw [w, <- hL]
     refine Done.mk (leF_e (leE_tail rfl (fun j hj => ?_) (by first | exact leC_nils_sl rfl | exact leC_row_fin rfl rfl)))
     iterate 3 (rcases j with _ | j; (first | exact leC_int rfl | exact leC_bool rfl))
     exact absurd hj (by show ¬ _ < 3; omega))
  | (have d := i3 (Prod.ext (by assumption : I.1 = Lo) (by assumption : I.2 = true))
     have w := u1 (of_decide_eq_true (hB.symm.trans (by assumption)))
     rw [w, d]
     refine Done.mk (leF_e (leE_tail rfl (fun j hj => ?_) (by first | exact leC_nils_sl rfl | exact leC_row_fin rfl rfl)))
     iterate 3 (rcases j with _ | j; (first | exact leC_int rfl | exact leC_bool rfl))
     exact absurd hj (by show ¬ _ < 3; omega))
  | (have d := i3 (Prod.ext (by assumption : I.1 = Lo) (by assumption : I.2 = true))
     have w := u2 (of_decide_eq_false (hB.symm.trans (by assumption))) (hK.trans (by rw [show C.2 = true by assumption, show K = true by assumption]; rfl))
     rw [w, d]
     refine Done.mk (leF_e (leE_tail rfl (fun j hj => ?_) (by first | exact leC_nils_sl rfl | exact leC_row_fin rfl rfl)))
     iterate 3 (rcases j with _ | j; (first | exact leC_int rfl | exact leC_bool rfl))
     exact absurd hj (by show ¬ _ < 3; omega))
  | (have d := i2 (fun h => Bool.noConfusion ((congrArg Prod.snd h).symm.trans (by assumption : I.2 = false))) (by assumption)
     have w := u1 (of_decide_eq_true (hB.symm.trans (by assumption)))
     rw [w, d]
     refine Done.mk (leF_e (leE_tail rfl (fun j hj => ?_) (by first | exact leC_nils_sl rfl | exact leC_row_fin rfl rfl)))
     iterate 3 (rcases j with _ | j; (first | exact leC_int rfl | exact leC_bool rfl))
     exact absurd hj (by show ¬ _ < 3; omega))
  | (have d := i2 (fun h => Bool.noConfusion ((congrArg Prod.snd h).symm.trans (by assumption : I.2 = false))) (by assumption)
     have w := u2 (of_decide_eq_false (hB.symm.trans (by assumption))) (hK.trans (by rw [show C.2 = true by assumption, show K = true by assumption]; rfl))
     rw [w, d]
     refine Done.mk (leF_e (leE_tail rfl (fun j hj => ?_) (by first | exact leC_nils_sl rfl | exact leC_row_fin rfl rfl)))
     iterate 3 (rcases j with _ | j; (first | exact leC_int rfl | exact leC_bool rfl))
     exact absurd hj (by show ¬ _ < 3; omega))
  | (have d := i2 (fun h => (by assumption : ¬ I.1 = Lo) (congrArg Prod.fst h)) (by assumption)
     have w := u1 (of_decide_eq_true (hB.symm.trans (by assumption)))
     rw [w, d]
     refine Done.mk (leF_e (leE_tail rfl (fun j hj => ?_) (by first | exact leC_nils_sl rfl | exact leC_row_fin rfl rfl)))
     iterate 3 (rcases j with _ | j; (first | exact leC_int rfl | exact leC_bool rfl))
     exact absurd hj (by show ¬ _ < 3; omega))
  | (have d := i2 (fun h => (by assumption : ¬ I.1 = Lo) (congrArg Prod.fst h)) (by assumption)
     have w := u2 (of_decide_eq_false (hB.symm.trans (by assumption))) (hK.trans (by rw [show C.2 = true by assumption, show K = true by assumption]; rfl))
     rw [w, d]
     refine Done.mk (leF_e (leE_tail rfl (fun j hj => ?_) (by first | exact leC_nils_sl rfl | exact leC_row_fin rfl rfl)))
     iterate 3 (rcases j with _ | j; (first | exact leC_int rfl | exact leC_bool rfl))
     exact absurd hj (by show ¬ _ < 3; omega))
  | (have d := i1 (fun h => Bool.noConfusion ((congrArg Prod.snd h).symm.trans (by assumption : I.2 = false))) (by assumption)
     have w := u1 (of_decide_eq_true (hB.symm.trans (by assumption)))
     rw [w, d]
     refine Done.mk (leF_e (leE_tail rfl (fun j hj => ?_) (by first | exact leC_nils_sl rfl | exact leC_row_fin rfl rfl)))
     iterate 3 (rcases j with _ | j; (first | exact leC_int rfl | exact leC_bool rfl))
     exact absurd hj (by show ¬ _ < 3; omega))
  | (have d := i1 (fun h => Bool.noConfusion ((congrArg Prod.snd h).symm.trans (by assumption : I.2 = false))) (by assumption)
     have w := u2 (of_decide_eq_false (hB.symm.trans (by assumption))) (hK.trans (by rw [show C.2 = true by assumption, show K = true by assumption]; rfl))
     rw [w, d]
     refine Done.mk (leF_e (leE_tail rfl (fun j hj => ?_) (by first | exact leC_nils_sl rfl | exact leC_row_fin rfl rfl)))
     iterate 3 (rcases j with _ | j; (first | exact leC_int rfl | exact leC_bool rfl))
     exact absurd hj (by show ¬ _ < 3; omega))
  | (have d := i1 (fun h => (by assumption : ¬ I.1 = Lo) (congrArg Prod.fst h)) (by assumption)
     have w := u1 (of_decide_eq_true (hB.symm.trans (by assumption)))
     rw [w, d]
     refine Done.mk (leF_e (leE_tail rfl (fun j hj => ?_) (by first | exact leC_nils_sl rfl | exact leC_row_fin rfl rfl)))
     iterate 3 (rcases j with _ | j; (first | exact leC_int rfl | exact leC_bool rfl))
     exact absurd hj (by show ¬ _ < 3; omega))
  | (have d := i1 (fun h => (by assumption : ¬ I.1 = Lo) (congrArg Prod.fst h)) (by assumption)
     have w := u2 (of_decide_eq_false (hB.symm.trans (by assumption))) (hK.trans (by rw [show C.2 = true by assumption, show K = true by assumption]; rfl))
     rw [w, d]
     refine Done.mk (leF_e (leE_tail rfl (fun j hj => ?_) (by first | exact leC_nils_sl rfl | exact leC_row_fin rfl rfl)))
     iterate 3 (rcases j with _ | j; (first | exact leC_int rfl | exact leC_bool rfl))
     exact absurd hj (by show ¬ _ < 3; omega))
  | skip
theorem zr_at {a : Fin 16 -> Int} {i j : Nat} (h : zr a i j = true) : ∀ k, i <= k -> k < j -> k < 16 -> vget a k = 0 := by
 intro k h1 h2 h3
 unfold zr at h
 rw [List.all_eq_true] at h
 have := h (vget a k) (by
  rw [List.mem_iff_getElem?]
  refine ⟨k - i, ?_⟩
  rw [List.getElem?_take, if_pos (by omega), List.getElem?_drop, show i + (k - i) = k by omega]
  unfold ipL
  rw [List.getElem?_map, List.getElem?_range h3]; rfl)
 exact of_decide_eq_true this
theorem zr_of {a : Fin 16 -> Int} {i j : Nat} (h : ∀ k, i <= k -> k < j -> k < 16 -> vget a k = 0) : zr a i j = true := by
 unfold zr
 rw [List.all_eq_true]
 intro x hx
 obtain ⟨q, hq⟩ := List.mem_iff_getElem?.1 hx
 rw [List.getElem?_take] at hq
 split at hq
 . rename_i hlt
   rw [List.getElem?_drop] at hq
   have hl : i + q < 16 := by
    have := (List.getElem?_eq_some_iff.1 hq).1
    rw [ipL_len] at this; exact this
   unfold ipL at hq
   rw [List.getElem?_map, List.getElem?_range hl] at hq
   injection hq with hq
   rw [<- hq]
   exact decide_eq_true (h (i + q) (by omega) (by omega) hl)
 . cases hq
theorem zr_no {a : Fin 16 -> Int} {i j k : Nat} (h1 : i <= k) (h2 : k < j) (h3 : k < 16) (h : vget a k ≠ 0) : zr a i j = false := by
 cases hz : zr a i j with
 | false => rfl
 | true => exact absurd (zr_at hz k h1 h2 h3) h
abbrev encFmG (r : Form) : FV := .e (tailR eFm eB r)
def LIh00 : CsL := (83, some (pureE (AC.cons cB (AC.cons (cI .i64) AC.nil)) (fun _ => True) (fun a => bitV a.1 a.2.1) (cI .i64).enc)) :: LAd
theorem LIh00_ok : AllOk Try.prog LIh00 := ⟨pureE_ok ⟨_, Try.func83, rfl, by kernel_rfl⟩ fun a _ => flag_ok a.1 a.2.1, LAd_ok⟩
structure ZrS (z : List Int) where
 k : Nat
 hk : k <= z.length
 h : ∀ q, q < k -> z.getD q default = 0
theorem all_zero {z : List Int} (h : ∀ q, q < z.length -> z.getD q default = 0) : z.all (fun x => x == 0) = true := by
 rw [List.all_eq_true]
 intro x hx
 obtain ⟨q, hq, rfl⟩ := List.mem_iff_getElem.1 hx
 have := h q hq
 rw [List.getD_eq_getElem?_getD, List.getElem?_eq_getElem hq] at this
 exact decide_eq_true this
theorem not_zero {z : List Int} {q : Nat} (hq : q < z.length) (h : z.getD q default ≠ 0) : z.all (fun x => x == 0) = false := by
 cases hz : z.all (fun x => x == 0) with
 | false => rfl
 | true =>
   rw [List.all_eq_true] at hz
   have := hz z[q] (List.getElem_mem hq)
   rw [List.getD_eq_getElem?_getD, List.getElem?_eq_getElem hq] at h
   exact absurd (of_decide_eq_true this) h
theorem zero_ok (a : Fin 16 -> Int) (i j : Nat) (hij : i <= j /\ j <= 16) : PureOk Try.prog 122 [(cI .i64).enc (i : Int), (cI .i64).enc (j : Int), (cPv (eA .u8 16)).enc a] (cB.enc (zr a i j)) := by
 obtain ⟨z, hz⟩ : ∃ z, z = ((ipL a).drop i).take (j - i) := ⟨_, rfl⟩
 have hzl : z.length = j - i := by rw [hz, List.length_take, List.length_drop, ipL_len]; omega
 have hw : zr a i j = z.all (fun x => x == 0) := by rw [hz]; rfl
 rw [hw]
 obtain ⟨w, eW⟩ : ∃ w, z.all (fun x => x == 0) = w := ⟨_, rfl⟩
 rw [eW]
 refine pure_intro (wd := 1) (Q := mkQ LE0) (by decide) tysOk (q_of LE0_ok) mixed Try.func122 rfl _ (by show 3 <= _; decide) _ ?_
 repeat' (first | (apply And.intro <;> intro hc <;> (first | exact Bool.noConfusion hc | (simp only [zb0] at hc) | skip)) | (refine And.intro zp0 ?_) | (apply And.intro) | (intro s hs))
 . exact Nat.le_refl 16
 refine loop_intro (mono_of LE0_ok) (fun s : ZrS z => (⟨[(10, one (.sl false z.length eB.sz (rowF eB z))), (11, one (.int .i64 (z.length : Int))), (12, one (.int .i64 (s.k : Int)))], [], 0⟩ : Hd)) (fun s => z.length - s.k) (fun _ => rfl) ?_ ⟨0, by omega, fun q h => absurd h (by omega)⟩ [] ?_
 . rintro ⟨k, hk, h⟩
   dsimp only at hk h ⊢
   repeat' (first | (apply And.intro <;> intro hc <;> (first | exact Bool.noConfusion hc | (simp only [zb0] at hc) | skip)) | (refine And.intro zp0 ?_) | (apply And.intro) | (intro s hs))
   . have e : w = false := by rw [<- eW]; exact not_zero (q := k) (by omega) hc
     rw [e]
     exact Done.mk (leF_bool rfl)
   . refine ⟨⟨k + 1, by omega, fun q hq => ?_⟩, [], by dsimp only <;> omega, rfl, ?_, ?_⟩
     . by_cases e : q = k
       . rw [e]; exact hc
       . exact h q (by omega)
     . repeat' (first | exact zw0 | refine leF_int ?_ | refine leF_bool ?_ | exact zw1 | apply And.intro)
       exact zaw
     . repeat' (first | exact zw0 | refine leF_int ?_ | refine leF_bool ?_ | exact zw1 | apply And.intro)
   . have e : w = true := by rw [<- eW]; exact all_zero fun q hq => h q (by omega)
     rw [e]
     exact Done.mk (leF_bool rfl)
 . refine ⟨rfl, ?_, ?_⟩
   . repeat' (first | exact zw0 | refine leF_int ?_ | refine leF_bool ?_ | exact zw1 | apply And.intro)
     . refine leF_c (leC_sl (fun h => by cases h) ?_ rfl fun q hq c hc => ?_)
       . show (j : Int).toNat - (i : Int).toNat = z.length; omega
       . obtain rfl : c = 0 := by omega
         refine leC_int ?_
         show vget a _ = z.getD q default
         have hq' : q < z.length := by omega
         rw [hz, getD_dt _ _ _ _ (by omega) (by rw [ipL_len]; omega), ipL_get a (by omega)]
         exact congrArg (vget a) (by omega)
     . show (((j : Int).toNat - (i : Int).toNat : Nat) : Int) = z.length
       omega
   . repeat' (first | exact zw0 | refine leF_int ?_ | refine leF_bool ?_ | exact zw1 | apply And.intro)
abbrev zeroE : Entry := pureE (AC.cons (cI .i64) (AC.cons (cI .i64) (AC.cons (cPv (eA .u8 16)) AC.nil))) (fun a => 0 <= a.1 /\ a.1 <= a.2.1 /\ a.2.1 <= 16) (fun a => zr a.2.2.1 a.1.toNat a.2.1.toNat) cB.enc
theorem zero_okI (a : Fin 16 -> Int) (i j : Int) (h : 0 <= i /\ i <= j /\ j <= 16) : PureOk Try.prog 122 [(cI .i64).enc i, (cI .i64).enc j, (cPv (eA .u8 16)).enc a] (cB.enc (zr a i.toNat j.toNat)) := by
 obtain ⟨m, rfl⟩ : ∃ m : Nat, i = m := ⟨i.toNat, by omega⟩
 obtain ⟨n, rfl⟩ : ∃ n : Nat, j = n := ⟨j.toNat, by omega⟩
 exact zero_ok a m n (by omega)
def LIh2 : CsL := (122, some zeroE) :: LIh00
theorem LIh2_ok : AllOk Try.prog LIh2 := ⟨pureE_ok ⟨_, Try.func122, rfl, by kernel_rfl⟩ fun a h => zero_okI a.2.2.1 a.1 a.2.1 h, LIh00_ok⟩
theorem grp_ok (a : Fin 16 -> Int) : PureOk Try.prog 82 [(cE (eA .u8 16)).enc a] (encFmG (grpF a)) := by
 obtain ⟨z15, e15⟩ : ∃ x, zr a 2 15 = x := ⟨_, rfl⟩
 obtain ⟨z13, e13⟩ : ∃ x, zr a 2 13 = x := ⟨_, rfl⟩
 obtain ⟨z11, e11⟩ : ∃ x, zr a 2 11 = x := ⟨_, rfl⟩
 obtain ⟨W, eW⟩ : ∃ W, grpF a = W := ⟨_, rfl⟩
 rw [eW]
 unfold grpF at eW
 rw [e15, e13, e11] at eW
 have k1 : vget a (0 + Int.toNat 1 * 1 + 0) = 2 -> z15 = true -> W = (⟨false, 0, 3⟩, [vget a 15]) := fun h g => by rw [<- eW]; exact if_pos ⟨h, g⟩
 have k0 : (¬ vget a (0 + Int.toNat 1 * 1 + 0) = 2 \/ z15 = false) -> ¬ (vget a 1 = 2 /\ z15 = true) := fun h g => h.elim (fun h => h g.1) (fun h => Bool.noConfusion (h.symm.trans g.2))
 have k2 : (¬ vget a (0 + Int.toNat 1 * 1 + 0) = 2 \/ z15 = false) -> z13 = true -> W = (⟨false, 0, 2⟩, [vget a 1, vget a 13, vget a 14, vget a 15]) := fun h g => by rw [<- eW, if_neg (k0 h), if_pos g]
 have k3 : (¬ vget a (0 + Int.toNat 1 * 1 + 0) = 2 \/ z15 = false) -> z13 = false -> z11 = true -> W = (⟨false, 0, 1⟩, [vget a 1, vget a 11, vget a 12, vget a 13, vget a 14, vget a 15]) := fun h g g' => by rw [<- eW, if_neg (k0 h), if_neg (fun f => Bool.noConfusion (g.symm.trans f)), if_pos g']
 have k4 : (¬ vget a (0 + Int.toNat 1 * 1 + 0) = 2 \/ z15 = false) -> z13 = false -> z11 = false -> W = (⟨false, 0, 0⟩, ipL a) := fun h g g' => by rw [<- eW, if_neg (k0 h), if_neg (fun f => Bool.noConfusion (g.symm.trans f)), if_neg (fun f => Bool.noConfusion (g'.symm.trans f))]
 clear eW k0
 refine pure_intro (wd := 1) (Q := mkQ LIh2) (by decide) tysOk (q_of LIh2_ok) mixed Try.func82 rfl _ (by show 1 <= _; decide) _ ?_
 repeat' (first | (apply And.intro <;> intro hc <;> (first | exact Bool.noConfusion hc | (simp only [zb0, ne_eq, not_true_eq_false] at hc <;> first | exact absurd rfl hc | skip) | skip)) | (refine And.intro zp1 ?_) | (apply And.intro) | (intro s hs; (first | (have q : z15 = s := (hs.trans ((congrArg (fun b => zr b 2 15) (eA_rd (k := .u8) a)).trans e15)).symm; clear hs; subst q) | (have q : z13 = s := (hs.trans ((congrArg (fun b => zr b 2 13) (eA_rd (k := .u8) a)).trans e13)).symm; clear hs; subst q) | (have q : z11 = s := (hs.trans ((congrArg (fun b => zr b 2 11) (eA_rd (k := .u8) a)).trans e11)).symm; clear hs; subst q))))
 all_goals first
  | (rw [k1 (by assumption) (by assumption)]
     refine Done.mk (leF_e (leE_tail rfl (fun j hj => ?_) (leC_os_is (l := [vget a 15]) rfl rfl rfl rfl (Nat.le_of_eq rfl) ⟨fun k hk => ?_⟩)))
     . iterate 3 (rcases j with _ | j; (first | exact leC_int rfl | exact leC_bool rfl))
       exact absurd hj (by show ¬ _ < 3; omega)
     . iterate 1 (rcases k with _ | k; exact rfl)
       exact absurd hk (by show ¬ _ < 1; omega))
  | (rw [k2 (.inl (by assumption)) (by assumption)]
     refine Done.mk (leF_e (leE_tail rfl (fun j hj => ?_) (leC_os_is (l := [vget a 1, vget a 13, vget a 14, vget a 15]) rfl rfl rfl rfl (Nat.le_of_eq rfl) ⟨fun k hk => ?_⟩)))
     . iterate 3 (rcases j with _ | j; (first | exact leC_int rfl | exact leC_bool rfl))
       exact absurd hj (by show ¬ _ < 3; omega)
     . iterate 4 (rcases k with _ | k; exact rfl)
       exact absurd hk (by show ¬ _ < 4; omega))
  | (rw [k3 (.inl (by assumption)) (by assumption) (by assumption)]
     refine Done.mk (leF_e (leE_tail rfl (fun j hj => ?_) (leC_os_is (l := [vget a 1, vget a 11, vget a 12, vget a 13, vget a 14, vget a 15]) rfl rfl rfl rfl (Nat.le_of_eq rfl) ⟨fun k hk => ?_⟩)))
     . iterate 3 (rcases j with _ | j; (first | exact leC_int rfl | exact leC_bool rfl))
       exact absurd hj (by show ¬ _ < 3; omega)
     . iterate 6 (rcases k with _ | k; exact rfl)
       exact absurd hk (by show ¬ _ < 6; omega))
  | (rw [k4 (.inl (by assumption)) (by assumption) (by assumption)]
     refine Done.mk (leF_e (leE_tail rfl (fun j hj => ?_) (leC_os_is (l := ipL a) rfl rfl rfl rfl (Nat.le_of_eq rfl) ⟨fun k hk => ?_⟩)))
     . iterate 3 (rcases j with _ | j; (first | exact leC_int rfl | exact leC_bool rfl))
       exact absurd hj (by show ¬ _ < 3; omega)
     . iterate 16 (rcases k with _ | k; exact rfl)
       exact absurd hk (by show ¬ _ < 16; omega))
  | (rw [k2 (.inr (by assumption)) (by assumption)]
     refine Done.mk (leF_e (leE_tail rfl (fun j hj => ?_) (leC_os_is (l := [vget a 1, vget a 13, vget a 14, vget a 15]) rfl rfl rfl rfl (Nat.le_of_eq rfl) ⟨fun k hk => ?_⟩)))
     . iterate 3 (rcases j with _ | j; (first | exact leC_int rfl | exact leC_bool rfl))
       exact absurd hj (by show ¬ _ < 3; omega)
     . iterate 4 (rcases k with _ | k; exact rfl)
       exact absurd hk (by show ¬ _ < 4; omega))
  | (rw [k3 (.inr (by assumption)) (by assumption) (by assumption)]
     refine Done.mk (leF_e (leE_tail rfl (fun j hj => ?_) (leC_os_is (l := [vget a 1, vget a 11, vget a 12, vget a 13, vget a 14, vget a 15]) rfl rfl rfl rfl (Nat.le_of_eq rfl) ⟨fun k hk => ?_⟩)))
     . iterate 3 (rcases j with _ | j; (first | exact leC_int rfl | exact leC_bool rfl))
       exact absurd hj (by show ¬ _ < 3; omega)
     . iterate 6 (rcases k with _ | k; exact rfl)
       exact absurd hk (by show ¬ _ < 6; omega))
  | (rw [k4 (.inr (by assumption)) (by assumption) (by assumption)]
     refine Done.mk (leF_e (leE_tail rfl (fun j hj => ?_) (leC_os_is (l := ipL a) rfl rfl rfl rfl (Nat.le_of_eq rfl) ⟨fun k hk => ?_⟩)))
     . iterate 3 (rcases j with _ | j; (first | exact leC_int rfl | exact leC_bool rfl))
       exact absurd hj (by show ¬ _ < 3; omega)
     . iterate 16 (rcases k with _ | k; exact rfl)
       exact absurd hk (by show ¬ _ < 16; omega))
  | skip
theorem check_ok (f t : Adr) (l : List Ctx) (now : Int) (hl : l.length <= 9223372036854775807) : PureOk Try.prog 79 [(cE eAdr).enc f, (cE eAdr).enc t, (cSl eCtx eCtx_sz).enc l, (cI .i64).enc now] ((cI .i64).enc (checkF f t l now)) := by
 obtain ⟨x, ex⟩ : ∃ x, adrValid f = x := ⟨_, rfl⟩
 obtain ⟨y, ey⟩ : ∃ x, adrValid t = x := ⟨_, rfl⟩
 obtain ⟨z, ez⟩ : ∃ x, validT l = x := ⟨_, rfl⟩
 obtain ⟨W, eW⟩ : ∃ W, checkF f t l now = W := ⟨_, rfl⟩
 rw [eW]
 unfold checkF vt at eW
 rw [ex, ey, ez] at eW
 have g1 : True := trivial
 have g2 : True := trivial
 refine pure_intro (wd := 1) (Q := mkQ LIh2) (by decide) tysOk (q_of LIh2_ok) mixed Try.func79 rfl _ (by show 4 <= _; decide) _ ?_
 repeat' (first | (apply And.intro <;> intro hc <;> (first | exact Bool.noConfusion hc | (simp only [zb0, ne_eq, not_true_eq_false] at hc <;> first | exact absurd rfl hc | skip) | skip)) | (refine And.intro zp1 ?_) | (apply And.intro) | (intro s hs; (first | (clear g1; have q : x = s := (hs.trans ((congrArg adrValid (rd_adr f)).trans ex)).symm; clear hs; subst q) | (clear g2; have q : y = s := (hs.trans ((congrArg adrValid (rd_adr t)).trans ey)).symm; clear hs; subst q) | (have q : z = s := (hs.trans ((congrArg validT (toL_ctx l)).trans ez)).symm; clear hs; subst q))))
 all_goals first
  | (show (toL eCtx l.length _).length <= _; rw [toL_len]; exact hl)
  | (refine Done.mk (leF_int ?_)
     rw [<- eW]
     simp [*]
     done)
  | (refine Done.mk (leF_int ?_)
     rw [<- eW]
     simp [*]
     omega)
  | skip
abbrev encIS (r : Int × List Int) : FV := .tup [.c (.int .i64 r.1), .c (slR eB r.2)]
theorem len3 {l : List Int} (h : l.length = 3) : ∃ x y z, l = [x, y, z] := by
 rcases l with _ | ⟨x, _ | ⟨y, _ | ⟨z, _ | ⟨v, l⟩⟩⟩⟩
 all_goals first
  | exact ⟨_, _, _, rfl⟩
  | (simp at h; done)
  | (simp at h; omega)
theorem fields_17 (p : Pkt) (hf : 0 <= p.1.flow /\ p.1.flow < 4294967296) (hn : p.1.nxt = 17) : PureOk Try.prog 80 [cPk.enc p] (encIS (firstF p, inlF p)) := by
 have w1 : IntKind.u64.wrap p.1.flow = p.1.flow := IntWalk.u64_in _ (by omega)
 obtain ⟨f1, f2, f3, e3⟩ := len3 (beB_n p.1.flow 3 (by decide))
 have e3' : beB p.1.flow 3 = [f1, f2, f3] := e3
 have eF : beB (IntKind.u64.wrap p.1.flow) 3 = [f1, f2, f3] := by rw [w1]; exact e3
 have c0 : ¬ p.1.cls = 0 -> ¬ p.1.flow = 0 -> flowF p = (0, [p.1.cls, f1, f2, f3]) := fun h g => by unfold flowF; rw [if_pos ⟨h, g⟩, e3']; rfl
 have c1 : p.1.cls = 0 -> ¬ p.1.flow = 0 -> flowF p = (1, [f1, f2, f3]) := fun h g => by unfold flowF; rw [if_neg (fun x => x.1 h), if_pos g, e3']; rfl
 have c2 : p.1.flow = 0 -> ¬ p.1.cls = 0 -> flowF p = (2, [p.1.cls]) := fun h g => by unfold flowF; rw [if_neg (fun x => x.2 h), if_neg (fun x => x h), if_pos g]
 have c3 : p.1.flow = 0 -> p.1.cls = 0 -> flowF p = (3, []) := fun h g => by unfold flowF; rw [if_neg (fun x => x.2 h), if_neg (fun x => x h), if_neg (fun x => x g)]
 have h1 : p.1.hops = 1 -> hopF p.1.hops = 1 := fun h => by rw [h]; rfl
 have h2 : p.1.hops = 64 -> hopF p.1.hops = 2 := fun h => by rw [h]; rfl
 have h3 : p.1.hops = 255 -> hopF p.1.hops = 3 := fun h => by rw [h]; rfl
 have h0 : ¬ p.1.hops = 1 -> ¬ p.1.hops = 64 -> ¬ p.1.hops = 255 -> hopF p.1.hops = 0 := fun a b c => by unfold hopF; rw [if_neg a, if_neg b, if_neg c]
 have eb : bitV (decide (p.1.nxt = 17)) 4 = 4 := by unfold bitV; rw [decide_eq_true hn]; rfl
 obtain ⟨W, eW⟩ : ∃ W, (firstF p, inlF p) = W := ⟨_, rfl⟩
 have hW : W = (96 + 8 * (flowF p).1 + 4 + hopF p.1.hops, (flowF p).2 ++ [] ++ (if hopF p.1.hops = 0 then [p.1.hops] else [])) := by
  rw [<- eW]
  unfold firstF inlF
  rw [eb, if_pos hn]
 rw [eW]
 clear eW e3 e3' w1
 refine pure_intro (wd := 1) (Q := mkQ LIh2) (by decide) tysOk (q_of LIh2_ok) mixed Try.func80 rfl _ (by show 1 <= _; decide) _ ?_
 repeat' (first | (apply And.intro <;> intro hc <;> (first | exact Bool.noConfusion hc | (exfalso; first | exact absurd hn hc | exact absurd hc hn | exact absurd (by assumption : p.1.flow = 0) hc | exact absurd hc (by assumption : ¬ p.1.flow = 0) | exact absurd (by assumption : p.1.cls = 0) hc | exact absurd hc (by assumption : ¬ p.1.cls = 0)) | (simp only [zb0, ne_eq, not_true_eq_false] at hc <;> first | exact absurd rfl hc | (exfalso; first | exact absurd hn hc | exact absurd hc hn | exact absurd (by assumption : p.1.flow = 0) hc | exact absurd hc (by assumption : ¬ p.1.flow = 0) | exact absurd (by assumption : p.1.cls = 0) hc | exact absurd hc (by assumption : ¬ p.1.cls = 0)) | skip) | skip)) | (refine And.intro zp1 ?_) | (apply And.intro) | (intro s hs; (first | (have q : s = 4 := hs.trans eb; clear hs; subst q) | (have q : s = [p.1.cls, f1, f2, f3] := hs.trans (congrArg ([p.1.cls] ++ ·) eF); clear hs; subst q) | (have q : s = [f1, f2, f3] := hs.trans eF; clear hs; subst q) | skip)))
 all_goals try (first | exact Nat.le_refl _ | exact rfl | exact Nat.le_of_ble_eq_true rfl | exact Nat.zero_le _ | (show (toL eB _ _).length <= _; rw [toL_len]; decide))
 all_goals first
  | (have e := hW
     rw [c0 (by assumption) (by assumption), h1 (by assumption)] at e
     rw [e]
     refine Done.mk (leF_tup ⟨leC_int rfl, ?_, trivial⟩)
     first
      | exact leC_nils_sl rfl
      | (refine leC_os_is rfl rfl rfl rfl (Nat.le_of_eq rfl) ⟨fun k hk => ?_⟩
         rcases k with _ | _ | _ | _ | _ | _ | k
         all_goals first
          | exact rfl
          | exact Bool.noConfusion ((Nat.ble_eq_true_of_le hk).symm.trans (rfl : Nat.ble _ _ = false))
          | exact absurd hk (Nat.not_lt.2 (Nat.le_trans (Nat.le_of_ble_eq_true rfl : _ <= 6) (by omega)))))
  | (have e := hW
     rw [c0 (by assumption) (by assumption), h2 (by assumption)] at e
     rw [e]
     refine Done.mk (leF_tup ⟨leC_int rfl, ?_, trivial⟩)
     first
      | exact leC_nils_sl rfl
      | (refine leC_os_is rfl rfl rfl rfl (Nat.le_of_eq rfl) ⟨fun k hk => ?_⟩
         rcases k with _ | _ | _ | _ | _ | _ | k
         all_goals first
          | exact rfl
          | exact Bool.noConfusion ((Nat.ble_eq_true_of_le hk).symm.trans (rfl : Nat.ble _ _ = false))
          | exact absurd hk (Nat.not_lt.2 (Nat.le_trans (Nat.le_of_ble_eq_true rfl : _ <= 6) (by omega)))))
  | (have e := hW
     rw [c0 (by assumption) (by assumption), h3 (by assumption)] at e
     rw [e]
     refine Done.mk (leF_tup ⟨leC_int rfl, ?_, trivial⟩)
     first
      | exact leC_nils_sl rfl
      | (refine leC_os_is rfl rfl rfl rfl (Nat.le_of_eq rfl) ⟨fun k hk => ?_⟩
         rcases k with _ | _ | _ | _ | _ | _ | k
         all_goals first
          | exact rfl
          | exact Bool.noConfusion ((Nat.ble_eq_true_of_le hk).symm.trans (rfl : Nat.ble _ _ = false))
          | exact absurd hk (Nat.not_lt.2 (Nat.le_trans (Nat.le_of_ble_eq_true rfl : _ <= 6) (by omega)))))
  | (have e := hW
     rw [c0 (by assumption) (by assumption), h0 (by assumption) (by assumption) (by assumption)] at e
     rw [e]
     refine Done.mk (leF_tup ⟨leC_int rfl, ?_, trivial⟩)
     first
      | exact leC_nils_sl rfl
      | (refine leC_os_is rfl rfl rfl rfl (Nat.le_of_eq rfl) ⟨fun k hk => ?_⟩
         rcases k with _ | _ | _ | _ | _ | _ | k
         all_goals first
          | exact rfl
          | exact Bool.noConfusion ((Nat.ble_eq_true_of_le hk).symm.trans (rfl : Nat.ble _ _ = false))
          | exact absurd hk (Nat.not_lt.2 (Nat.le_trans (Nat.le_of_ble_eq_true rfl : _ <= 6) (by omega)))))
  | (have e := hW
     rw [c1 (by assumption) (by assumption), h1 (by assumption)] at e
     rw [e]
     refine Done.mk (leF_tup ⟨leC_int rfl, ?_, trivial⟩)
     first
      | exact leC_nils_sl rfl
      | (refine leC_os_is rfl rfl rfl rfl (Nat.le_of_eq rfl) ⟨fun k hk => ?_⟩
         rcases k with _ | _ | _ | _ | _ | _ | k
         all_goals first
          | exact rfl
          | exact Bool.noConfusion ((Nat.ble_eq_true_of_le hk).symm.trans (rfl : Nat.ble _ _ = false))
          | exact absurd hk (Nat.not_lt.2 (Nat.le_trans (Nat.le_of_ble_eq_true rfl : _ <= 6) (by omega)))))
  | (have e := hW
     rw [c1 (by assumption) (by assumption), h2 (by assumption)] at e
     rw [e]
     refine Done.mk (leF_tup ⟨leC_int rfl, ?_, trivial⟩)
     first
      | exact leC_nils_sl rfl
      | (refine leC_os_is rfl rfl rfl rfl (Nat.le_of_eq rfl) ⟨fun k hk => ?_⟩
         rcases k with _ | _ | _ | _ | _ | _ | k
         all_goals first
          | exact rfl
          | exact Bool.noConfusion ((Nat.ble_eq_true_of_le hk).symm.trans (rfl : Nat.ble _ _ = false))
          | exact absurd hk (Nat.not_lt.2 (Nat.le_trans (Nat.le_of_ble_eq_true rfl : _ <= 6) (by omega)))))
  | (have e := hW
     rw [c1 (by assumption) (by assumption), h3 (by assumption)] at e
     rw [e]
     refine Done.mk (leF_tup ⟨leC_int rfl, ?_, trivial⟩)
     first
      | exact leC_nils_sl rfl
      | (refine leC_os_is rfl rfl rfl rfl (Nat.le_of_eq rfl) ⟨fun k hk => ?_⟩
         rcases k with _ | _ | _ | _ | _ | _ | k
         all_goals first
          | exact rfl
          | exact Bool.noConfusion ((Nat.ble_eq_true_of_le hk).symm.trans (rfl : Nat.ble _ _ = false))
          | exact absurd hk (Nat.not_lt.2 (Nat.le_trans (Nat.le_of_ble_eq_true rfl : _ <= 6) (by omega)))))
  | (have e := hW
     rw [c1 (by assumption) (by assumption), h0 (by assumption) (by assumption) (by assumption)] at e
     rw [e]
     refine Done.mk (leF_tup ⟨leC_int rfl, ?_, trivial⟩)
     first
      | exact leC_nils_sl rfl
      | (refine leC_os_is rfl rfl rfl rfl (Nat.le_of_eq rfl) ⟨fun k hk => ?_⟩
         rcases k with _ | _ | _ | _ | _ | _ | k
         all_goals first
          | exact rfl
          | exact Bool.noConfusion ((Nat.ble_eq_true_of_le hk).symm.trans (rfl : Nat.ble _ _ = false))
          | exact absurd hk (Nat.not_lt.2 (Nat.le_trans (Nat.le_of_ble_eq_true rfl : _ <= 6) (by omega)))))
  | (have e := hW
     rw [c2 (by assumption) (by assumption), h1 (by assumption)] at e
     rw [e]
     refine Done.mk (leF_tup ⟨leC_int rfl, ?_, trivial⟩)
     first
      | exact leC_nils_sl rfl
      | (refine leC_os_is rfl rfl rfl rfl (Nat.le_of_eq rfl) ⟨fun k hk => ?_⟩
         rcases k with _ | _ | _ | _ | _ | _ | k
         all_goals first
          | exact rfl
          | exact Bool.noConfusion ((Nat.ble_eq_true_of_le hk).symm.trans (rfl : Nat.ble _ _ = false))
          | exact absurd hk (Nat.not_lt.2 (Nat.le_trans (Nat.le_of_ble_eq_true rfl : _ <= 6) (by omega)))))
  | (have e := hW
     rw [c2 (by assumption) (by assumption), h2 (by assumption)] at e
     rw [e]
     refine Done.mk (leF_tup ⟨leC_int rfl, ?_, trivial⟩)
     first
      | exact leC_nils_sl rfl
      | (refine leC_os_is rfl rfl rfl rfl (Nat.le_of_eq rfl) ⟨fun k hk => ?_⟩
         rcases k with _ | _ | _ | _ | _ | _ | k
         all_goals first
          | exact rfl
          | exact Bool.noConfusion ((Nat.ble_eq_true_of_le hk).symm.trans (rfl : Nat.ble _ _ = false))
          | exact absurd hk (Nat.not_lt.2 (Nat.le_trans (Nat.le_of_ble_eq_true rfl : _ <= 6) (by omega)))))
  | (have e := hW
     rw [c2 (by assumption) (by assumption), h3 (by assumption)] at e
     rw [e]
     refine Done.mk (leF_tup ⟨leC_int rfl, ?_, trivial⟩)
     first
      | exact leC_nils_sl rfl
      | (refine leC_os_is rfl rfl rfl rfl (Nat.le_of_eq rfl) ⟨fun k hk => ?_⟩
         rcases k with _ | _ | _ | _ | _ | _ | k
         all_goals first
          | exact rfl
          | exact Bool.noConfusion ((Nat.ble_eq_true_of_le hk).symm.trans (rfl : Nat.ble _ _ = false))
          | exact absurd hk (Nat.not_lt.2 (Nat.le_trans (Nat.le_of_ble_eq_true rfl : _ <= 6) (by omega)))))
  | (have e := hW
     rw [c2 (by assumption) (by assumption), h0 (by assumption) (by assumption) (by assumption)] at e
     rw [e]
     refine Done.mk (leF_tup ⟨leC_int rfl, ?_, trivial⟩)
     first
      | exact leC_nils_sl rfl
      | (refine leC_os_is rfl rfl rfl rfl (Nat.le_of_eq rfl) ⟨fun k hk => ?_⟩
         rcases k with _ | _ | _ | _ | _ | _ | k
         all_goals first
          | exact rfl
          | exact Bool.noConfusion ((Nat.ble_eq_true_of_le hk).symm.trans (rfl : Nat.ble _ _ = false))
          | exact absurd hk (Nat.not_lt.2 (Nat.le_trans (Nat.le_of_ble_eq_true rfl : _ <= 6) (by omega)))))
  | (have e := hW
     rw [c3 (by assumption) (by assumption), h1 (by assumption)] at e
     rw [e]
     refine Done.mk (leF_tup ⟨leC_int rfl, ?_, trivial⟩)
     first
      | exact leC_nils_sl rfl
      | (refine leC_os_is rfl rfl rfl rfl (Nat.le_of_eq rfl) ⟨fun k hk => ?_⟩
         rcases k with _ | _ | _ | _ | _ | _ | k
         all_goals first
          | exact rfl
          | exact Bool.noConfusion ((Nat.ble_eq_true_of_le hk).symm.trans (rfl : Nat.ble _ _ = false))
          | exact absurd hk (Nat.not_lt.2 (Nat.le_trans (Nat.le_of_ble_eq_true rfl : _ <= 6) (by omega)))))
  | (have e := hW
     rw [c3 (by assumption) (by assumption), h2 (by assumption)] at e
     rw [e]
     refine Done.mk (leF_tup ⟨leC_int rfl, ?_, trivial⟩)
     first
      | exact leC_nils_sl rfl
      | (refine leC_os_is rfl rfl rfl rfl (Nat.le_of_eq rfl) ⟨fun k hk => ?_⟩
         rcases k with _ | _ | _ | _ | _ | _ | k
         all_goals first
          | exact rfl
          | exact Bool.noConfusion ((Nat.ble_eq_true_of_le hk).symm.trans (rfl : Nat.ble _ _ = false))
          | exact absurd hk (Nat.not_lt.2 (Nat.le_trans (Nat.le_of_ble_eq_true rfl : _ <= 6) (by omega)))))
  | (have e := hW
     rw [c3 (by assumption) (by assumption), h3 (by assumption)] at e
     rw [e]
     refine Done.mk (leF_tup ⟨leC_int rfl, ?_, trivial⟩)
     first
      | exact leC_nils_sl rfl
      | (refine leC_os_is rfl rfl rfl rfl (Nat.le_of_eq rfl) ⟨fun k hk => ?_⟩
         rcases k with _ | _ | _ | _ | _ | _ | k
         all_goals first
          | exact rfl
          | exact Bool.noConfusion ((Nat.ble_eq_true_of_le hk).symm.trans (rfl : Nat.ble _ _ = false))
          | exact absurd hk (Nat.not_lt.2 (Nat.le_trans (Nat.le_of_ble_eq_true rfl : _ <= 6) (by omega)))))
  | (have e := hW
     rw [c3 (by assumption) (by assumption), h0 (by assumption) (by assumption) (by assumption)] at e
     rw [e]
     refine Done.mk (leF_tup ⟨leC_int rfl, ?_, trivial⟩)
     first
      | exact leC_nils_sl rfl
      | (refine leC_os_is rfl rfl rfl rfl (Nat.le_of_eq rfl) ⟨fun k hk => ?_⟩
         rcases k with _ | _ | _ | _ | _ | _ | k
         all_goals first
          | exact rfl
          | exact Bool.noConfusion ((Nat.ble_eq_true_of_le hk).symm.trans (rfl : Nat.ble _ _ = false))
          | exact absurd hk (Nat.not_lt.2 (Nat.le_trans (Nat.le_of_ble_eq_true rfl : _ <= 6) (by omega)))))
  | skip
theorem fields_no (p : Pkt) (hf : 0 <= p.1.flow /\ p.1.flow < 4294967296) (hn : ¬ p.1.nxt = 17) : PureOk Try.prog 80 [cPk.enc p] (encIS (firstF p, inlF p)) := by
 have w1 : IntKind.u64.wrap p.1.flow = p.1.flow := IntWalk.u64_in _ (by omega)
 obtain ⟨f1, f2, f3, e3⟩ := len3 (beB_n p.1.flow 3 (by decide))
 have e3' : beB p.1.flow 3 = [f1, f2, f3] := e3
 have eF : beB (IntKind.u64.wrap p.1.flow) 3 = [f1, f2, f3] := by rw [w1]; exact e3
 have c0 : ¬ p.1.cls = 0 -> ¬ p.1.flow = 0 -> flowF p = (0, [p.1.cls, f1, f2, f3]) := fun h g => by unfold flowF; rw [if_pos ⟨h, g⟩, e3']; rfl
 have c1 : p.1.cls = 0 -> ¬ p.1.flow = 0 -> flowF p = (1, [f1, f2, f3]) := fun h g => by unfold flowF; rw [if_neg (fun x => x.1 h), if_pos g, e3']; rfl
 have c2 : p.1.flow = 0 -> ¬ p.1.cls = 0 -> flowF p = (2, [p.1.cls]) := fun h g => by unfold flowF; rw [if_neg (fun x => x.2 h), if_neg (fun x => x h), if_pos g]
 have c3 : p.1.flow = 0 -> p.1.cls = 0 -> flowF p = (3, []) := fun h g => by unfold flowF; rw [if_neg (fun x => x.2 h), if_neg (fun x => x h), if_neg (fun x => x g)]
 have h1 : p.1.hops = 1 -> hopF p.1.hops = 1 := fun h => by rw [h]; rfl
 have h2 : p.1.hops = 64 -> hopF p.1.hops = 2 := fun h => by rw [h]; rfl
 have h3 : p.1.hops = 255 -> hopF p.1.hops = 3 := fun h => by rw [h]; rfl
 have h0 : ¬ p.1.hops = 1 -> ¬ p.1.hops = 64 -> ¬ p.1.hops = 255 -> hopF p.1.hops = 0 := fun a b c => by unfold hopF; rw [if_neg a, if_neg b, if_neg c]
 have eb : bitV (decide (p.1.nxt = 17)) 4 = 0 := by unfold bitV; rw [decide_eq_false hn]; rfl
 obtain ⟨W, eW⟩ : ∃ W, (firstF p, inlF p) = W := ⟨_, rfl⟩
 have hW : W = (96 + 8 * (flowF p).1 + 0 + hopF p.1.hops, (flowF p).2 ++ [p.1.nxt] ++ (if hopF p.1.hops = 0 then [p.1.hops] else [])) := by
  rw [<- eW]
  unfold firstF inlF
  rw [eb, if_neg hn]
 rw [eW]
 clear eW e3 e3' w1
 refine pure_intro (wd := 1) (Q := mkQ LIh2) (by decide) tysOk (q_of LIh2_ok) mixed Try.func80 rfl _ (by show 1 <= _; decide) _ ?_
 repeat' (first | (apply And.intro <;> intro hc <;> (first | exact Bool.noConfusion hc | (exfalso; first | exact absurd hn hc | exact absurd hc hn | exact absurd (by assumption : p.1.flow = 0) hc | exact absurd hc (by assumption : ¬ p.1.flow = 0) | exact absurd (by assumption : p.1.cls = 0) hc | exact absurd hc (by assumption : ¬ p.1.cls = 0)) | (simp only [zb0, ne_eq, not_true_eq_false] at hc <;> first | exact absurd rfl hc | (exfalso; first | exact absurd hn hc | exact absurd hc hn | exact absurd (by assumption : p.1.flow = 0) hc | exact absurd hc (by assumption : ¬ p.1.flow = 0) | exact absurd (by assumption : p.1.cls = 0) hc | exact absurd hc (by assumption : ¬ p.1.cls = 0)) | skip) | skip)) | (refine And.intro zp1 ?_) | (apply And.intro) | (intro s hs; (first | (have q : s = 0 := hs.trans eb; clear hs; subst q) | (have q : s = [p.1.cls, f1, f2, f3] := hs.trans (congrArg ([p.1.cls] ++ ·) eF); clear hs; subst q) | (have q : s = [f1, f2, f3] := hs.trans eF; clear hs; subst q) | skip)))
 all_goals try (first | exact Nat.le_refl _ | exact rfl | exact Nat.le_of_ble_eq_true rfl | exact Nat.zero_le _ | (show (toL eB _ _).length <= _; rw [toL_len]; decide))
 all_goals first
  | (have e := hW
     rw [c0 (by assumption) (by assumption), h1 (by assumption)] at e
     rw [e]
     refine Done.mk (leF_tup ⟨leC_int rfl, ?_, trivial⟩)
     first
      | exact leC_nils_sl rfl
      | (refine leC_os_is rfl rfl rfl rfl (Nat.le_of_eq rfl) ⟨fun k hk => ?_⟩
         rcases k with _ | _ | _ | _ | _ | _ | k
         all_goals first
          | exact rfl
          | exact Bool.noConfusion ((Nat.ble_eq_true_of_le hk).symm.trans (rfl : Nat.ble _ _ = false))
          | exact absurd hk (Nat.not_lt.2 (Nat.le_trans (Nat.le_of_ble_eq_true rfl : _ <= 6) (by omega)))))
  | (have e := hW
     rw [c0 (by assumption) (by assumption), h2 (by assumption)] at e
     rw [e]
     refine Done.mk (leF_tup ⟨leC_int rfl, ?_, trivial⟩)
     first
      | exact leC_nils_sl rfl
      | (refine leC_os_is rfl rfl rfl rfl (Nat.le_of_eq rfl) ⟨fun k hk => ?_⟩
         rcases k with _ | _ | _ | _ | _ | _ | k
         all_goals first
          | exact rfl
          | exact Bool.noConfusion ((Nat.ble_eq_true_of_le hk).symm.trans (rfl : Nat.ble _ _ = false))
          | exact absurd hk (Nat.not_lt.2 (Nat.le_trans (Nat.le_of_ble_eq_true rfl : _ <= 6) (by omega)))))
  | (have e := hW
     rw [c0 (by assumption) (by assumption), h3 (by assumption)] at e
     rw [e]
     refine Done.mk (leF_tup ⟨leC_int rfl, ?_, trivial⟩)
     first
      | exact leC_nils_sl rfl
      | (refine leC_os_is rfl rfl rfl rfl (Nat.le_of_eq rfl) ⟨fun k hk => ?_⟩
         rcases k with _ | _ | _ | _ | _ | _ | k
         all_goals first
          | exact rfl
          | exact Bool.noConfusion ((Nat.ble_eq_true_of_le hk).symm.trans (rfl : Nat.ble _ _ = false))
          | exact absurd hk (Nat.not_lt.2 (Nat.le_trans (Nat.le_of_ble_eq_true rfl : _ <= 6) (by omega)))))
  | (have e := hW
     rw [c0 (by assumption) (by assumption), h0 (by assumption) (by assumption) (by assumption)] at e
     rw [e]
     refine Done.mk (leF_tup ⟨leC_int rfl, ?_, trivial⟩)
     first
      | exact leC_nils_sl rfl
      | (refine leC_os_is rfl rfl rfl rfl (Nat.le_of_eq rfl) ⟨fun k hk => ?_⟩
         rcases k with _ | _ | _ | _ | _ | _ | k
         all_goals first
          | exact rfl
          | exact Bool.noConfusion ((Nat.ble_eq_true_of_le hk).symm.trans (rfl : Nat.ble _ _ = false))
          | exact absurd hk (Nat.not_lt.2 (Nat.le_trans (Nat.le_of_ble_eq_true rfl : _ <= 6) (by omega)))))
  | (have e := hW
     rw [c1 (by assumption) (by assumption), h1 (by assumption)] at e
     rw [e]
     refine Done.mk (leF_tup ⟨leC_int rfl, ?_, trivial⟩)
     first
      | exact leC_nils_sl rfl
      | (refine leC_os_is rfl rfl rfl rfl (Nat.le_of_eq rfl) ⟨fun k hk => ?_⟩
         rcases k with _ | _ | _ | _ | _ | _ | k
         all_goals first
          | exact rfl
          | exact Bool.noConfusion ((Nat.ble_eq_true_of_le hk).symm.trans (rfl : Nat.ble _ _ = false))
          | exact absurd hk (Nat.not_lt.2 (Nat.le_trans (Nat.le_of_ble_eq_true rfl : _ <= 6) (by omega)))))
  | (have e := hW
     rw [c1 (by assumption) (by assumption), h2 (by assumption)] at e
     rw [e]
     refine Done.mk (leF_tup ⟨leC_int rfl, ?_, trivial⟩)
     first
      | exact leC_nils_sl rfl
      | (refine leC_os_is rfl rfl rfl rfl (Nat.le_of_eq rfl) ⟨fun k hk => ?_⟩
         rcases k with _ | _ | _ | _ | _ | _ | k
         all_goals first
          | exact rfl
          | exact Bool.noConfusion ((Nat.ble_eq_true_of_le hk).symm.trans (rfl : Nat.ble _ _ = false))
          | exact absurd hk (Nat.not_lt.2 (Nat.le_trans (Nat.le_of_ble_eq_true rfl : _ <= 6) (by omega)))))
  | (have e := hW
     rw [c1 (by assumption) (by assumption), h3 (by assumption)] at e
     rw [e]
     refine Done.mk (leF_tup ⟨leC_int rfl, ?_, trivial⟩)
     first
      | exact leC_nils_sl rfl
      | (refine leC_os_is rfl rfl rfl rfl (Nat.le_of_eq rfl) ⟨fun k hk => ?_⟩
         rcases k with _ | _ | _ | _ | _ | _ | k
         all_goals first
          | exact rfl
          | exact Bool.noConfusion ((Nat.ble_eq_true_of_le hk).symm.trans (rfl : Nat.ble _ _ = false))
          | exact absurd hk (Nat.not_lt.2 (Nat.le_trans (Nat.le_of_ble_eq_true rfl : _ <= 6) (by omega)))))
  | (have e := hW
     rw [c1 (by assumption) (by assumption), h0 (by assumption) (by assumption) (by assumption)] at e
     rw [e]
     refine Done.mk (leF_tup ⟨leC_int rfl, ?_, trivial⟩)
     first
      | exact leC_nils_sl rfl
      | (refine leC_os_is rfl rfl rfl rfl (Nat.le_of_eq rfl) ⟨fun k hk => ?_⟩
         rcases k with _ | _ | _ | _ | _ | _ | k
         all_goals first
          | exact rfl
          | exact Bool.noConfusion ((Nat.ble_eq_true_of_le hk).symm.trans (rfl : Nat.ble _ _ = false))
          | exact absurd hk (Nat.not_lt.2 (Nat.le_trans (Nat.le_of_ble_eq_true rfl : _ <= 6) (by omega)))))
  | (have e := hW
     rw [c2 (by assumption) (by assumption), h1 (by assumption)] at e
     rw [e]
     refine Done.mk (leF_tup ⟨leC_int rfl, ?_, trivial⟩)
     first
      | exact leC_nils_sl rfl
      | (refine leC_os_is rfl rfl rfl rfl (Nat.le_of_eq rfl) ⟨fun k hk => ?_⟩
         rcases k with _ | _ | _ | _ | _ | _ | k
         all_goals first
          | exact rfl
          | exact Bool.noConfusion ((Nat.ble_eq_true_of_le hk).symm.trans (rfl : Nat.ble _ _ = false))
          | exact absurd hk (Nat.not_lt.2 (Nat.le_trans (Nat.le_of_ble_eq_true rfl : _ <= 6) (by omega)))))
  | (have e := hW
     rw [c2 (by assumption) (by assumption), h2 (by assumption)] at e
     rw [e]
     refine Done.mk (leF_tup ⟨leC_int rfl, ?_, trivial⟩)
     first
      | exact leC_nils_sl rfl
      | (refine leC_os_is rfl rfl rfl rfl (Nat.le_of_eq rfl) ⟨fun k hk => ?_⟩
         rcases k with _ | _ | _ | _ | _ | _ | k
         all_goals first
          | exact rfl
          | exact Bool.noConfusion ((Nat.ble_eq_true_of_le hk).symm.trans (rfl : Nat.ble _ _ = false))
          | exact absurd hk (Nat.not_lt.2 (Nat.le_trans (Nat.le_of_ble_eq_true rfl : _ <= 6) (by omega)))))
  | (have e := hW
     rw [c2 (by assumption) (by assumption), h3 (by assumption)] at e
     rw [e]
     refine Done.mk (leF_tup ⟨leC_int rfl, ?_, trivial⟩)
     first
      | exact leC_nils_sl rfl
      | (refine leC_os_is rfl rfl rfl rfl (Nat.le_of_eq rfl) ⟨fun k hk => ?_⟩
         rcases k with _ | _ | _ | _ | _ | _ | k
         all_goals first
          | exact rfl
          | exact Bool.noConfusion ((Nat.ble_eq_true_of_le hk).symm.trans (rfl : Nat.ble _ _ = false))
          | exact absurd hk (Nat.not_lt.2 (Nat.le_trans (Nat.le_of_ble_eq_true rfl : _ <= 6) (by omega)))))
  | (have e := hW
     rw [c2 (by assumption) (by assumption), h0 (by assumption) (by assumption) (by assumption)] at e
     rw [e]
     refine Done.mk (leF_tup ⟨leC_int rfl, ?_, trivial⟩)
     first
      | exact leC_nils_sl rfl
      | (refine leC_os_is rfl rfl rfl rfl (Nat.le_of_eq rfl) ⟨fun k hk => ?_⟩
         rcases k with _ | _ | _ | _ | _ | _ | k
         all_goals first
          | exact rfl
          | exact Bool.noConfusion ((Nat.ble_eq_true_of_le hk).symm.trans (rfl : Nat.ble _ _ = false))
          | exact absurd hk (Nat.not_lt.2 (Nat.le_trans (Nat.le_of_ble_eq_true rfl : _ <= 6) (by omega)))))
  | (have e := hW
     rw [c3 (by assumption) (by assumption), h1 (by assumption)] at e
     rw [e]
     refine Done.mk (leF_tup ⟨leC_int rfl, ?_, trivial⟩)
     first
      | exact leC_nils_sl rfl
      | (refine leC_os_is rfl rfl rfl rfl (Nat.le_of_eq rfl) ⟨fun k hk => ?_⟩
         rcases k with _ | _ | _ | _ | _ | _ | k
         all_goals first
          | exact rfl
          | exact Bool.noConfusion ((Nat.ble_eq_true_of_le hk).symm.trans (rfl : Nat.ble _ _ = false))
          | exact absurd hk (Nat.not_lt.2 (Nat.le_trans (Nat.le_of_ble_eq_true rfl : _ <= 6) (by omega)))))
  | (have e := hW
     rw [c3 (by assumption) (by assumption), h2 (by assumption)] at e
     rw [e]
     refine Done.mk (leF_tup ⟨leC_int rfl, ?_, trivial⟩)
     first
      | exact leC_nils_sl rfl
      | (refine leC_os_is rfl rfl rfl rfl (Nat.le_of_eq rfl) ⟨fun k hk => ?_⟩
         rcases k with _ | _ | _ | _ | _ | _ | k
         all_goals first
          | exact rfl
          | exact Bool.noConfusion ((Nat.ble_eq_true_of_le hk).symm.trans (rfl : Nat.ble _ _ = false))
          | exact absurd hk (Nat.not_lt.2 (Nat.le_trans (Nat.le_of_ble_eq_true rfl : _ <= 6) (by omega)))))
  | (have e := hW
     rw [c3 (by assumption) (by assumption), h3 (by assumption)] at e
     rw [e]
     refine Done.mk (leF_tup ⟨leC_int rfl, ?_, trivial⟩)
     first
      | exact leC_nils_sl rfl
      | (refine leC_os_is rfl rfl rfl rfl (Nat.le_of_eq rfl) ⟨fun k hk => ?_⟩
         rcases k with _ | _ | _ | _ | _ | _ | k
         all_goals first
          | exact rfl
          | exact Bool.noConfusion ((Nat.ble_eq_true_of_le hk).symm.trans (rfl : Nat.ble _ _ = false))
          | exact absurd hk (Nat.not_lt.2 (Nat.le_trans (Nat.le_of_ble_eq_true rfl : _ <= 6) (by omega)))))
  | (have e := hW
     rw [c3 (by assumption) (by assumption), h0 (by assumption) (by assumption) (by assumption)] at e
     rw [e]
     refine Done.mk (leF_tup ⟨leC_int rfl, ?_, trivial⟩)
     first
      | exact leC_nils_sl rfl
      | (refine leC_os_is rfl rfl rfl rfl (Nat.le_of_eq rfl) ⟨fun k hk => ?_⟩
         rcases k with _ | _ | _ | _ | _ | _ | k
         all_goals first
          | exact rfl
          | exact Bool.noConfusion ((Nat.ble_eq_true_of_le hk).symm.trans (rfl : Nat.ble _ _ = false))
          | exact absurd hk (Nat.not_lt.2 (Nat.le_trans (Nat.le_of_ble_eq_true rfl : _ <= 6) (by omega)))))
  | skip
theorem ip_ok (n : Nat) (l : List Int) (q : Int) (a : Adr) (ht : TapeOk n (rI l) q) :
 ∃ (r : Fin 16 -> Int) (q' : Int), byteOk r /\ TapeOk n (rI l) q' /\ MethOk Try.prog 76 [(cE eAdr).enc a] (tapeN n (rI l) q) ((cE (eA .u8 16)).enc r) (tapeN n (rI l) q') := by
 refine tape_intro (wd := 1) (Q := mkQ LT2) (by decide) tysOk (q_of LT2_ok) mixed Try.func76 rfl _ (by show 1 + 1 <= _; decide) (nff_elem (eA .u8 16)) ?_
 repeat' (first | (apply And.intro <;> intro hc <;> (first | exact Bool.noConfusion hc | (simp only [zb0] at hc) | skip)) | (refine And.intro zp1 ?_) | (apply And.intro) | (intro s hs))
 all_goals first
  | exact ⟨(s, _), ⟨by rw [hs]; exact of_byteOk _ _, by assumption⟩, ⟨leF_e (leE_all (by repeat' (first | exact zw2 | refine leE_all ?_ | exact leC_bool (by assumption) | apply And.intro))), tapeN_le⟩⟩
  | (rename_i r hr; exact ⟨(r, _), ⟨hr, by assumption⟩, ⟨leF_e (leE_all (by repeat' (first | exact zw2 | refine leE_all ?_ | exact leC_bool (by assumption) | apply And.intro))), tapeN_le⟩⟩)
  | exact ⟨(fun _ => 0, _), ⟨⟨fun q => show (0 : Int) <= 0 /\ (0 : Int) < 256 from ⟨by decide, by decide⟩⟩, by assumption⟩, ⟨leF_e (leE_all (by repeat' (first | exact zw2 | refine leE_all ?_ | exact leC_bool (by assumption) | apply And.intro))), tapeN_le⟩⟩
theorem addr_ok (n : Nat) (l : List Int) (q : Int) (ht : TapeOk n (rI l) q) :
 ∃ (r : Adr) (q' : Int), True /\ TapeOk n (rI l) q' /\ MethOk Try.prog 34 [] (tapeN n (rI l) q) ((cE eAdr).enc r) (tapeN n (rI l) q') := by
 refine tape_intro (wd := 1) (Q := mkQ LT2) (by decide) tysOk (q_of LT2_ok) mixed Try.func34 rfl _ (by show 0 + 1 <= _; decide) (nff_elem eAdr) ?_
 repeat' (first | (apply And.intro <;> intro hc <;> (first | exact Bool.noConfusion hc | (simp only [zb0] at hc) | skip)) | (refine And.intro zp1 ?_) | (apply And.intro) | (intro s hs))
 . exact ⟨(⟨2, 65535, 0⟩, _), ⟨trivial, by assumption⟩, ⟨leF_e (leE_all ⟨⟨⟨trivial, leC_int rfl⟩, leC_int rfl⟩, leC_int rfl⟩), tapeN_le⟩⟩
 . exact ⟨(⟨0, 0, 0⟩, _), ⟨trivial, by assumption⟩, ⟨leF_e (leE_all ⟨⟨⟨trivial, leC_int rfl⟩, leC_int rfl⟩, leC_int rfl⟩), tapeN_le⟩⟩
 . exact ⟨(⟨_, _, _⟩, _), ⟨trivial, by assumption⟩, ⟨leF_e (leE_all ⟨⟨⟨trivial, leC_int rfl⟩, leC_int rfl⟩, leC_int rfl⟩), tapeN_le⟩⟩
theorem u16r' (z : Int) : 0 <= IntKind.u16.wrap z /\ IntKind.u16.wrap z < 65536 := by
 simp only [IntKind.wrap, IntKind.signed, IntKind.bits]
 constructor
 . exact Int.emod_nonneg _ (by decide)
 . exact Int.emod_lt_of_pos _ (by decide)
theorem port_ok (n : Nat) (l : List Int) (q : Int) (ht : TapeOk n (rI l) q) :
 ∃ (r : Int) (q' : Int), (0 <= r /\ r < 65536) /\ TapeOk n (rI l) q' /\ MethOk Try.prog 78 [] (tapeN n (rI l) q) ((cI .u16).enc r) (tapeN n (rI l) q') := by
 refine tape_intro (wd := 1) (Q := mkQ LT2) (by decide) tysOk (q_of LT2_ok) mixed Try.func78 rfl _ (by show 0 + 1 <= _; decide) (fun _ => nff_int) ?_
 repeat' (first | (apply And.intro <;> intro hc <;> (first | exact Bool.noConfusion hc | (simp only [zb0] at hc) | skip)) | (refine And.intro zp1 ?_) | (apply And.intro) | (intro s hs))
 all_goals exact ⟨(_, _), ⟨u16r' _, by assumption⟩, ⟨leF_int rfl, tapeN_le⟩⟩
theorem nff_slB {L : List Int} : NFF (.e (.c (slR eB L))) := nff_c (nf_sl fun i _ j _ => (eB.flat _ _).nf)
structure BytS (n : Nat) (l : List Int) (K : Nat) where
 i : Nat
 L : List Int
 q : Int
 hi : i <= K
 hL : L.length = K
 hb : BL L
 ht : TapeOk n (rI l) q
theorem bl_set {L : List Int} {i : Nat} {v : Int} (h : BL L) (hv : 0 <= v /\ v < 256) : BL (L.set i v) := ⟨fun x hx => by
 rcases List.mem_or_eq_of_mem_set hx with h1 | h1
 . exact h.m x h1
 . rw [h1]; exact hv⟩
theorem bl_rep (n : Nat) : BL (List.replicate n 0) := ⟨fun x hx => by rw [(List.mem_replicate.1 hx).2]; omega⟩
theorem isRow_rep (n : Nat) : IsRow (fun _ => nth [CV.int .u8 0]) (List.replicate n 0) := ⟨fun k hk => by show CV.int .u8 0 = _; rw [List.getD_eq_getElem?_getD, List.getElem?_eq_getElem hk, List.getElem_replicate]; rfl⟩
theorem leN_setI {c : Wc} {t : TypeId} {L : List Int} {idx i n : Nat} {x : Int} {g : Nat -> CV} (e : idx = i) (hn : n = L.length) (hi : i < L.length) (hg : g 0 = .int .u8 x) : LeN c ⟨t, n, eB.sz, false, updE false (rowF eB L) idx g⟩ (ents eB t (L.set i x)) := by
 subst e
 refine leN_set hn hi (fun i _ j _ => (eB.flat _ _).le) fun j hj => ?_
 have hj : j < 1 := hj
 obtain rfl : j = 0 := by omega
 rw [hg]
 exact leC_int rfl
theorem bytes_ok (n : Nat) (l : List Int) (q m : Int) (ht : TapeOk n (rI l) q) (h1 : 0 <= m) (h2 : m <= 2000) :
 ∃ (r : List Int) (q' : Int), (BL r /\ (r.length : Int) <= m) /\ TapeOk n (rI l) q' /\ MethOk Try.prog 77 [(cI .i64).enc m] (tapeN n (rI l) q) (.e (.c (slR eB r))) (tapeN n (rI l) q') := by
 have w1 : IntKind.i64.wrap (m + 1) = m + 1 := IntWalk.i64_in _ (by omega)
 refine tape_intro (S := fun r => BL r /\ (r.length : Int) <= m) (enc := fun r => .e (.c (slR eB r))) (wd := 1) (Q := mkQ LT2) (by decide) tysOk (q_of LT2_ok) mixed Try.func77 rfl _ (by show 1 + 1 <= _; decide) (fun _ => nff_slB) ?_
 repeat' (first | (apply And.intro <;> intro hc <;> (first | exact Bool.noConfusion hc | (simp only [zb0] at hc) | skip)) | (refine And.intro zp1 ?_) | (apply And.intro) | (intro s hs))
 rename_i s1 hs1
 have hs1' : 0 <= s1 /\ s1 < IntKind.i64.wrap (m + 1) := hs1
 rw [w1] at hs1'
 refine loop_intro (mono_of LT2_ok) (fun s : BytS n l s1.toNat => (⟨[(0, one (.ptr 0 0 0 false)), (5, one (.os 6 0 s.L.length)), (6, one (.int .i64 (s.i : Int)))],
  [(0, some (tapeN n (rI l) s.q)), (6, some (ents eB 5 s.L))], 7⟩ : Hd)) (fun s => s1.toNat - s.i) (fun _ => rfl) ?_ ⟨0, List.replicate s1.toNat 0, _, by omega, by simp, bl_rep _, hs⟩ [] ?_
 . rintro ⟨i, L, q2, hi, hL, hb, ht2⟩
   dsimp only at hi hL hb ht2 ⊢
   repeat' (first | (apply And.intro <;> intro hc <;> (first | exact Bool.noConfusion hc | (simp only [zb0] at hc) | skip)) | (refine And.intro zp1 ?_) | (apply And.intro) | (intro s hs))
   . rename_i s2 hs2
     refine ⟨⟨i + 1, L.set i (IntKind.u8.wrap s2), _, by omega, by rw [List.length_set]; exact hL, bl_set hb (u8r _), hs⟩, [], by dsimp only; omega, rfl, ?_, ?_⟩
     . repeat' (first | exact zw0 | refine leF_int ?_ | refine leF_bool ?_ | exact zw1 | apply And.intro)
       . exact leF_c (leC_os rfl (by dsimp only; rw [List.length_set]))
       . refine (IntWalk.i64_in _ ?_).trans ?_
         . constructor <;> omega
         . dsimp only
           omega
     . repeat' (first | exact zw0 | refine leF_int ?_ | refine leF_bool ?_ | exact zw1 | apply And.intro)
       . exact tapeN_le
       . exact leN_setI (by omega) rfl (by omega) rfl
   . exact ⟨(L, q2), ⟨⟨hb, (show (L.length : Int) <= m by omega)⟩, ht2⟩, ⟨leF_c (leC_row_fin rfl rfl), tapeN_le⟩⟩
 . refine ⟨rfl, ?_, ?_⟩
   . repeat' (first | exact zw0 | refine leF_int ?_ | refine leF_bool ?_ | exact zw1 | apply And.intro)
     exact leF_c (leC_os rfl (by simp))
   . repeat' (first | exact zw0 | refine leF_int ?_ | refine leF_bool ?_ | exact zw1 | apply And.intro)
     . exact tapeN_le
     . exact leN_is (by simp) (isRow_rep _)
abbrev bytesE : Entry := tapeE (AC.cons (cI .i64) AC.nil) (fun a => 0 <= a.1 /\ a.1 <= 2000) (fun a (r : List Int) => BL r /\ (r.length : Int) <= a.1) (fun r => .e (.c (slR eB r)))
structure FilS (K : Nat) where
 i : Nat
 L : List Int
 hi : i <= K
 hL : L.length = K
 hb : BL L
def arr5 (a b c d e : Int) : Fin 5 -> Int := fun q => if q.1 = 0 then a else if q.1 = 1 then b else if q.1 = 2 then c else if q.1 = 3 then d else e
theorem pfill_ok (n : Nat) (l : List Int) (q m : Int) (ht : TapeOk n (rI l) q) (h1 : 0 <= m) (h2 : m <= 2000) :
 ∃ (r : List Int) (q' : Int), (BL r /\ (r.length : Int) = m) /\ TapeOk n (rI l) q' /\ MethOk Try.prog 51 [(cI .i64).enc m] (tapeN n (rI l) q) (.e (.c (slR eB r))) (tapeN n (rI l) q') := by
 refine tape_intro (S := fun r => BL r /\ (r.length : Int) = m) (enc := fun r => .e (.c (slR eB r))) (wd := 1) (Q := mkQ LT2) (by decide) tysOk (q_of LT2_ok) mixed Try.func51 rfl _ (by show 1 + 1 <= _; decide) (fun _ => nff_slB) ?_
 repeat' (first | (apply And.intro <;> intro hc <;> (first | exact Bool.noConfusion hc | (simp only [zb0] at hc) | skip)) | (refine And.intro zp1 ?_) | (apply And.intro) | (intro s hs))
 rename_i s4 hs4 q4 hq4 s2 hs2 q2 hq2 s0 hs0
 refine loop_intro (mono_of LT2_ok) (fun z : FilS m.toNat => (⟨[(0, one (.ptr 0 0 0 false)), (1, one (.int .i64 m)), (5, one (.ptr 12 0 0 false)), (6, one (.os 15 0 z.L.length)), (7, one (.int .i64 (z.i : Int)))],
  [(0, some (tapeN n (rI l) s)), (12, some ⟨130, 1, 5, true, fun _ => (eA .u8 5).cell (arr5 (IntKind.u8.wrap s4) (IntKind.u8.wrap s2) 0 (IntKind.u8.wrap s0) 7)⟩), (15, some (ents eB 5 z.L))], 16⟩ : Hd)) (fun z => m.toNat - z.i) (fun _ => rfl) ?_ ⟨0, List.replicate m.toNat 0, by omega, by simp, bl_rep _⟩ [] ?_
 . rintro ⟨i, L, hi, hL, hb⟩
   dsimp only at hi hL hb ⊢
   have a1 : 0 <= (i : Int).tmod 5 := Int.tmod_nonneg 5 (by omega)
   have a2 : (i : Int).tmod 5 < 5 := Int.tmod_lt_of_pos (i : Int) (by decide)
   repeat' (first | (apply And.intro <;> intro hc <;> (first | exact Bool.noConfusion hc | (simp only [zb0] at hc) | skip)) | (refine And.intro zp1 ?_) | (apply And.intro) | (intro s hs))
   . refine ⟨⟨i + 1, L.set i (IntKind.u8.wrap (vget (arr5 (IntKind.u8.wrap s4) (IntKind.u8.wrap s2) 0 (IntKind.u8.wrap s0) 7) (0 + ((i : Int).tmod 5).toNat * 1 + 0) + IntKind.u8.wrap (IntKind.i64.wrap ((i : Int).tdiv 5)))), by omega, by rw [List.length_set]; exact hL, bl_set hb (u8r _)⟩, [], by dsimp only; omega, rfl, ?_, ?_⟩
     . repeat' (first | exact zw0 | refine leF_int ?_ | refine leF_bool ?_ | exact zw1 | apply And.intro)
       . exact leF_c (leC_os rfl (by dsimp only; rw [List.length_set]))
       . refine (IntWalk.i64_in _ ?_).trans ?_
         . constructor <;> omega
         . dsimp only
           omega
     . repeat' (first | exact zw0 | refine leF_int ?_ | refine leF_bool ?_ | exact zw1 | apply And.intro)
       . exact tapeN_le
       . exact leN_setI (by omega) rfl (by omega) rfl
   . exact ⟨(L, s), ⟨⟨hb, (show (L.length : Int) = m by omega)⟩, hs⟩, ⟨leF_c (leC_row_fin rfl rfl), tapeN_le⟩⟩
 . refine ⟨rfl, ?_, ?_⟩
   . repeat' (first | exact zw0 | refine leF_int ?_ | refine leF_bool ?_ | exact zw1 | apply And.intro)
     exact leF_c (leC_os rfl (by simp))
   . repeat' (first | exact zw0 | refine leF_int ?_ | refine leF_bool ?_ | exact zw1 | apply And.intro)
     . exact tapeN_le
     . refine leN_var ?_
       repeat' (first | exact trivial | exact leC_int rfl | apply And.intro)
     . exact leN_is (by simp) (isRow_rep _)
abbrev pfillE : Entry := tapeE (AC.cons (cI .i64) AC.nil) (fun a => 0 <= a.1 /\ a.1 <= 2000) (fun a (r : List Int) => BL r /\ (r.length : Int) = a.1) (fun r => .e (.c (slR eB r)))
abbrev ipE : Entry := tapeE (AC.cons (cE eAdr) AC.nil) (fun _ => True) (fun a r => byteOk r) (cE (eA .u8 16)).enc
abbrev addrE : Entry := tapeE AC.nil (fun _ => True) (fun a (r : Adr) => True) (cE eAdr).enc
abbrev portE : Entry := tapeE AC.nil (fun _ => True) (fun a (r : Int) => 0 <= r /\ r < 65536) (cI .u16).enc
def LM0 : CsL := (77, some bytesE) :: (51, some pfillE) :: (76, some ipE) :: (34, some addrE) :: (78, some portE) :: (33, some newTapeE) :: []
theorem LM0_ok : AllOk Try.prog LM0 := ⟨tapeE_ok ⟨_, Try.func77, rfl, by kernel_rfl⟩ fun n l q a ht hp => bytes_ok n l q a.1 ht hp.1 hp.2, tapeE_ok ⟨_, Try.func51, rfl, by kernel_rfl⟩ fun n l q a ht hp => pfill_ok n l q a.1 ht hp.1 hp.2, tapeE_ok ⟨_, Try.func76, rfl, by kernel_rfl⟩ fun n l q a ht hp => ip_ok n l q a.1 ht, tapeE_ok ⟨_, Try.func34, rfl, by kernel_rfl⟩ fun n l q a ht hp => addr_ok n l q ht, tapeE_ok ⟨_, Try.func78, rfl, by kernel_rfl⟩ fun n l q a ht hp => port_ok n l q ht, newTapeE_ok, trivial⟩
def LM : CsL := LM0 ++ (LT1 ++ LPi)
theorem LM_ok : AllOk Try.prog LM := append_ok LM0_ok (append_ok LT1_ok LPi_ok)
structure PkM (p : Pkt) : Prop where
 v : validP p = true
 w : PkW p
theorem vget_in {a : Fin 16 -> Int} (h : byteOk a) (i : Nat) : 0 <= vget a i /\ vget a i < 256 := by
 unfold vget
 split
 . exact h.q _
 . exact ⟨by decide, by decide⟩
theorem pkM_mk {cls flow nxt hops sp dp : Int} {src dst : Fin 16 -> Int} {pay : List Int} (h1 : 0 <= cls /\ cls < 256) (h2 : 0 <= flow /\ flow < 1048576) (h3 : 0 <= nxt /\ nxt < 256) (h4 : 0 <= hops /\ hops < 256)
 (h5 : byteOk src) (h6 : byteOk dst) (h7 : 0 <= sp /\ sp < 65536) (h8 : 0 <= dp /\ dp < 65536) (h9 : BL pay) (h10 : vget src 0 ≠ 255) (h11 : (if nxt = 17 then (48 : Int) else 40) + pay.length <= 1280) (h12 : nxt = 17 \/ sp = 0 /\ dp = 0) :
 PkM (⟨cls, flow, nxt, hops, src, dst, sp, dp⟩, pay) := by
 refine ⟨?_, ⟨h1, ⟨h2.1, ?_⟩, h3, h4, vget_in h5, vget_in h6, h7, h8, h9⟩⟩
 . unfold validP mcast sizeP
   simp only [Bool.and_eq_true, Bool.or_eq_true, decide_eq_true_eq, Bool.not_eq_true', decide_eq_false_iff_not]
   exact ⟨⟨⟨by omega, h10⟩, h11⟩, h12⟩
 . show flow < 4294967296
   omega
theorem pick5 (s a b c d e : Int) (h : ∀ x, (x = a \/ x = b \/ x = c \/ x = d \/ x = e \/ x = 0) -> 0 <= x /\ x < 256) (t : Nat) :
 0 <= (bif t.beq 4 then a else bif t.beq 3 then b else bif t.beq 2 then c else bif t.beq 1 then d else bif t.beq 0 then e else 0) /\ (bif t.beq 4 then a else bif t.beq 3 then b else bif t.beq 2 then c else bif t.beq 1 then d else bif t.beq 0 then e else 0) < 256 := by
 apply h
 cases t.beq 4 <;> cases t.beq 3 <;> cases t.beq 2 <;> cases t.beq 1 <;> cases t.beq 0 <;> simp
theorem u16_id {x : Int} (h : 0 <= x /\ x < 65536) : IntKind.u16.wrap x = x := IntWalk.u16_in _ (by omega)
theorem uI2_r {b : List Int} (hb : BL b) {a : Int} {k : Nat} (e : a = k) (h : k + 2 <= b.length) : 0 <= uI b a 2 /\ uI b a 2 < 65536 := by
 rw [uI_2 e h]
 have h1 := hb.get k; have h2 := hb.get (k + 1)
 omega
theorem sizeP_ge (p : Pkt) : 40 <= sizeP p /\ (p.1.nxt = 17 -> 48 <= sizeP p) := by unfold sizeP; split <;> omega
theorem enc_nxt (p : Pkt) (s : Int) : (encB p s).getD 6 default = p.1.nxt := by rw [encB_hd]; rfl
theorem enc_hops (p : Pkt) (s : Int) : (encB p s).getD 7 default = p.1.hops := by rw [encB_hd]; rfl
theorem sumP_other {p : Pkt} (h : p.1.nxt ≠ 17) : sumP p = 0 := by
 unfold sumP; rw [if_neg (fun k => h k.2)]
theorem enc_lens {p : Pkt} (hp : PkM p) (s : Int) : (40 <= (encB p s).length /\ (encB p s).length <= 1280) /\ ((encB p s).getD 6 default = 17 -> 48 <= (encB p s).length) := by
 have h1 := encB_len p s
 have h2 := valid_size hp.v
 have h3 := sizeP_ge p
 rw [enc_nxt]
 refine ⟨by omega, fun h => ?_⟩
 have := h3.2 h
 omega
theorem dec_hdr {p : Pkt} (hp : PkM p) {s : Int} (hs : 0 <= s /\ s < 65536) : decF (encB p s) = if p.1.nxt = 17 /\ s ≠ sumP p then (pk0, 6) else (p, 0) := by
 have hl := enc_lens hp s
 have hb := encB_BL hp.w s
 have hk := pkF_enc hp.w hp.v hs
 have hc := (encB_pkF hb hl.1 hl.2 hs).1 (by rw [hk])
 have hl2 := hl.2
 have hcv : p.1.nxt = 17 -> IntKind.u16.wrap (uI (encB p s) 46 2) = s /\ sum0 (coverB (encB p s)) = sumP p := fun h => by
  rw [<- (hc.2 ((enc_nxt p s).trans h)).2, u16_id hs, cover_enc h, sumP_covL hp.v h]
  exact ⟨rfl, rfl⟩
 rw [enc_nxt] at hc hl2
 unfold decF
 rw [hk, hp.v, enc_nxt, if_neg (by omega), if_neg (by omega), if_neg (fun h => h.elim (fun h => h hc.1.1) (fun h => h hc.1.2)), if_neg (fun h => h.2 (hc.2 h.1).1), if_neg (by decide)]
 by_cases hu : p.1.nxt = 17
 . obtain ⟨e1, e2⟩ := hcv hu
   rw [e1, e2]
 . rw [if_neg (fun h => hu h.1), if_neg (fun h => hu h.1)]
theorem enc_dec {p : Pkt} (hp : PkM p) : decF (encB p (sumP p)) = (p, 0) := by
 rw [dec_hdr hp (sumP_r p), if_neg (fun h => h.2 rfl)]
theorem dec_enc {b : List Int} (hb : BL b) (h : (decF b).2 = 0) : decF b = (pkF b, 0) /\ PkM (pkF b) /\ b = encB (pkF b) (sumP (pkF b)) := by
 obtain ⟨l1, l2, e⟩ := dec_len h
 rw [e] at h
 refine ⟨e, ?_⟩
 unfold decF at e
 split at e
 . cases congrArg Prod.snd e
 . split at e
   . cases congrArg Prod.snd e
   . rename_i c1 c2
     split at e
     . cases congrArg Prod.snd e
     . rename_i c3
       split at e
       . cases congrArg Prod.snd e
       . rename_i c4
         split at e
         . cases congrArg Prod.snd e
         . rename_i c5
           split at e
           . cases congrArg Prod.snd e
           . rename_i c6
             have hlen : b.getD 6 default = 17 -> 48 <= b.length := fun k => by
              rcases Nat.lt_or_ge b.length 48 with h' | h'
              . exact absurd (.inr ⟨h', k⟩) c2
              . exact h'
             have hv : validP (pkF b) = true := by cases hv : validP (pkF b) with | true => rfl | false => exact absurd hv c5
             have hw := pkF_w hb l1
             have d3 : shrI .u64 (uI b 0 4) 28 = 6 /\ uI b 4 2 = IntKind.u64.wrap (IntKind.i64.wrap (b.length - 40)) := by
              refine ⟨Classical.byContradiction fun k => c3 (.inl k), Classical.byContradiction fun k => c3 (.inr k)⟩
             refine ⟨⟨hv, hw⟩, ?_⟩
             by_cases hu : b.getD 6 default = 17
             . have h48 := hlen hu
               have d4 : uI b 44 2 = IntKind.u64.wrap (IntKind.i64.wrap (b.length - 40)) := Classical.byContradiction fun k => c4 ⟨hu, k⟩
               have d6 : IntKind.u16.wrap (uI b 46 2) = sum0 (coverB b) := Classical.byContradiction fun k => c6 ⟨hu, k⟩
               have hr := uI2_r hb (a := 46) (k := 46) rfl (by omega)
               rw [u16_id hr] at d6
               have e1 := (encB_pkF hb ⟨l1, l2⟩ hlen hr).2 ⟨d3, fun _ => ⟨d4, rfl⟩⟩
               have e2 : sumP (pkF b) = uI b 46 2 := by
                rw [sumP_covL hv ((pkF_nxt b).trans hu), <- cover_enc ((pkF_nxt b).trans hu) (uI b 46 2), e1, d6]
               rw [e2]; exact e1.symm
             . rw [sumP_other (by rw [pkF_nxt]; exact hu)]
               exact ((encB_pkF hb ⟨l1, l2⟩ hlen ⟨Int.le_refl _, by decide⟩).2 ⟨d3, fun k => absurd k hu⟩).symm
def rsumB (b : List Int) : Int := if b.getD 6 default = 17 then IntKind.u16.wrap (uI b 46 2) else 0
def rdecF (b : List Int) : Pkt × Int :=
 if 1280 < b.length then (pk0, 3)
 else if b.length < 40 \/ b.length < 48 /\ b.getD 6 default = 17 then (pk0, 4)
 else if validP (pkF b) = false \/ encB (pkF b) (rsumB b) ≠ b then (pk0, 5)
 else if b.getD 6 default = 17 /\ rsumB b ≠ sumP (pkF b) then (pk0, 6)
 else (pkF b, 0)
theorem rdec_eq {b : List Int} (hb : BL b) : rdecF b = decF b := by
 unfold rdecF decF
 split
 . rfl
 . rename_i c1
   split
   . rfl
   . rename_i c2
     have l1 : 40 <= b.length := by omega
     have l2 : b.length <= 1280 := by omega
     have hlen : b.getD 6 default = 17 -> 48 <= b.length := fun k => by
      rcases Nat.lt_or_ge b.length 48 with h' | h'
      . exact absurd (.inr ⟨h', k⟩) c2
      . exact h'
     have hr : 0 <= rsumB b /\ rsumB b < 65536 := by
      unfold rsumB
      split
      . exact u16r' _
      . omega
     have hk := encB_pkF hb ⟨l1, l2⟩ hlen hr
     have hs46 : b.getD 6 default = 17 -> rsumB b = uI b 46 2 := fun hu => by
      have h48 := hlen hu
      unfold rsumB
      rw [if_pos hu, u16_id (uI2_r hb (a := 46) (k := 46) rfl (by omega))]
     cases hv : validP (pkF b) with
     | false =>
       rw [if_pos (.inl rfl)]
       split
       . rfl
       . split
         . rfl
         . rw [if_pos rfl]
     | true =>
       by_cases he : encB (pkF b) (rsumB b) = b
       . obtain ⟨d3, d4⟩ := hk.1 he
         rw [if_neg (fun h => h.elim (by decide) (fun h => h he)), if_neg (c := shrI .u64 (uI b 0 4) 28 ≠ 6 \/ _) (fun h => h.elim (fun h => h d3.1) (fun h => h d3.2)), if_neg (c := b.getD 6 default = 17 /\ uI b 44 2 ≠ _) (fun h => h.2 (d4 h.1).1), if_neg (c := true = false) (by decide)]
         by_cases hu : b.getD 6 default = 17
         . have e2 : sumP (pkF b) = sum0 (coverB b) := by
            rw [sumP_covL hv ((pkF_nxt b).trans hu), <- cover_enc ((pkF_nxt b).trans hu) (rsumB b), he]
           have e3 : rsumB b = IntKind.u16.wrap (uI b 46 2) := by unfold rsumB; rw [if_pos hu]
           rw [e2, e3]
         . rw [if_neg (fun h => hu h.1), if_neg (fun h => hu h.1)]
       . rw [if_pos (.inr he)]
         by_cases d3 : shrI .u64 (uI b 0 4) 28 ≠ 6 \/ uI b 4 2 ≠ IntKind.u64.wrap (IntKind.i64.wrap (b.length - 40))
         . rw [if_pos d3]
         . rw [if_neg d3]
           by_cases d4 : b.getD 6 default = 17 /\ uI b 44 2 ≠ IntKind.u64.wrap (IntKind.i64.wrap (b.length - 40))
           . rw [if_pos d4]
           . exact absurd (hk.2 ⟨⟨Classical.byContradiction fun k => d3 (.inl k), Classical.byContradiction fun k => d3 (.inr k)⟩, fun hu => ⟨Classical.byContradiction fun k => d4 ⟨hu, k⟩, hs46 hu⟩⟩) he
def withHops (p : Pkt) (h : Int) : Pkt := ({ p.1 with hops := h }, p.2)
theorem sumP_hops (p : Pkt) (h : Int) : sumP (withHops p h) = sumP p := by
 by_cases hv : validP p = true /\ p.1.nxt = 17
 . rw [sumP_covL (p := withHops p h) hv.1 hv.2, sumP_covL hv.1 hv.2]; rfl
 . unfold sumP
   rw [if_neg hv, if_neg (show ¬ (validP (withHops p h) = true /\ (withHops p h).1.nxt = 17) from hv)]
theorem encB_hops (p : Pkt) (h s : Int) : encB (withHops p h) s = (encB p s).set 7 h := by
 rw [encB_hd, encB_hd]; rfl
theorem withHops_m {p : Pkt} (hp : PkM p) {h : Int} (hh : 0 <= h /\ h < 256) : PkM (withHops p h) := ⟨hp.v, ⟨hp.w.cls, hp.w.flow, hp.w.nxt, hh, hp.w.src, hp.w.dst, hp.w.sp, hp.w.dp, hp.w.pay⟩⟩
theorem fwd_enc {p : Pkt} (hp : PkM p) : fwdF (encB p (sumP p)) = if p.1.hops < 2 then ([], 2) else (encB (withHops p (p.1.hops - 1)) (sumP p), 0) := by
 unfold fwdF
 rw [enc_dec hp, if_neg (fun h => h rfl)]
 dsimp only
 split
 . rfl
 . have h := hp.w.hops
   rw [enc_hops, encB_hops, IntWalk.u8_in _ (by omega)]
def rfwdF (b : List Int) : List Int × Int :=
 if (decF b).2 ≠ 0 then ([], (decF b).2)
 else if (decF b).1.1.hops < 2 then ([], 2)
 else ((encR (withHops (decF b).1 (IntKind.u8.wrap ((decF b).1.1.hops - 1)))).getD [], ecR (encR (withHops (decF b).1 (IntKind.u8.wrap ((decF b).1.1.hops - 1)))))
theorem rfwd_eq {b : List Int} (hb : BL b) : rfwdF b = fwdF b := by
 by_cases h : (decF b).2 = 0
 . obtain ⟨e1, hp, e2⟩ := dec_enc hb h
   generalize hpp : pkF b = p at e1 hp e2
   subst e2
   rw [fwd_enc hp]
   unfold rfwdF
   rw [enc_dec hp, if_neg (fun h => h rfl)]
   dsimp only
   have hh := hp.w.hops
   split
   . rfl
   . have hm := withHops_m hp (h := p.1.hops - 1) (by omega)
     rw [IntWalk.u8_in _ (by omega)]
     have e : encR (withHops p (p.1.hops - 1)) = some (encB (withHops p (p.1.hops - 1)) (sumP p)) := by
      unfold encR
      rw [if_pos hm.v, sumP_hops]
     rw [e]; rfl
 . unfold rfwdF fwdF
   rw [if_pos h, if_pos h]
def upB (p : Pkt) (s : Int) : List Int := (if p.1.nxt = 17 then encU p s else []) ++ p.2
theorem wlen {p : Pkt} (hl : p.2.length <= 70368744177664) : IntKind.u64.wrap (IntKind.i64.wrap (sizeP p - 40)) = sizeP p - 40 := by
 have : 40 <= sizeP p /\ sizeP p <= 70368744200000 := by unfold sizeP; split <;> omega
 rw [IntWalk.i64_in _ (by omega)]
 exact IntWalk.u64_in _ (by omega)
theorem toL_nil (f : Nat -> Nat -> CV) : toL eB 0 f = [] := rfl
theorem app_le {s t : List Int} {v n : Int} (h : s = t ++ beB v n) : s.length <= t.length + 8 := by
 rw [h, List.length_append]
 have := beB_len v n
 omega
theorem ip_at {a : Fin 16 -> Int} {k i : Nat} (e : i = k) (hk : k < (ipL a).length) : CV.int .u8 (vget a i) = .int .u8 ((ipL a).getD k default) := by
 rw [ipL_len] at hk
 rw [e]
 unfold ipL
 rw [List.getD_eq_getElem?_getD, List.getElem?_map, List.getElem?_range hk]; rfl
def LRp0 : CsL := (22, some validE) :: LPi
theorem LRp0_ok : AllOk Try.prog LRp0 := ⟨pureE_ok ⟨_, Try.func22, rfl, by kernel_rfl⟩ fun a h => rpvalid_ok a.1 h, LPi_ok⟩
theorem upper_ok (p : Pkt) (s0 : Int) (hp : PkW p) (hl : p.2.length <= 70368744177664) (hs0 : 0 <= s0 /\ s0 < 65536) : NewOk Try.prog 70 [cPk.enc p, (cI .u16).enc s0] (some (upB p s0).length) none (ents eB 5 (upB p s0)) := by
 obtain ⟨w, eW⟩ : ∃ w, upB p s0 = w := ⟨_, rfl⟩
 have h1 := hp.sp
 have h2 := hp.dp
 have w1 : IntKind.u64.wrap p.1.sp = p.1.sp := IntWalk.u64_in _ (by omega)
 have w2 : IntKind.u64.wrap p.1.dp = p.1.dp := IntWalk.u64_in _ (by omega)
 have w3 : IntKind.u64.wrap s0 = s0 := IntWalk.u64_in _ (by omega)
 have w4 := wlen hl
 rw [eW]
 refine new_intro (wd := 1) (Q := mkQ LRp0) (by decide) tysOk (q_of LRp0_ok) mixed Try.func70 rfl _ (by show 2 <= _; decide) (fun i _ j _ => row_nf eB _ i j) ?_
 repeat' (first | (apply And.intro <;> intro hc <;> (first | exact Bool.noConfusion hc | (simp only [zb0, ne_eq, not_true_eq_false] at hc <;> first | exact absurd rfl hc | skip) | skip)) | (refine And.intro zp1 ?_) | (apply And.intro) | (intro s hs; (first | (have q : s = sizeP p := hs.trans (congrArg sizeP (pk_eq p _)); clear hs; subst q) | (dsimp only at hs; (first | rw [toL_b0] at hs | rw [toL_nil] at hs); have hln := app_le hs; try rw [List.length_nil] at hln) | skip)))
 all_goals first
  | exact rfl
  | (dsimp only; rw [toL_b0]; omega)
  | (dsimp only; rw [toL_b]; omega)
  | (dsimp only; rw [toL_nil]; decide)
  | omega
  | (dsimp only; omega)
  | skip
 . rename_i z1 hz1 _ z2 hz2 _ z3 hz3 _
   have e : w = s ++ p.2 := by
    rw [<- eW]
    unfold upB encU
    rw [if_pos hc, hs, hz3, hz2, hz1, w1, w2, w3, w4]; rfl
   rw [e]
   refine ⟨⟨some _, leF_c (leC_os rfl (by rw [List.length_append])), leN_is (by rw [List.length_append]) (isRow_sel rfl (isRow_row _) fun k hk => ?_)⟩⟩
   rw [show s.length + k - s.length = k by omega]; rfl
 . have e : w = p.2 := by
    rw [<- eW]
    unfold upB
    rw [if_neg hc]; rfl
   rw [e]
   exact ⟨⟨some _, leF_c (leC_os rfl rfl), leN_is rfl (isRow_row _)⟩⟩
abbrev upE : Entry := newE (AC.cons cPk (AC.cons (cI .u16) AC.nil)) (fun a => PkW a.1 /\ a.1.2.length <= 70368744177664 /\ 0 <= a.2.1 /\ a.2.1 < 65536) (fun a => upB a.1 a.2.1) (fun L => some L.length) (fun _ => none) (fun L => ents eB 5 L)
def psB (src dst : Fin 16 -> Int) (n nx : Int) : List Int := ipL src ++ ipL dst ++ beB (IntKind.u64.wrap n) 4 ++ [0, 0, 0, nx]
theorem ps_row (Z : Nat -> Nat -> CV) (src dst : Fin 16 -> Int) : IsRow (fun k j => (fun k j => selC (k.blt (0 + (16 - 0))) ((fun k j => selC (k.blt 0) (Z k j) ((fun k q => (fun x => (eA IntKind.u8 16).cell src) 0 (0 + 0 * 1 + (k * 1 + q))) (k - 0) j)) k j) ((fun k q => (fun x => (eA IntKind.u8 16).cell dst) 0 (0 + 0 * 1 + (k * 1 + q))) (k - (0 + (16 - 0))) j)) (0 + k) j) ([] ++ ipL src ++ ipL dst) := by
 refine isRow_0 (F := fun k j => selC (k.blt (0 + (16 - 0))) (selC (k.blt 0) (Z k j) ((eA IntKind.u8 16).cell src (0 + 0 * 1 + ((k - 0) * 1 + j)))) ((eA IntKind.u8 16).cell dst (0 + 0 * 1 + ((k - (0 + (16 - 0))) * 1 + j)))) (isRow_sel (A := fun k j => selC (k.blt 0) (Z k j) ((eA IntKind.u8 16).cell src (0 + 0 * 1 + ((k - 0) * 1 + j)))) (C := fun k j => (eA IntKind.u8 16).cell dst (0 + 0 * 1 + ((k - (0 + (16 - 0))) * 1 + j))) (n := 16) rfl (isRow_sel (A := Z) (C := fun k j => (eA IntKind.u8 16).cell src (0 + 0 * 1 + ((k - 0) * 1 + j))) (n := 0) (l1 := []) rfl ⟨fun k hk => absurd hk (Nat.not_lt_zero _)⟩ fun k hk => ?_) fun k hk => ?_)
 . exact ip_at (by omega) hk
 . exact ip_at (by omega) hk
theorem pseudo_ok (src dst : Fin 16 -> Int) (n nx : Int) : NewOk Try.prog 69 [(cE (eA .u8 16)).enc src, (cE (eA .u8 16)).enc dst, (cI .i64).enc n, (cI .u8).enc nx] (some (psB src dst n nx).length) none (ents eB 5 (psB src dst n nx)) := by
 obtain ⟨w, eW⟩ : ∃ w, psB src dst n nx = w := ⟨_, rfl⟩
 rw [eW]
 refine new_intro (wd := 1) (Q := mkQ LRp0) (by decide) tysOk (q_of LRp0_ok) mixed Try.func69 rfl _ (by show 4 <= _; decide) (fun i _ j _ => row_nf eB _ i j) ?_
 repeat' (first | (apply And.intro <;> intro hc <;> (first | exact Bool.noConfusion hc | (simp only [zb0, ne_eq, not_true_eq_false] at hc <;> first | exact absurd rfl hc | skip) | skip)) | (refine And.intro zp1 ?_) | (apply And.intro) | (intro s hs; (have q : s = ([] ++ ipL src ++ ipL dst) ++ beB (IntKind.u64.wrap n) 4 := hs.trans (congrArg (fun l => l ++ beB (IntKind.u64.wrap n) 4) (toL_is (l := [] ++ ipL src ++ ipL dst) rfl (ps_row (fun _ => nth [CV.int IntKind.u8 0]) src dst)))); clear hs))
 all_goals first
  | exact rfl
  | (show (toL eB _ _).length <= _; rw [toL_len]; omega)
  | (have := congrArg List.length q; have h2 := beB_len (IntKind.u64.wrap n) 4; simp only [List.length_append, ipL_len, List.length_nil] at this; omega)
  | skip
 . exact fun i hi => ok_is (ps_row (fun _ => nth [CV.int IntKind.u8 0]) src dst) hi
 . have e : w = s ++ [0, 0, 0, nx] := by
    rw [<- eW, q]; rfl
   rw [e]
   refine ⟨⟨some _, leF_c (leC_os rfl (by rw [List.length_append]; rfl)), leN_is (by rw [List.length_append]; rfl) (isRow_sel rfl (isRow_row _) fun k hk => ?_)⟩⟩
   rw [show s.length + k - s.length = k by omega]
   rcases k with _ | _ | _ | _ | k
   . rfl
   . rfl
   . rfl
   . rfl
   . exact absurd hk (by show ¬ _ < 4; omega)
abbrev pseudoE : Entry := newE (AC.cons (cE (eA .u8 16)) (AC.cons (cE (eA .u8 16)) (AC.cons (cI .i64) (AC.cons (cI .u8) AC.nil)))) (fun _ => True) (fun a => psB a.1 a.2.1 a.2.2.1 a.2.2.2.1) (fun L => some L.length) (fun _ => none) (fun L => ents eB 5 L)
def LRp1 : CsL := (70, some upE) :: (69, some pseudoE) :: LRp0
theorem LRp1_ok : AllOk Try.prog LRp1 := ⟨newE_ok ⟨_, Try.func70, rfl, by kernel_rfl⟩ (fun s l h => by cases h) fun a h => upper_ok a.1 a.2.1 h.1 h.2.1 h.2.2, newE_ok ⟨_, Try.func69, rfl, by kernel_rfl⟩ (fun s l h => by cases h) fun a _ => pseudo_ok a.1 a.2.1 a.2.2.1 a.2.2.2.1, LRp0_ok⟩
theorem dst_eq (h : Hdr) (last : CV) : ((eA .u8 16).rd fun q => tailC eHd h last (0 + 20 + q)) = h.dst := by
 funext q
 show valI (tailC eHd h last (0 + 20 + q.1)) = h.dst q
 rw [show 0 + 20 + q.1 = 20 + q.1 by omega, tailC_lt (show 20 + q.1 < 38 by omega), eHd_dst_at _ _ q.2]
 exact vget_lt _ q.2
theorem upB_17 {p : Pkt} (h : p.1.nxt = 17) (s : Int) : upB p s = encU p s ++ p.2 := by unfold upB; rw [if_pos h]
theorem sum_key {p : Pkt} (hl : p.2.length <= 70368744177664) (h : p.1.nxt = 17) : [psB p.1.src p.1.dst (IntKind.i64.wrap (sizeP p - 40)) 17, upB p 0].flatten = covL p := by
 unfold psB
 rw [wlen hl, upB_17 h, ipL_list, ipL_list]
 unfold encU
 rw [beB2, beB2, beB2, beB2]
 simp only [List.flatten_cons, List.flatten_nil, List.append_nil, List.append_assoc]
 rfl
theorem psB_BL {src dst : Fin 16 -> Int} (h1 : ∀ i, 0 <= vget src i /\ vget src i < 256) (h2 : ∀ i, 0 <= vget dst i /\ vget dst i < 256) {n nx : Int} (h3 : 0 <= nx /\ nx < 256) : BL (psB src dst n nx) :=
 (((ipL_BL h1).append (ipL_BL h2)).append (beB_BL _ _)).append (BL.cons (by omega) (BL.cons (by omega) (BL.cons (by omega) (BL.cons h3 BL.nil))))
theorem upB_BL {p : Pkt} (hp : PkW p) (s : Int) : BL (upB p s) := by
 unfold upB encU
 refine BL.append ?_ hp.pay
 split
 . exact (((beB_BL _ _).append (beB_BL _ _)).append (beB_BL _ _)).append (beB_BL _ _)
 . exact BL.nil
theorem upB_len (p : Pkt) (s : Int) : (upB p s).length <= p.2.length + 8 := by
 unfold upB encU
 split
 . simp only [List.length_append, beB2]; simp; omega
 . simp
theorem psB_len (src dst : Fin 16 -> Int) (n nx : Int) : (psB src dst n nx).length <= 44 := by
 unfold psB
 have := beB_len (IntKind.u64.wrap n) 4
 simp only [List.length_append, ipL_len, List.length_cons, List.length_nil]
 omega
theorem rsumP_ok (p : Pkt) (hp : PkW p) (hl : p.2.length <= 140737488355328) : PureOk Try.prog 26 [cPk.enc p] ((cI .u16).enc (sumP p)) := by
 refine pure_intro (wd := 1) (Q := mkQ LRp1) (by decide) tysOk (q_of LRp1_ok) mixed Try.func26 rfl _ (by show 1 <= _; decide) _ ?_
 repeat' (first | (apply And.intro <;> intro hc <;> (first | exact Bool.noConfusion hc | (simp only [zb0, ne_eq, not_true_eq_false] at hc <;> first | exact absurd rfl hc | skip) | skip)) | (refine And.intro zp1 ?_) | (apply And.intro) | (intro s hs; (first | (have hs' : s = validP p := hs.trans (congrArg validP (pk_eq p _)); clear hs; subst hs') | (have q : s = sizeP p := hs.trans (congrArg sizeP (pk_eq p _)); clear hs; subst q) | (have hq1 : s = psB p.1.src p.1.dst (IntKind.i64.wrap (sizeP p - 40)) 17 := by (rw [hs]; dsimp only; rw [src_eq, dst_eq])) | (have hq2 : s = upB p 0 := hs.trans (congrArg (fun x => upB x 0) (pk_eq p _))) | skip)))
 all_goals
  try (have hvl := valid_len (p := p) (by assumption))
 all_goals first
  | (dsimp only; rw [toL_b]; omega)
  | (dsimp only; rw [pk_eq]; exact hp)
  | exact rfl
  | (dsimp only; omega)
  | exact Done.mk (leF_int (by unfold sumP; rw [if_neg fun h => by first | exact absurd h.1 (by assumption) | exact absurd h.2 (by assumption) | exact Bool.noConfusion (h.1.symm.trans (by assumption))]))
  | skip
 . refine ⟨fun l h => ?_⟩
   dsimp only at h
   rw [toL_b0, toL_b0] at h
   simp only [List.mem_cons, List.not_mem_nil, or_false] at h
   rcases h with rfl | rfl
   . rw [hq1]; exact psB_BL hp.src hp.dst (by omega)
   . rw [hq2]; exact upB_BL hp 0
 . show 2 <= 16; decide
 . dsimp only
   rw [toL_b0, toL_b0]
   have h1 := psB_len p.1.src p.1.dst (IntKind.i64.wrap (sizeP p - 40)) 17
   have h2 := upB_len p 0
   rw [<- hq1] at h1
   rw [<- hq2] at h2
   simp only [List.flatten_cons, List.flatten_nil, List.length_append, List.length_nil]
   omega
 all_goals
  have hv : validP p = true := by assumption
  have h17 : p.1.nxt = 17 := by assumption
  have e : s = inetF (covL p) := by
   refine hs.trans ?_
   clear hs
   dsimp only
   rw [toL_b0, toL_b0, hq1, hq2, sum_key (by have := valid_len hv; omega) h17]
  clear hs
  refine Done.mk (leF_int ?_)
  rw [sumP_covL hv h17]
  unfold sum0
  rw [<- e]
  clear e hv h17 hq1 hq2
  first | (rw [if_pos (by assumption)]) | (rw [if_neg (by assumption)])
abbrev rsumE : Entry := pureE PA (fun a => PkW a.1 /\ a.1.2.length <= 140737488355328) (fun a => sumP a.1) (cI .u16).enc
def LRp2 : CsL := (26, some rsumE) :: LRp1
theorem LRp2_ok : AllOk Try.prog LRp2 := ⟨pureE_ok ⟨_, Try.func26, rfl, by kernel_rfl⟩ fun a h => rsumP_ok a.1 h.1 h.2, LRp1_ok⟩
theorem fields_ok (p : Pkt) (hf : 0 <= p.1.flow /\ p.1.flow < 4294967296) : PureOk Try.prog 80 [cPk.enc p] (encIS (firstF p, inlF p)) := by
 by_cases h : p.1.nxt = 17
 . exact fields_17 p hf h
 . exact fields_no p hf h
theorem uni_ok (a : Fin 16 -> Int) (k : Adr) (source : Bool) (l : List Ctx) (now : Int) (ha : byteOk a) (hl : bytesL l) : PureOk Try.prog 81 [(cE (eA .u8 16)).enc a, (cE eAdr).enc k, cB.enc source, (cSl eCtx eCtx_sz).enc l, (cI .i64).enc now] (encFm (uniF a k source l now)) := by
 by_cases Z : source = true /\ ipEq a zeroA = true
 . exact uni_ok0 a k source l now ha hl Z
 . exact uni_ok1 a k source l now ha hl Z
abbrev uniA : AC ((Fin 16 -> Int) × Adr × Bool × List Ctx × Int × Unit) := AC.cons (cE (eA .u8 16)) (AC.cons (cE eAdr) (AC.cons cB (AC.cons (cSl eCtx eCtx_sz) (AC.cons (cI .i64) AC.nil))))
abbrev uniE : Entry := pureE uniA (fun a => byteOk a.1 /\ bytesL a.2.2.2.1) (fun a => uniF a.1 a.2.1 a.2.2.1 a.2.2.2.1 a.2.2.2.2.1) encFm
abbrev grpFE : Entry := pureE aIp (fun _ => True) (fun a => grpF a.1) encFm
abbrev chkA : AC (Adr × Adr × List Ctx × Int × Unit) := AC.cons (cE eAdr) (AC.cons (cE eAdr) (AC.cons (cSl eCtx eCtx_sz) (AC.cons (cI .i64) AC.nil)))
abbrev chkE : Entry := pureE chkA (fun a => a.2.2.1.length <= 9223372036854775807) (fun a => checkF a.1 a.2.1 a.2.2.1 a.2.2.2.1) (cI .i64).enc
abbrev fldE : Entry := pureE PA (fun a => 0 <= a.1.1.flow /\ a.1.1.flow < 4294967296) (fun a => (firstF a.1, inlF a.1)) encIS
def LIh5 : CsL := (81, some uniE) :: (82, some grpFE) :: (79, some chkE) :: (80, some fldE) :: LIh2
theorem LIh5_ok : AllOk Try.prog LIh5 := ⟨pureE_ok ⟨_, Try.func81, rfl, by kernel_rfl⟩ fun a h => uni_ok a.1 a.2.1 a.2.2.1 a.2.2.2.1 a.2.2.2.2.1 h.1 h.2, pureE_ok ⟨_, Try.func82, rfl, by kernel_rfl⟩ fun a _ => grp_ok a.1, pureE_ok ⟨_, Try.func79, rfl, by kernel_rfl⟩ fun a h => check_ok a.1 a.2.1 a.2.2.1 a.2.2.2.1 h, pureE_ok ⟨_, Try.func80, rfl, by kernel_rfl⟩ fun a h => fields_ok a.1 h, LIh2_ok⟩
structure FmW (f : Fm) : Prop where
 id : 0 <= f.id /\ f.id < 16
 mode : 0 <= f.mode /\ f.mode <= 3
theorem iids_m (y : Int) (k : Adr) : 0 <= (iidsF y k).1 /\ (iidsF y k).1 <= 3 := by
 unfold iidsF
 split
 . exact ⟨(by decide : (0 : Int) <= 3), (by decide : (3 : Int) <= 3)⟩
 . split
   . exact ⟨(by decide : (0 : Int) <= 2), (by decide : (2 : Int) <= 3)⟩
   . exact ⟨(by decide : (0 : Int) <= 1), (by decide : (1 : Int) <= 3)⟩
theorem uni_w (a : Fin 16 -> Int) (k : Adr) (s : Bool) (l : List Ctx) (now : Int) : FmW (uniF a k s l now).1 := by
 refine ⟨uni_id a k s l now, ?_⟩
 have := iids_m (loF a) k
 unfold uniF
 split
 . exact ⟨(by decide : (0 : Int) <= 0), (by decide : (0 : Int) <= 3)⟩
 . split
   . exact this
   . split
     . exact this
     . exact ⟨(by decide : (0 : Int) <= 0), (by decide : (0 : Int) <= 3)⟩
theorem grp_w (a : Fin 16 -> Int) : FmW (grpF a).1 := by
 unfold grpF
 split
 . exact ⟨⟨(by decide : (0 : Int) <= 0), (by decide : (0 : Int) < 16)⟩, (by decide : (0 : Int) <= 3), (by decide : (3 : Int) <= 3)⟩
 . split
   . exact ⟨⟨(by decide : (0 : Int) <= 0), (by decide : (0 : Int) < 16)⟩, (by decide : (0 : Int) <= 2), (by decide : (2 : Int) <= 3)⟩
   . split
     . exact ⟨⟨(by decide : (0 : Int) <= 0), (by decide : (0 : Int) < 16)⟩, (by decide : (0 : Int) <= 1), (by decide : (1 : Int) <= 3)⟩
     . exact ⟨⟨(by decide : (0 : Int) <= 0), (by decide : (0 : Int) < 16)⟩, (by decide : (0 : Int) <= 0), (by decide : (0 : Int) <= 3)⟩
theorem bitV_r (b : Bool) (v : Int) (h : 0 <= v) : 0 <= bitV b v /\ bitV b v <= v := by
 unfold bitV
 split <;> omega
theorem first_r (p : Pkt) : 96 <= firstF p /\ firstF p < 128 := by
 have h1 : 0 <= (flowF p).1 /\ (flowF p).1 <= 3 := by
  unfold flowF
  split
  . exact ⟨(by decide : (0 : Int) <= 0), (by decide : (0 : Int) <= 3)⟩
  . split
    . exact ⟨(by decide : (0 : Int) <= 1), (by decide : (1 : Int) <= 3)⟩
    . split
      . exact ⟨(by decide : (0 : Int) <= 2), (by decide : (2 : Int) <= 3)⟩
      . exact ⟨(by decide : (0 : Int) <= 3), (by decide : (3 : Int) <= 3)⟩
 have h2 : 0 <= hopF p.1.hops /\ hopF p.1.hops <= 3 := by unfold hopF; split <;> (try split) <;> (try split) <;> omega
 have h3 := bitV_r (decide (p.1.nxt = 17)) 4 (by decide)
 unfold firstF
 omega
theorem isRow_2 {G : Nat -> Nat -> CV} {x y : Int} (h0 : G 0 0 = .int .u8 x) (h1 : G 1 0 = .int .u8 y) : IsRow G [x, y] := ⟨fun k hk => by
 rcases k with _ | _ | k
 . exact h0
 . exact h1
 . exact absurd hk (by show ¬ _ < 2; omega)⟩
theorem rowF_at {l : List Int} {i k : Nat} (h : i = k) : rowF eB l i 0 = .int .u8 (l.getD k default) := by subst h; rfl
theorem ids_eq {s d : Fm} (hs : FmW s) (hd : FmW d) : IntKind.i64.wrap (IntKind.i64.wrap (16 * s.id) + d.id) = 16 * s.id + d.id := by
 have h1 := hs.id
 have h2 := hd.id
 rw [IntWalk.i64_in (16 * s.id) (by omega)]
 exact IntWalk.i64_in _ (by omega)
theorem sec_eq {s d : Fm} (hs : FmW s) (hd : FmW d) (m : Bool) : IntKind.u8.wrap (IntKind.i64.wrap (IntKind.i64.wrap (IntKind.i64.wrap (bitV (IntKind.i64.wrap (IntKind.i64.wrap (16 * s.id) + d.id) != 0) 128 + bitV s.ctx 64) + IntKind.i64.wrap (16 * s.mode)) + IntKind.i64.wrap (IntKind.i64.wrap (bitV m 8 + bitV d.ctx 4) + d.mode))) = secF s d m := by
 rw [ids_eq hs hd]
 have h1 := hs.mode
 have h2 := hd.mode
 unfold secF
 have e : (16 * s.id + d.id != 0) = decide (16 * s.id + d.id ≠ 0) := by
  by_cases h : 16 * s.id + d.id = 0
  . rw [h]; rfl
  . rw [decide_eq_true h]; simp [h]
 rw [e]
 have b1 := bitV_r (decide (16 * s.id + d.id ≠ 0)) 128 (by decide)
 have b2 := bitV_r s.ctx 64 (by decide)
 have b3 := bitV_r m 8 (by decide)
 have b4 := bitV_r d.ctx 4 (by decide)
 rw [IntWalk.i64_in (16 * s.mode) (by omega), IntWalk.i64_in (bitV m 8 + bitV d.ctx 4) (by omega), IntWalk.i64_in (bitV m 8 + bitV d.ctx 4 + d.mode) (by omega), IntWalk.i64_in (bitV (decide (16 * s.id + d.id ≠ 0)) 128 + bitV s.ctx 64) (by omega),
  IntWalk.i64_in (bitV (decide (16 * s.id + d.id ≠ 0)) 128 + bitV s.ctx 64 + 16 * s.mode) (by omega), IntWalk.i64_in _ (by omega), IntWalk.u8_in _ (by omega)]
 omega
theorem u8_id {x : Int} (h : 0 <= x /\ x < 256) : IntKind.u8.wrap x = x := IntWalk.u8_in _ (by omega)
theorem enc_true (p : Pkt) (f t : Adr) (l : List Ctx) (now : Int) (hp : PkW p) (hpl : p.2.length <= 140737488355328) (hl : bytesL l) (hm : mcast p.1.dst = true) : NewOk Try.prog 41 [cPk.enc p, (cE eAdr).enc f, (cE eAdr).enc t, (cSl eCtx eCtx_sz).enc l, (cI .i64).enc now] (some (encI p f t l now).1.length) (some [i64V (encI p f t l now).2]) (ents eB 5 (encI p f t l now).1) := by
 obtain ⟨W, eW⟩ : ∃ W, encI p f t l now = W := ⟨_, rfl⟩
 rw [eW]
 unfold encI joinH at eW
 have wU := uni_w p.1.src f true l now
 have hF := first_r p
 have sl1 := uni_len p.1.src f true l now
 have sl4 := inl_len p
 have wX := grp_w p.1.dst
 have sl2 := (grp_len p.1.dst).1
 have eDst : dstF p t l now = grpF p.1.dst := by unfold dstF; rw [if_pos hm]
 obtain ⟨G, eG⟩ : ∃ x, grpF p.1.dst = x := ⟨_, rfl⟩
 obtain ⟨V, eV⟩ : ∃ x, validP p = x := ⟨_, rfl⟩
 obtain ⟨Ck, eC⟩ : ∃ x, checkF f t l now = x := ⟨_, rfl⟩
 obtain ⟨F, eF⟩ : ∃ x, firstF p = x := ⟨_, rfl⟩
 obtain ⟨IL, eI⟩ : ∃ x, inlF p = x := ⟨_, rfl⟩
 obtain ⟨U, eU⟩ : ∃ x, uniF p.1.src f true l now = x := ⟨_, rfl⟩
 rw [eG] at eDst wX sl2
 rw [eV, eC, eF, eI, eU, eDst, hm] at eW
 rw [eU] at wU sl1
 rw [eF] at hF
 rw [eI] at sl4
 have eFI : (firstF p, inlF p) = (F, IL) := by rw [eF, eI]
 have hb1 : byteOk p.1.src := ⟨fun q => by have := hp.src q.1; rw [vget_lt _ q.2] at this; exact this⟩
 have hb2 : byteOk p.1.dst := ⟨fun q => by have := hp.dst q.1; rw [vget_lt _ q.2] at this; exact this⟩
 have e1 : V = false -> W = ([], 1) := fun h => by rw [<- eW, if_pos h]
 have e2 : V = true -> ¬ Ck = 0 -> W = ([], Ck) := fun h g => by rw [<- eW, if_neg (by rw [h]; decide), if_pos g]
 have e3 : V = true -> Ck = 0 -> W = ([F, secF U.1 G.1 true] ++ (if 16 * U.1.id + G.1.id ≠ 0 then [16 * U.1.id + G.1.id] else []) ++ IL ++ U.2 ++ G.2, 0) := fun h g => by rw [<- eW, if_neg (by rw [h]; decide), if_neg (fun x => x g)]
 have eI' := ids_eq wU wX
 have eS := sec_eq wU wX true
 have eF8 : IntKind.u8.wrap F = F := u8_id (by omega)
 have eI8 : IntKind.u8.wrap (IntKind.i64.wrap (IntKind.i64.wrap (16 * U.1.id) + G.1.id)) = 16 * U.1.id + G.1.id := by
  have h1 := wU.id
  have h2 := wX.id
  rw [eI']
  exact u8_id (by omega)
 clear eW eDst eF eI
 have g1 : True := trivial
 refine new_intro (wd := 1) (Q := mkQ LIh5) (by decide) tysOk (q_of LIh5_ok) mixed Try.func41 rfl _ (by show 5 <= _; decide) (fun i _ j _ => row_nf eB _ i j) ?_
 repeat' (first | (apply And.intro <;> intro hc <;> (first | exact Bool.noConfusion hc | (exfalso; first | exact Bool.noConfusion hc) | (simp only [zb0, ne_eq, not_true_eq_false] at hc <;> first | exact absurd rfl hc | (exfalso; first | exact Bool.noConfusion hc) | skip) | skip)) | (refine And.intro zp1 ?_) | (apply And.intro) | (intro s hs; (first | (have q : V = s := (hs.trans ((congrArg validP (pk_eq p _)).trans eV)).symm; clear hs; subst q) | (have q : Ck = s := (hs.trans ((congr (congr (congrArg (fun a b c => checkF a b c now) (rd_adr f)) (rd_adr t)) (toL_ctx l)).trans eC)).symm; clear hs; subst q) | (have q : s = (F, IL) := hs.trans ((congrArg (fun p => (firstF p, inlF p)) (pk_eq p _)).trans eFI); clear hs; subst q) | (clear g1; have q : U = s := (hs.trans ((congr (congr (congrArg (fun a b c => uniF a b true c now) (src_eq p.1 _)) (rd_adr f)) (toL_ctx l)).trans eU)).symm; clear hs; subst q) | (have q : s = true := hs.trans ((congrArg mcast (dst_eq p.1 _)).trans hm); clear hs; subst q) | (have q : G = s := (hs.trans ((congrArg grpF (dst_eq p.1 _)).trans eG)).symm; clear hs; subst q) | (have q := hs; dsimp only at q; clear hs; subst q) | skip)))
 all_goals first
  | (show (toL eB p.2.length _).length <= _; rw [toL_len]; exact hpl)
  | (show (toL eCtx l.length _).length <= _; rw [toL_len]; have := hl.n; omega)
  | ((first | rw [e1 (by assumption)] | rw [e2 (by assumption) (by assumption)])
     exact ⟨⟨none, leF_tup ⟨leC_nils_os rfl, leC_int rfl, trivial⟩, rfl, rfl, (by show 0 < 1; omega)⟩⟩)
  | exact Eq.mp (congrArg (fun p : Pkt => 0 <= p.1.flow) (pk_eq p _).symm) hp.flow.1
  | exact Eq.mp (congrArg (fun p : Pkt => p.1.flow < 4294967296) (pk_eq p _).symm) hp.flow.2
  | exact Eq.mp (congrArg byteOk (src_eq p.1 _).symm) hb1
  | exact Eq.mp (congrArg byteOk (dst_eq p.1 _).symm) hb2
  | exact Eq.mp (congrArg bytesL (toL_ctx l).symm) hl
  | omega
  | (dsimp only; omega)
  | skip
 . have hne : 16 * U.1.id + G.1.id ≠ 0 := by rw [<- eI']; exact hc
   have e := e3 (by assumption) (by assumption)
   rw [if_pos hne] at e
   rw [e]
   refine ⟨⟨some _, leF_tup ⟨leC_os rfl ?_, leC_int rfl, trivial⟩, leN_is ?_ (isRow_sel ?_ (isRow_sel ?_ (isRow_sel ?_ (isRow_sel rfl (isRow_2 (congrArg (CV.int .u8) eF8) (congrArg (CV.int .u8) eS)) (fun k hk => ?_)) (fun k hk => rowF_at (by omega))) (fun k hk => rowF_at (by omega))) (fun k hk => rowF_at (by omega)))⟩⟩
   all_goals first
    | (obtain rfl : k = 0 := (by have hk' : k < 1 := hk; omega)
       exact congrArg (CV.int .u8) eI8)
    | (simp only [List.length_append, List.length_cons, List.length_nil]; done)
    | rfl
 . have hne : ¬ 16 * U.1.id + G.1.id ≠ 0 := fun h => h (by rw [<- eI']; exact hc)
   have e := e3 (by assumption) (by assumption)
   rw [if_neg hne] at e
   rw [List.append_nil] at e
   rw [e]
   refine ⟨⟨some _, leF_tup ⟨leC_os rfl ?_, leC_int rfl, trivial⟩, leN_is ?_ (isRow_sel ?_ (isRow_sel ?_ (isRow_sel rfl (isRow_2 (congrArg (CV.int .u8) eF8) (congrArg (CV.int .u8) eS)) (fun k hk => rowF_at (by omega))) (fun k hk => rowF_at (by omega))) (fun k hk => rowF_at (by omega)))⟩⟩
   all_goals first
    | (simp only [List.length_append, List.length_cons, List.length_nil]; done)
    | rfl
theorem enc_false (p : Pkt) (f t : Adr) (l : List Ctx) (now : Int) (hp : PkW p) (hpl : p.2.length <= 140737488355328) (hl : bytesL l) (hm : mcast p.1.dst = false) : NewOk Try.prog 41 [cPk.enc p, (cE eAdr).enc f, (cE eAdr).enc t, (cSl eCtx eCtx_sz).enc l, (cI .i64).enc now] (some (encI p f t l now).1.length) (some [i64V (encI p f t l now).2]) (ents eB 5 (encI p f t l now).1) := by
 obtain ⟨W, eW⟩ : ∃ W, encI p f t l now = W := ⟨_, rfl⟩
 rw [eW]
 unfold encI joinH at eW
 have wU := uni_w p.1.src f true l now
 have hF := first_r p
 have sl1 := uni_len p.1.src f true l now
 have sl4 := inl_len p
 have wX := uni_w p.1.dst t false l now
 have sl2 := uni_len p.1.dst t false l now
 have eDst : dstF p t l now = uniF p.1.dst t false l now := by unfold dstF; rw [if_neg (by rw [hm]; decide)]
 obtain ⟨D, eG⟩ : ∃ x, uniF p.1.dst t false l now = x := ⟨_, rfl⟩
 obtain ⟨V, eV⟩ : ∃ x, validP p = x := ⟨_, rfl⟩
 obtain ⟨Ck, eC⟩ : ∃ x, checkF f t l now = x := ⟨_, rfl⟩
 obtain ⟨F, eF⟩ : ∃ x, firstF p = x := ⟨_, rfl⟩
 obtain ⟨IL, eI⟩ : ∃ x, inlF p = x := ⟨_, rfl⟩
 obtain ⟨U, eU⟩ : ∃ x, uniF p.1.src f true l now = x := ⟨_, rfl⟩
 rw [eG] at eDst wX sl2
 rw [eV, eC, eF, eI, eU, eDst, hm] at eW
 rw [eU] at wU sl1
 rw [eF] at hF
 rw [eI] at sl4
 have eFI : (firstF p, inlF p) = (F, IL) := by rw [eF, eI]
 have hb1 : byteOk p.1.src := ⟨fun q => by have := hp.src q.1; rw [vget_lt _ q.2] at this; exact this⟩
 have hb2 : byteOk p.1.dst := ⟨fun q => by have := hp.dst q.1; rw [vget_lt _ q.2] at this; exact this⟩
 have e1 : V = false -> W = ([], 1) := fun h => by rw [<- eW, if_pos h]
 have e2 : V = true -> ¬ Ck = 0 -> W = ([], Ck) := fun h g => by rw [<- eW, if_neg (by rw [h]; decide), if_pos g]
 have e3 : V = true -> Ck = 0 -> W = ([F, secF U.1 D.1 false] ++ (if 16 * U.1.id + D.1.id ≠ 0 then [16 * U.1.id + D.1.id] else []) ++ IL ++ U.2 ++ D.2, 0) := fun h g => by rw [<- eW, if_neg (by rw [h]; decide), if_neg (fun x => x g)]
 have eI' := ids_eq wU wX
 have eS := sec_eq wU wX false
 have eF8 : IntKind.u8.wrap F = F := u8_id (by omega)
 have eI8 : IntKind.u8.wrap (IntKind.i64.wrap (IntKind.i64.wrap (16 * U.1.id) + D.1.id)) = 16 * U.1.id + D.1.id := by
  have h1 := wU.id
  have h2 := wX.id
  rw [eI']
  exact u8_id (by omega)
 clear eW eDst eF eI
 have g1 : True := trivial
 refine new_intro (wd := 1) (Q := mkQ LIh5) (by decide) tysOk (q_of LIh5_ok) mixed Try.func41 rfl _ (by show 5 <= _; decide) (fun i _ j _ => row_nf eB _ i j) ?_
 repeat' (first | (apply And.intro <;> intro hc <;> (first | exact Bool.noConfusion hc | (exfalso; first | exact Bool.noConfusion hc) | (simp only [zb0, ne_eq, not_true_eq_false] at hc <;> first | exact absurd rfl hc | (exfalso; first | exact Bool.noConfusion hc) | skip) | skip)) | (refine And.intro zp1 ?_) | (apply And.intro) | (intro s hs; (first | (have q : V = s := (hs.trans ((congrArg validP (pk_eq p _)).trans eV)).symm; clear hs; subst q) | (have q : Ck = s := (hs.trans ((congr (congr (congrArg (fun a b c => checkF a b c now) (rd_adr f)) (rd_adr t)) (toL_ctx l)).trans eC)).symm; clear hs; subst q) | (have q : s = (F, IL) := hs.trans ((congrArg (fun p => (firstF p, inlF p)) (pk_eq p _)).trans eFI); clear hs; subst q) | (clear g1; have q : U = s := (hs.trans ((congr (congr (congrArg (fun a b c => uniF a b true c now) (src_eq p.1 _)) (rd_adr f)) (toL_ctx l)).trans eU)).symm; clear hs; subst q) | (have q : s = false := hs.trans ((congrArg mcast (dst_eq p.1 _)).trans hm); clear hs; subst q) | (have q : D = s := (hs.trans ((congr (congr (congrArg (fun a b c => uniF a b false c now) (dst_eq p.1 _)) (rd_adr t)) (toL_ctx l)).trans eG)).symm; clear hs; subst q) | (have q := hs; dsimp only at q; clear hs; subst q) | skip)))
 all_goals first
  | (show (toL eB p.2.length _).length <= _; rw [toL_len]; exact hpl)
  | (show (toL eCtx l.length _).length <= _; rw [toL_len]; have := hl.n; omega)
  | ((first | rw [e1 (by assumption)] | rw [e2 (by assumption) (by assumption)])
     exact ⟨⟨none, leF_tup ⟨leC_nils_os rfl, leC_int rfl, trivial⟩, rfl, rfl, (by show 0 < 1; omega)⟩⟩)
  | exact Eq.mp (congrArg (fun p : Pkt => 0 <= p.1.flow) (pk_eq p _).symm) hp.flow.1
  | exact Eq.mp (congrArg (fun p : Pkt => p.1.flow < 4294967296) (pk_eq p _).symm) hp.flow.2
  | exact Eq.mp (congrArg byteOk (src_eq p.1 _).symm) hb1
  | exact Eq.mp (congrArg byteOk (dst_eq p.1 _).symm) hb2
  | exact Eq.mp (congrArg bytesL (toL_ctx l).symm) hl
  | omega
  | (dsimp only; omega)
  | skip
 . have hne : 16 * U.1.id + D.1.id ≠ 0 := by rw [<- eI']; exact hc
   have e := e3 (by assumption) (by assumption)
   rw [if_pos hne] at e
   rw [e]
   refine ⟨⟨some _, leF_tup ⟨leC_os rfl ?_, leC_int rfl, trivial⟩, leN_is ?_ (isRow_sel ?_ (isRow_sel ?_ (isRow_sel ?_ (isRow_sel rfl (isRow_2 (congrArg (CV.int .u8) eF8) (congrArg (CV.int .u8) eS)) (fun k hk => ?_)) (fun k hk => rowF_at (by omega))) (fun k hk => rowF_at (by omega))) (fun k hk => rowF_at (by omega)))⟩⟩
   all_goals first
    | (obtain rfl : k = 0 := (by have hk' : k < 1 := hk; omega)
       exact congrArg (CV.int .u8) eI8)
    | (simp only [List.length_append, List.length_cons, List.length_nil]; done)
    | rfl
 . have hne : ¬ 16 * U.1.id + D.1.id ≠ 0 := fun h => h (by rw [<- eI']; exact hc)
   have e := e3 (by assumption) (by assumption)
   rw [if_neg hne] at e
   rw [List.append_nil] at e
   rw [e]
   refine ⟨⟨some _, leF_tup ⟨leC_os rfl ?_, leC_int rfl, trivial⟩, leN_is ?_ (isRow_sel ?_ (isRow_sel ?_ (isRow_sel rfl (isRow_2 (congrArg (CV.int .u8) eF8) (congrArg (CV.int .u8) eS)) (fun k hk => rowF_at (by omega))) (fun k hk => rowF_at (by omega))) (fun k hk => rowF_at (by omega)))⟩⟩
   all_goals first
    | (simp only [List.length_append, List.length_cons, List.length_nil]; done)
    | rfl
theorem encode_ok (p : Pkt) (f t : Adr) (l : List Ctx) (now : Int) (hp : PkW p) (hpl : p.2.length <= 140737488355328) (hl : bytesL l) : NewOk Try.prog 41 [cPk.enc p, (cE eAdr).enc f, (cE eAdr).enc t, (cSl eCtx eCtx_sz).enc l, (cI .i64).enc now] (some (encI p f t l now).1.length) (some [i64V (encI p f t l now).2]) (ents eB 5 (encI p f t l now).1) := by
 cases hm : mcast p.1.dst with
 | true => exact enc_true p f t l now hp hpl hl hm
 | false => exact enc_false p f t l now hp hpl hl hm
abbrev enIE : Entry := newE (AC.cons cPk (AC.cons (cE eAdr) (AC.cons (cE eAdr) (AC.cons (cSl eCtx eCtx_sz) (AC.cons (cI .i64) AC.nil))))) (fun a => PkW a.1 /\ a.1.2.length <= 140737488355328 /\ bytesL a.2.2.2.1) (fun a => encI a.1 a.2.1 a.2.2.1 a.2.2.2.1 a.2.2.2.2.1) (fun s => some s.1.length) (fun s => some [i64V s.2]) (fun s => ents eB 5 s.1)
theorem enIE_ok : EntOk Try.prog 41 enIE := newE_ok ⟨_, Try.func41, rfl, by kernel_rfl⟩ (fun s l h x hx => by injection h with h; subst h; obtain rfl := List.mem_singleton.1 hx; exact nfE_c nf_int) fun a h => encode_ok a.1 a.2.1 a.2.2.1 a.2.2.2.1 a.2.2.2.2.1 h.1 h.2.1 h.2.2
theorem ouint2_ok (b : List Int) (a n : Int) (hb : BL b) (hl : b.length <= 140737488355328) :
 PureOk Try.prog 74 [(cSl eB eB_sz).enc b, (cI .i64).enc a, (cI .i64).enc n] (encUB (uintF b a n)) := by
 by_cases hr : 1 <= n /\ n <= 8 /\ 0 <= a /\ a <= b.length - n
 . obtain ⟨m, rfl⟩ : ∃ m : Nat, n = m := ⟨n.toNat, by omega⟩
   obtain ⟨p, rfl⟩ : ∃ p : Nat, a = p := ⟨a.toNat, by omega⟩
   obtain ⟨w, hw⟩ : ∃ w, w = (b.drop p).take m := ⟨_, rfl⟩
   have hwl : w.length = m := by rw [hw]; simp; omega
   have hwB : BL w := by rw [hw]; exact (hb.drop p).take m
   have hsp : uintF b p m = (beVal w, true) := by unfold uintF; rw [if_pos hr, hw]; rfl
   rw [hsp]
   have e1 : IntKind.i64.wrap ((b.length : Int) - m) = b.length - m := IntWalk.i64_in _ (by omega)
   have e2 : IntKind.i64.wrap ((p : Int) + m) = p + m := IntWalk.i64_in _ (by omega)
   have e3 : (IntKind.i64.wrap ((p : Int) + m)).toNat - (p : Int).toNat = m := by omega
   refine pure_intro (wd := 1) (Q := mkQ LE0) (by decide) tysOk (q_of LE0_ok) mixed Try.func74 rfl _ (by show 3 <= _; decide) _ ?_
   repeat' (first | (apply And.intro <;> intro hc <;> (first | exact Bool.noConfusion hc | (simp only [zb0] at hc) | skip)) | (refine And.intro zp0 ?_) | (apply And.intro) | (intro s hs))
   all_goals first
    | (exfalso; omega)
    | omega
    | skip
   refine loop_intro (mono_of LE0_ok) (fun s : {k : Nat // k <= m} => (⟨[(8, one (.int .u64 (beVal (w.take s.1)))), (34, one (.sl false w.length eB.sz (rowF eB w))), (35, one (.int .i64 m)), (36, one (.int .i64 (s.1 : Int)))], [], 0⟩ : Hd)) (fun s => m - s.1) (fun _ => rfl) ?_ ⟨0, by omega⟩ [] ?_
   . rintro ⟨k, hk⟩
     dsimp only at hk ⊢
     have hv := beVal_lt (w.take k) (hwB.take k)
     repeat' (first | (apply And.intro <;> intro hc <;> (first | exact Bool.noConfusion hc | (simp only [zb0] at hc) | skip)) | (refine And.intro zp0 ?_) | (apply And.intro) | (intro s hs))
     all_goals first
      | omega
      | skip
     . have hc' : k < m := by omega
       have hx := hwB.get k
       refine ⟨⟨k + 1, by omega⟩, [], by dsimp only <;> omega, rfl, ?_, ?_⟩
       . repeat' (first | exact zw0 | refine leF_int ?_ | refine leF_bool ?_ | exact zw1 | apply And.intro)
         . have hp := pow256_le (show (w.take k).length <= 7 by simp; omega)
           refine (or8 _ _ ⟨hv.1, by omega⟩ hx).trans ?_
           show _ = beVal (w.take (k + 1))
           rw [take_snocI (by omega), beVal_snoc]
           try rfl
         . exact zaw
       . repeat' (first | exact zw0 | refine leF_int ?_ | refine leF_bool ?_ | exact zw1 | apply And.intro)
     . refine Done.mk (leF_tup ?_)
       have hkm : k = m := by omega
       refine ⟨leE_c (leC_int ?_), leE_c (leC_bool rfl), trivial⟩
       show beVal (w.take k) = beVal w
       rw [List.take_of_length_le (by omega)]
   . refine ⟨rfl, ?_, ?_⟩
     . repeat' (first | exact zw0 | refine leF_int ?_ | refine leF_bool ?_ | exact zw1 | apply And.intro)
       . refine leF_c (leC_sl (fun h => by cases h) ?_ rfl fun i hi j hj => ?_)
         . rw [hwl]; exact e3
         . refine leC_cell (E := eB) ?_
           rw [hw, getD_dt _ _ _ _ (by omega) (by omega)]; rfl
       . show ((_ : Nat) : Int) = m
         rw [e3]
     . repeat' (first | exact zw0 | refine leF_int ?_ | refine leF_bool ?_ | exact zw1 | apply And.intro)
 . have hsp : uintF b a n = (0, false) := by unfold uintF; rw [if_neg hr]
   rw [hsp]
   have e1 : 1 <= n -> n <= 8 -> IntKind.i64.wrap ((b.length : Int) - n) = b.length - n := fun _ _ => IntWalk.i64_in _ (by omega)
   refine pure_intro (wd := 1) (Q := mkQ LE0) (by decide) tysOk (q_of LE0_ok) mixed Try.func74 rfl _ (by show 3 <= _; decide) _ ?_
   repeat' (first | (apply And.intro <;> intro hc <;> (first | exact Bool.noConfusion hc | (simp only [zb0] at hc) | skip)) | (refine And.intro zp0 ?_) | (apply And.intro) | (intro s hs))
   all_goals first
    | exact Done.mk (leF_tup ⟨leE_c (leC_int rfl), leE_c (leC_bool rfl), trivial⟩)
    | (exfalso; have := e1 (by omega) (by omega); omega)
abbrev uint2E : Entry := pureE uintA (fun a => BL a.1 /\ a.1.length <= 140737488355328) (fun a => uintF a.1 a.2.1 a.2.2.1) encUB
def LOc2 : CsL := (74, some uint2E) :: LIh5
theorem LOc2_ok : AllOk Try.prog LOc2 := ⟨pureE_ok ⟨_, Try.func74, rfl, by kernel_rfl⟩ fun a h => ouint2_ok a.1 a.2.1 a.2.2.1 h.1 h.2, LIh5_ok⟩
structure RdOk (b : List Int) (q : Int) : Prop where
 bl : BL b
 len : b.length <= 140737488355328
 lo : 0 <= q
 hi : q <= b.length
abbrev encRN (r : Int × Int) : FV := .tup [.c (.int .u64 r.1), .c (.int .i64 r.2)]
theorem encRN_flat (r : Int × Int) : FlatF (encRN r) := flatF_tup fun x hx => by
 rcases List.mem_cons.1 hx with rfl | hx
 . exact flatE_c flat_int
 . rcases List.mem_cons.1 hx with rfl | hx
   . exact flatE_c flat_int
   . cases hx
theorem uint_true {b : List Int} {q n : Int} (h : (uintF b q n).2 = true) : 1 <= n /\ n <= 8 /\ 0 <= q /\ q <= b.length - n := by
 unfold uintF at h
 split at h
 . assumption
 . cases h
theorem number_ok (b : List Int) (q n : Int) (hr : RdOk b q) (hn : 1 <= n /\ n <= 16) : MethOk Try.prog 138 [(cI .i64).enc n] (rdN true b q) (encRN (numF b q n).1) (rdN true b (numF b q n).2) := by
 have h1 := hr.lo
 have h2 := hr.hi
 have h3 := hr.len
 have hU := uint_true (b := b) (q := q) (n := n)
 obtain ⟨U, eU⟩ : ∃ U, uintF b q n = U := ⟨_, rfl⟩
 obtain ⟨W, eW⟩ : ∃ W, numF b q n = W := ⟨_, rfl⟩
 rw [eW]
 unfold numF at eW
 rw [eU] at eW hU
 have e1 : U.2 = false -> W = ((0, 4), q) := fun h => by rw [<- eW, if_neg (by rw [h]; decide)]
 have e2 : U.2 = true -> W = ((U.1, 0), q + n) := fun h => by rw [<- eW, if_pos h]
 clear eW
 refine meth_intro (wd := 1) (Q := mkQ LOc2) (by decide) tysOk (q_of LOc2_ok) mixed Try.func138 rfl _ (by show 1 + 1 <= _; decide) (flatF_nff (encRN_flat _)) (rdN_nf) ?_
 repeat' (first | (apply And.intro <;> intro hc <;> (first | exact Bool.noConfusion hc | (simp only [zb0, ne_eq, not_true_eq_false] at hc <;> first | exact absurd rfl hc | skip) | skip)) | (refine And.intro zp1 ?_) | (apply And.intro) | (intro s hs; (first | (have q : U = s := (hs.trans ((congrArg (fun b => uintF b q n) (toL_b b)).trans eU)).symm; clear hs; subst q) | skip)))
 all_goals first
  | exact Eq.mp (congrArg BL (toL_b b).symm) hr.bl
  | (show (toL eB b.length _).length <= _; rw [toL_len]; exact h3)
  | (rw [e1 (by assumption)]
     exact ⟨leF_tup ⟨leC_int rfl, leC_int rfl, trivial⟩, rdN_le rfl⟩)
  | (rw [e2 (by assumption)]
     have := hU (by assumption)
     refine ⟨leF_tup ⟨leC_int rfl, leC_int rfl, trivial⟩, leN_var ⟨⟨trivial, leC_sl (fun _ => rfl) rfl rfl fun i _ j _ => leC_cell rfl⟩, leC_int ?_⟩⟩
     exact IntWalk.i64_in _ (by omega))
theorem uint_r {b : List Int} {q n : Int} (hb : BL b) : 0 <= (uintF b q n).1 /\ (uintF b q n).1 < 256 ^ n.toNat := by
 have h0 : (0 : Int) < 256 ^ n.toNat := Int.pow_pos (by decide)
 unfold uintF
 split
 . have hv := beVal_lt _ ((hb.drop q.toNat).take n.toNat)
   refine ⟨hv.1, Int.lt_of_lt_of_le hv.2 (pow256_le ?_)⟩
   rw [List.length_take]
   exact Nat.min_le_left _ _
 . exact ⟨Int.le_refl 0, h0⟩
theorem num_v {b : List Int} {q n : Int} (hb : BL b) : 0 <= (numF b q n).1.1 /\ (numF b q n).1.1 < 256 ^ n.toNat := by
 unfold numF
 split
 . exact uint_r hb
 . exact ⟨Int.le_refl 0, Int.pow_pos (by decide)⟩
theorem num_ok {b : List Int} {q n : Int} (h : RdOk b q) : RdOk b (numF b q n).2 := by
 have h1 := h.lo
 have h2 := h.hi
 have hU := uint_true (b := b) (q := q) (n := n)
 unfold numF
 split
 . rename_i g
   have := hU g
   exact ⟨h.bl, h.len, by dsimp only; omega, by dsimp only; omega⟩
 . exact h
abbrev encRA (r : (Fin 16 -> Int) × Int) : FV := .tup [.agg 16 ((eA .u8 16).cell r.1), .c (.int .i64 r.2)]
theorem encRA_flat (r : (Fin 16 -> Int) × Int) : FlatF (encRA r) := flatF_tup fun x hx => by
 rcases List.mem_cons.1 hx with rfl | hx
 . exact flatE_agg fun i => (eA .u8 16).flat _ _
 . rcases List.mem_cons.1 hx with rfl | hx
   . exact flatE_c flat_int
   . cases hx
theorem rip_ok (b : List Int) (q : Int) (hr : RdOk b q) : MethOk Try.prog 142 [] (rdN true b q) (encRA (ipRF b q).1) (rdN true b (ipRF b q).2) := by
 have h1 := hr.lo
 have h2 := hr.hi
 have h3 := hr.len
 have w0 : IntKind.i64.wrap ((b.length : Int) - q) = b.length - q := IntWalk.i64_in _ (by omega)
 obtain ⟨W, eW⟩ : ∃ W, ipRF b q = W := ⟨_, rfl⟩
 rw [eW]
 unfold ipRF at eW
 have e1 : IntKind.i64.wrap ((b.length : Int) - q) < 16 -> W = ((zeroA, 4), q) := fun h => by rw [<- eW, if_pos (by rw [<- w0]; exact h)]
 have e2 : ¬ IntKind.i64.wrap ((b.length : Int) - q) < 16 -> W = ((ipAt b q, 0), q + 16) := fun h => by rw [<- eW, if_neg (by rw [<- w0]; exact h)]
 clear eW
 refine meth_intro (wd := 1) (Q := mkQ LAd) (by decide) tysOk (q_of LAd_ok) mixed Try.func142 rfl _ (by show 0 + 1 <= _; decide) (flatF_nff (encRA_flat _)) (rdN_nf) ?_
 repeat' (first | (apply And.intro <;> intro hc <;> (first | exact Bool.noConfusion hc | (simp only [zb0, ne_eq, not_true_eq_false] at hc <;> first | exact absurd rfl hc | skip) | skip)) | (refine And.intro zp1 ?_) | (apply And.intro) | (intro s hs; skip))
 . rw [e1 (by assumption)]
   exact ⟨leF_tup ⟨leE_all (by repeat' (first | exact zw2 | refine leE_all ?_ | exact leC_bool (by assumption) | apply And.intro)), leC_int rfl, trivial⟩, rdN_le rfl⟩
 . rw [e2 (by assumption)]
   refine ⟨leF_tup ⟨leE_agg rfl fun i hi => ?_, leC_int rfl, trivial⟩, leN_var ⟨⟨trivial, leC_sl (fun _ => rfl) rfl rfl fun i _ j _ => leC_cell rfl⟩, leC_int ?_⟩⟩
   . have hm : Nat.min (b.length - q.toNat) (16 - 0) = 16 := by
      show min (b.length - q.toNat) 16 = 16
      omega
     iterate 16 (rcases i with _ | i; · exact leC_int (by rw [hm]; rfl))
     exact absurd hi (by omega)
   . exact IntWalk.i64_in _ (by omega)
theorem and_bits : ∀ y : Fin 256, (bits .and .i64 (y.1 : Int) 8 ≠ 0 ↔ bitAt y.1 8 = true) /\ (bits .and .i64 (y.1 : Int) 4 ≠ 0 ↔ bitAt y.1 4 = true) /\ (bits .and .i64 (y.1 : Int) 64 ≠ 0 ↔ bitAt y.1 64 = true) /\ (bits .and .i64 (y.1 : Int) 3 = y.1 % 4) /\ (bits .and .i64 (y.1 : Int) 128 ≠ 0 ↔ 128 <= (y.1 : Int)) /\ bits .and .i64 (y.1 / 16 : Int) 3 = y.1 / 16 % 4 /\ bits .and .i64 (y.1 / 8 : Int) 3 = y.1 / 8 % 4 /\ bits .and .i64 (y.1 : Int) 15 = y.1 % 16 := by decide +kernel
abbrev numE : Entry := rdE (AC.cons (cI .i64) AC.nil) (fun b q a => RdOk b q /\ 1 <= a.1 /\ a.1 <= 16) (fun b q a => numF b q a.1) encRN
abbrev ripE : Entry := rdE AC.nil (fun b q _ => RdOk b q) (fun b q _ => ipRF b q) encRA
def LRd0 : CsL := (138, some numE) :: (142, some ripE) :: (116, some (pureE AC.nil (fun _ => True) (fun _ => llP) (cE ePfx).enc)) :: LOc2
theorem LRd0_ok : AllOk Try.prog LRd0 := ⟨rdE_ok ⟨_, Try.func138, rfl, by kernel_rfl⟩ (fun r => encRN_flat r) fun b q a h => number_ok b q a.1 h.1 h.2, rdE_ok ⟨_, Try.func142, rfl, by kernel_rfl⟩ (fun r => encRA_flat r) fun b q a h => rip_ok b q h, pureE_ok ⟨_, Try.func116, rfl, by kernel_rfl⟩ fun _ _ => llp_ok, LOc2_ok⟩
abbrev encR3 (r : I3 × Int) : FV := .tup [.c (.int .i64 r.1.1), .c (.int .i64 r.1.2.1), .c (.int .i64 r.1.2.2), .c (.int .i64 r.2)]
theorem encR3_flat (r : I3 × Int) : FlatF (encR3 r) := flatF_tup fun x hx => by
 rcases List.mem_cons.1 hx with rfl | hx
 . exact flatE_c flat_int
 rcases List.mem_cons.1 hx with rfl | hx
 . exact flatE_c flat_int
 rcases List.mem_cons.1 hx with rfl | hx
 . exact flatE_c flat_int
 rcases List.mem_cons.1 hx with rfl | hx
 . exact flatE_c flat_int
 . cases hx
theorem num1_v {b : List Int} {q : Int} (hb : BL b) : 0 <= (numF b q 1).1.1 /\ (numF b q 1).1.1 < 256 := by
 have := num_v (q := q) (n := 1) hb
 exact this
theorem bad_iff {y : Int} (h : 0 <= y /\ y < 256) : badY y = true ↔ ¬ bits .and .i64 y 4 = 0 /\ (¬ bits .and .i64 y 8 = 0 \/ bits .and .i64 y 3 = 0) := by
 obtain ⟨m, rfl⟩ : ∃ m : Nat, y = m := ⟨y.toNat, by omega⟩
 obtain ⟨a1, a2, _, a3, _⟩ := and_bits ⟨m, by omega⟩
 unfold badY
 rw [Bool.and_eq_true, Bool.or_eq_true, decide_eq_true_eq]
 show _ ↔ bits .and .i64 (m : Int) 4 ≠ 0 /\ (bits .and .i64 (m : Int) 8 ≠ 0 \/ bits .and .i64 (m : Int) 3 = 0)
 rw [a1, a2, show bits .and .i64 (m : Int) 3 = m % 4 from a3]
theorem b128_iff {y : Int} (h : 0 <= y /\ y < 256) : 128 <= y ↔ ¬ bits .and .i64 y 128 = 0 := by
 obtain ⟨m, rfl⟩ : ∃ m : Nat, y = m := ⟨y.toNat, by omega⟩
 obtain ⟨_, _, _, _, a, _⟩ := and_bits ⟨m, by omega⟩
 exact a.symm
theorem start_ok (b : List Int) (q : Int) (hr : RdOk b q) : MethOk Try.prog 98 [] (rdN true b q) (encR3 (startF b q).1) (rdN true b (startF b q).2) := by
 have v1 := num1_v (q := q) hr.bl
 have r1 := num_ok (n := 1) hr
 have v2 := num1_v (q := (numF b q 1).2) hr.bl
 have r2 := num_ok (n := 1) r1
 have v3 := num1_v (q := (numF b (numF b q 1).2 1).2) hr.bl
 have r3 := num_ok (n := 1) r2
 have eW : startF b q = startF b q := rfl
 conv at eW => rhs; unfold startF thenD
 obtain ⟨W, hW⟩ : ∃ W, startF b q = W := ⟨_, rfl⟩
 rw [hW] at eW ⊢
 dsimp only at eW
 obtain ⟨N1, e1⟩ : ∃ x, numF b q 1 = x := ⟨_, rfl⟩
 rw [e1] at v1 r1 v2 r2 v3 r3 eW
 obtain ⟨N2, e2⟩ : ∃ x, numF b N1.2 1 = x := ⟨_, rfl⟩
 rw [e2] at v2 r2 v3 r3 eW
 obtain ⟨N3, e3⟩ : ∃ x, numF b N2.2 1 = x := ⟨_, rfl⟩
 rw [e3] at v3 r3 eW
 have w1 : IntKind.i64.wrap N1.1.1 = N1.1.1 := IntWalk.i64_in _ (by omega)
 have w2 : IntKind.i64.wrap N2.1.1 = N2.1.1 := IntWalk.i64_in _ (by omega)
 have w3 : IntKind.i64.wrap N3.1.1 = N3.1.1 := IntWalk.i64_in _ (by omega)
 have hbad : badY N2.1.1 = true ↔ ¬ bits .and .i64 (IntKind.i64.wrap N2.1.1) 4 = 0 /\ (¬ bits .and .i64 (IntKind.i64.wrap N2.1.1) 8 = 0 \/ bits .and .i64 (IntKind.i64.wrap N2.1.1) 3 = 0) := by rw [w2]; exact bad_iff v2
 have h128 : 128 <= N2.1.1 ↔ ¬ bits .and .i64 (IntKind.i64.wrap N2.1.1) 128 = 0 := by rw [w2]; exact b128_iff v2
 have f1 : ¬ N1.1.2 = 0 -> W = ((z3, N1.1.2), N1.2) := fun h => by rw [eW, if_neg h]
 have f2 : N1.1.2 = 0 -> N1.1.1 < 96 \/ 127 < N1.1.1 -> W = ((z3, 5), N1.2) := fun h g => by rw [eW, if_pos h, if_pos g]
 have f3 : N1.1.2 = 0 -> ¬ (N1.1.1 < 96 \/ 127 < N1.1.1) -> ¬ N2.1.2 = 0 -> W = ((z3, N2.1.2), N2.2) := fun h g i => by rw [eW, if_pos h, if_neg g, if_neg i]
 have f4 : N1.1.2 = 0 -> ¬ (N1.1.1 < 96 \/ 127 < N1.1.1) -> N2.1.2 = 0 -> badY N2.1.1 = true -> W = ((z3, 5), N2.2) := fun h g i j => by rw [eW, if_pos h, if_neg g, if_pos i, if_pos j]
 have f5 : N1.1.2 = 0 -> ¬ (N1.1.1 < 96 \/ 127 < N1.1.1) -> N2.1.2 = 0 -> ¬ badY N2.1.1 = true -> ¬ 128 <= N2.1.1 -> W = (((N1.1.1, N2.1.1, 0), 0), N2.2) := fun h g i j k => by rw [eW, if_pos h, if_neg g, if_pos i, if_neg j, if_neg k]
 have f6 : N1.1.2 = 0 -> ¬ (N1.1.1 < 96 \/ 127 < N1.1.1) -> N2.1.2 = 0 -> ¬ badY N2.1.1 = true -> 128 <= N2.1.1 -> ¬ N3.1.2 = 0 -> W = ((z3, N3.1.2), N3.2) := fun h g i j k l => by rw [eW, if_pos h, if_neg g, if_pos i, if_neg j, if_pos k, if_neg l]
 have f7 : N1.1.2 = 0 -> ¬ (N1.1.1 < 96 \/ 127 < N1.1.1) -> N2.1.2 = 0 -> ¬ badY N2.1.1 = true -> 128 <= N2.1.1 -> N3.1.2 = 0 -> W = (((N1.1.1, N2.1.1, N3.1.1), 0), N3.2) := fun h g i j k l => by rw [eW, if_pos h, if_neg g, if_pos i, if_neg j, if_pos k, if_pos l]
 clear eW
 clear hW
 have g1 : True := trivial
 have g2 : True := trivial
 have g3 : True := trivial
 refine meth_intro (wd := 1) (Q := mkQ LRd0) (by decide) tysOk (q_of LRd0_ok) mixed Try.func98 rfl _ (by show 0 + 1 <= _; decide) (flatF_nff (encR3_flat _)) (rdN_nf) ?_
 repeat' (first | (apply And.intro <;> intro hc <;> (first | exact Bool.noConfusion hc | (exfalso; first | exact absurd rfl hc) | (simp only [zb0, ne_eq, not_true_eq_false] at hc <;> first | exact absurd rfl hc | (exfalso; first | exact absurd rfl hc) | skip) | skip)) | (refine And.intro zp1 ?_) | (apply And.intro) | (refine Exists.intro b (And.intro ⟨rfl, rfl, by first | exact ⟨by assumption, by decide, by decide⟩⟩ ?_)) | (intro s hs; (first | (clear g1; have q : N1 = s := (hs.trans e1).symm; clear hs; subst q) | (clear g2; have q : N2 = s := (hs.trans e2).symm; clear hs; subst q) | (clear g3; have q : N3 = s := (hs.trans e3).symm; clear hs; subst q) | skip)))
 all_goals first
  | ((first | rw [f1 (by assumption)] | rw [f2 (by assumption) (by omega)] | rw [f3 (by assumption) (by omega) (by assumption)] | rw [f4 (by assumption) (by omega) (by assumption) (hbad.2 ⟨by assumption, .inl (by assumption)⟩)] | rw [f4 (by assumption) (by omega) (by assumption) (hbad.2 ⟨by assumption, .inr (by assumption)⟩)])
     exact ⟨leF_tup ⟨leC_int rfl, leC_int rfl, leC_int rfl, leC_int rfl, trivial⟩, rdN_le rfl⟩)
  | (rw [f5 (by assumption) (by omega) (by assumption) (fun h => (hbad.1 h).1 (by assumption)) (fun h => absurd (by assumption) (h128.1 h))]
     exact ⟨leF_tup ⟨leC_int w1, leC_int w2, leC_int rfl, leC_int rfl, trivial⟩, rdN_le rfl⟩)
  | (rw [f6 (by assumption) (by omega) (by assumption) (fun h => (hbad.1 h).1 (by assumption)) (h128.2 (by assumption)) (by assumption)]
     exact ⟨leF_tup ⟨leC_int rfl, leC_int rfl, leC_int rfl, leC_int rfl, trivial⟩, rdN_le rfl⟩)
  | (rw [f7 (by assumption) (by omega) (by assumption) (fun h => (hbad.1 h).1 (by assumption)) (h128.2 (by assumption)) (by assumption)]
     exact ⟨leF_tup ⟨leC_int w1, leC_int w2, leC_int w3, leC_int rfl, trivial⟩, rdN_le rfl⟩)
  | (rw [f5 (by assumption) (by omega) (by assumption) (fun h => (hbad.1 h).2.elim (fun g => g (by assumption)) (fun g => absurd g (by assumption))) (fun h => absurd (by assumption) (h128.1 h))]
     exact ⟨leF_tup ⟨leC_int w1, leC_int w2, leC_int rfl, leC_int rfl, trivial⟩, rdN_le rfl⟩)
  | (rw [f6 (by assumption) (by omega) (by assumption) (fun h => (hbad.1 h).2.elim (fun g => g (by assumption)) (fun g => absurd g (by assumption))) (h128.2 (by assumption)) (by assumption)]
     exact ⟨leF_tup ⟨leC_int rfl, leC_int rfl, leC_int rfl, leC_int rfl, trivial⟩, rdN_le rfl⟩)
  | (rw [f7 (by assumption) (by omega) (by assumption) (fun h => (hbad.1 h).2.elim (fun g => g (by assumption)) (fun g => absurd g (by assumption))) (h128.2 (by assumption)) (by assumption)]
     exact ⟨leF_tup ⟨leC_int w1, leC_int w2, leC_int w3, leC_int rfl, trivial⟩, rdN_le rfl⟩)
  | skip
def tkE : Entry := inlE T (mkQ LRd0) 1 Try.f139.ntmps Try.f139.results.toList (Try.f139.body.getD Code.ret)
theorem tkE_ok : EntOk Try.prog 139 tkE := inlE_ok (by decide) tysOk (q_of LRd0_ok) (mono_of LRd0_ok) mixed Try.func139 rfl rfl
def LRd1 : CsL := (139, some tkE) :: LRd0
theorem LRd1_ok : AllOk Try.prog LRd1 := ⟨tkE_ok, LRd0_ok⟩
abbrev encRH (r : Hdr × Int) : FV := .tup [.agg 39 (tailC eHd r.1 .nils), .c (.int .i64 r.2)]
theorem flat_nils : FlatC .nils := fun _ _ _ _ _ _ _ _ _ h => h
theorem encRH_flat (r : Hdr × Int) : FlatF (encRH r) := flatF_tup fun x hx => by
 rcases List.mem_cons.1 hx with rfl | hx
 . refine flatE_agg fun i => ?_
   unfold tailC
   cases Nat.blt i eHd.sz with
   | true => exact eHd.flat _ _
   | false => exact flat_nils
 rcases List.mem_cons.1 hx with rfl | hx
 . exact flatE_c flat_int
 . cases hx
theorem num3_v {b : List Int} {q : Int} (hb : BL b) : 0 <= (numF b q 3).1.1 /\ (numF b q 3).1.1 < 16777216 := by
 have := num_v (q := q) (n := 3) hb
 exact this
theorem leE_tl {c : Wc} {g : Nat -> CV} {h : Hdr} (hc : ∀ j, j < 38 -> LeC c (g j) (eHd.cell h j)) (hl : LeC c (g 38) .nils) : LeE c (.agg 39 g) (.agg 39 (tailC eHd h .nils)) := leE_tail (E := eHd) (last := .nils) rfl hc hl
theorem fields_96 (b : List Int) (q : Int) (hr : RdOk b q) : MethOk Try.prog 99 [(cI .i64).enc 96] (rdN true b q) (encRH (fieldsD b 96 q).1) (rdN true b (fieldsD b 96 q).2) := by
 obtain ⟨W, hW⟩ : ∃ W, fieldsD b 96 q = W := ⟨_, rfl⟩
 have eW : W = (if (numF b q 1).1.2 = 0 then (if (numF b (numF b q 1).2 3).1.2 = 0 then (if 1048575 < (numF b (numF b q 1).2 3).1.1 then ((zeroH, 5), (numF b (numF b q 1).2 3).2) else (if (numF b (numF b (numF b q 1).2 3).2 1).1.2 = 0 then (if (numF b (numF b (numF b q 1).2 3).2 1).1.1 = 17 then ((zeroH, 5), (numF b (numF b (numF b q 1).2 3).2 1).2) else (if (numF b (numF b (numF b (numF b q 1).2 3).2 1).2 1).1.2 = 0 then ((⟨(numF b q 1).1.1, (numF b (numF b q 1).2 3).1.1, (numF b (numF b (numF b q 1).2 3).2 1).1.1, (numF b (numF b (numF b (numF b q 1).2 3).2 1).2 1).1.1, zeroA, zeroA, 0, 0⟩, 0), (numF b (numF b (numF b (numF b q 1).2 3).2 1).2 1).2) else ((zeroH, (numF b (numF b (numF b (numF b q 1).2 3).2 1).2 1).1.2), (numF b (numF b (numF b (numF b q 1).2 3).2 1).2 1).2))) else ((zeroH, (numF b (numF b (numF b q 1).2 3).2 1).1.2), (numF b (numF b (numF b q 1).2 3).2 1).2))) else ((zeroH, (numF b (numF b q 1).2 3).1.2), (numF b (numF b q 1).2 3).2)) else ((zeroH, (numF b q 1).1.2), (numF b q 1).2)) := by
  rw [<- hW]
  simp (decide := true) only [fieldsD, thenD, hopV, if_true, if_false, true_and, and_true, false_and]
 rw [hW]
 clear hW
 have v1 := num1_v (q := q) hr.bl
 have r1 := num_ok (n := 1) hr
 obtain ⟨N1, e1⟩ : ∃ x, numF b q 1 = x := ⟨_, rfl⟩
 rw [e1] at v1 r1 eW
 have v2 := num3_v (q := N1.2) hr.bl
 have r2 := num_ok (n := 3) r1
 obtain ⟨N2, e2⟩ : ∃ x, numF b N1.2 3 = x := ⟨_, rfl⟩
 rw [e2] at v2 r2 eW
 have v3 := num1_v (q := N2.2) hr.bl
 have r3 := num_ok (n := 1) r2
 obtain ⟨N3, e3⟩ : ∃ x, numF b N2.2 1 = x := ⟨_, rfl⟩
 rw [e3] at v3 r3 eW
 have v4 := num1_v (q := N3.2) hr.bl
 have r4 := num_ok (n := 1) r3
 obtain ⟨N4, e4⟩ : ∃ x, numF b N3.2 1 = x := ⟨_, rfl⟩
 rw [e4] at v4 r4 eW
 have wc : IntKind.u8.wrap N1.1.1 = N1.1.1 := IntWalk.u8_in _ (by omega)
 have wf : IntKind.u32.wrap N2.1.1 = N2.1.1 := IntWalk.u32_in _ (by omega)
 have wn : IntKind.u8.wrap N3.1.1 = N3.1.1 := IntWalk.u8_in _ (by omega)
 have wh : IntKind.u8.wrap N4.1.1 = N4.1.1 := IntWalk.u8_in _ (by omega)
 have f0 : (¬ N1.1.2 = 0) -> W = ((zeroH, N1.1.2), N1.2) := fun h0 => by rw [eW, if_neg h0]
 have f1 : (N1.1.2 = 0) -> (¬ N2.1.2 = 0) -> W = ((zeroH, N2.1.2), N2.2) := fun h0 h1 => by rw [eW, if_pos h0, if_neg h1]
 have f2 : (N1.1.2 = 0) -> (N2.1.2 = 0) -> (1048575 < N2.1.1) -> W = ((zeroH, 5), N2.2) := fun h0 h1 h2 => by rw [eW, if_pos h0, if_pos h1, if_pos h2]
 have f3 : (N1.1.2 = 0) -> (N2.1.2 = 0) -> (¬ 1048575 < N2.1.1) -> (¬ N3.1.2 = 0) -> W = ((zeroH, N3.1.2), N3.2) := fun h0 h1 h2 h3 => by rw [eW, if_pos h0, if_pos h1, if_neg h2, if_neg h3]
 have f4 : (N1.1.2 = 0) -> (N2.1.2 = 0) -> (¬ 1048575 < N2.1.1) -> (N3.1.2 = 0) -> (N3.1.1 = 17) -> W = ((zeroH, 5), N3.2) := fun h0 h1 h2 h3 h4 => by rw [eW, if_pos h0, if_pos h1, if_neg h2, if_pos h3, if_pos h4]
 have f5 : (N1.1.2 = 0) -> (N2.1.2 = 0) -> (¬ 1048575 < N2.1.1) -> (N3.1.2 = 0) -> (¬ N3.1.1 = 17) -> (¬ N4.1.2 = 0) -> W = ((zeroH, N4.1.2), N4.2) := fun h0 h1 h2 h3 h4 h5 => by rw [eW, if_pos h0, if_pos h1, if_neg h2, if_pos h3, if_neg h4, if_neg h5]
 have f6 : (N1.1.2 = 0) -> (N2.1.2 = 0) -> (¬ 1048575 < N2.1.1) -> (N3.1.2 = 0) -> (¬ N3.1.1 = 17) -> (N4.1.2 = 0) -> W = ((⟨N1.1.1, N2.1.1, N3.1.1, N4.1.1, zeroA, zeroA, 0, 0⟩, 0), N4.2) := fun h0 h1 h2 h3 h4 h5 => by rw [eW, if_pos h0, if_pos h1, if_neg h2, if_pos h3, if_neg h4, if_pos h5]
 clear eW
 have g1 : True := trivial
 have g2 : True := trivial
 have g3 : True := trivial
 have g4 : True := trivial
 refine meth_intro (wd := 64) (Q := mkQ LRd1) (by decide) tysOk (q_of LRd1_ok) mixed Try.func99 rfl _ (by show 1 + 1 <= _; decide) (flatF_nff (encRH_flat _)) (rdN_nf) ?_
 repeat' (first | (apply And.intro <;> intro hc <;> (first | exact Bool.noConfusion hc | (exfalso; first | exact absurd hc (by decide) | exact absurd rfl hc | exact absurd hc (by assumption) | exact absurd (by assumption) hc) | (simp only [zb0, ne_eq, not_true_eq_false] at hc <;> first | exact absurd rfl hc | (exfalso; first | exact absurd hc (by decide) | exact absurd rfl hc | exact absurd hc (by assumption) | exact absurd (by assumption) hc) | skip) | skip)) | (refine And.intro (by first | exact trivial | decide | omega | (dsimp only; omega) | exact fun _ _ => rfl | exact ⟨by assumption, by first | exact trivial | decide | omega | (dsimp only; omega)⟩) ?_) | (apply And.intro) | (refine Exists.intro b (And.intro ⟨rfl, rfl, by first | exact ⟨by assumption, by decide, by decide⟩⟩ ?_)) | (intro s hs; (first | (clear g1; have q : N1 = s := (hs.trans e1).symm; clear hs; subst q) | (clear g2; have q : N2 = s := (hs.trans e2).symm; clear hs; subst q) | (clear g3; have q : N3 = s := (hs.trans e3).symm; clear hs; subst q) | (clear g4; have q : N4 = s := (hs.trans e4).symm; clear hs; subst q) | skip)))
 all_goals try (first | exact rfl | exact Nat.le_of_ble_eq_true rfl)
 all_goals first
  | ((first | rw [f0 (by assumption)] | rw [f1 (by assumption) (by assumption)] | rw [f2 (by assumption) (by assumption) (by rw [<- wf]; assumption)] | rw [f3 (by assumption) (by assumption) (by rw [<- wf]; assumption) (by assumption)] | rw [f4 (by assumption) (by assumption) (by rw [<- wf]; assumption) (by assumption) (by rw [<- wn]; assumption)] | rw [f5 (by assumption) (by assumption) (by rw [<- wf]; assumption) (by assumption) (by rw [<- wn]; assumption) (by assumption)])
     exact ⟨leF_tup ⟨leE_tl (fun j hj => by (iterate 38 (rcases j with _ | j; exact leC_int rfl)); exact absurd hj (by omega)) leC_nils, leC_int rfl, trivial⟩, rdN_le rfl⟩)
  | (rw [f6 (by assumption) (by assumption) (by rw [<- wf]; assumption) (by assumption) (by rw [<- wn]; assumption) (by assumption)]
     exact ⟨leF_tup ⟨leE_tl (fun j hj => by (rcases j with _ | j; exact leC_int wc); (rcases j with _ | j; exact leC_int wf); (rcases j with _ | j; exact leC_int wn); (rcases j with _ | j; exact leC_int wh); (iterate 34 (rcases j with _ | j; exact leC_int rfl)); exact absurd hj (by omega)) leC_nils, leC_int rfl, trivial⟩, rdN_le rfl⟩)
  | skip
theorem fields_100 (b : List Int) (q : Int) (hr : RdOk b q) : MethOk Try.prog 99 [(cI .i64).enc 100] (rdN true b q) (encRH (fieldsD b 100 q).1) (rdN true b (fieldsD b 100 q).2) := by
 obtain ⟨W, hW⟩ : ∃ W, fieldsD b 100 q = W := ⟨_, rfl⟩
 have eW : W = (if (numF b q 1).1.2 = 0 then (if (numF b (numF b q 1).2 3).1.2 = 0 then (if 1048575 < (numF b (numF b q 1).2 3).1.1 then ((zeroH, 5), (numF b (numF b q 1).2 3).2) else (if (numF b (numF b (numF b q 1).2 3).2 1).1.2 = 0 then ((⟨(numF b q 1).1.1, (numF b (numF b q 1).2 3).1.1, 17, (numF b (numF b (numF b q 1).2 3).2 1).1.1, zeroA, zeroA, 0, 0⟩, 0), (numF b (numF b (numF b q 1).2 3).2 1).2) else ((zeroH, (numF b (numF b (numF b q 1).2 3).2 1).1.2), (numF b (numF b (numF b q 1).2 3).2 1).2))) else ((zeroH, (numF b (numF b q 1).2 3).1.2), (numF b (numF b q 1).2 3).2)) else ((zeroH, (numF b q 1).1.2), (numF b q 1).2)) := by
  rw [<- hW]
  simp (decide := true) only [fieldsD, thenD, hopV, if_true, if_false, true_and, and_true, false_and]
 rw [hW]
 clear hW
 have v1 := num1_v (q := q) hr.bl
 have r1 := num_ok (n := 1) hr
 obtain ⟨N1, e1⟩ : ∃ x, numF b q 1 = x := ⟨_, rfl⟩
 rw [e1] at v1 r1 eW
 have v2 := num3_v (q := N1.2) hr.bl
 have r2 := num_ok (n := 3) r1
 obtain ⟨N2, e2⟩ : ∃ x, numF b N1.2 3 = x := ⟨_, rfl⟩
 rw [e2] at v2 r2 eW
 have v3 := num1_v (q := N2.2) hr.bl
 have r3 := num_ok (n := 1) r2
 obtain ⟨N3, e3⟩ : ∃ x, numF b N2.2 1 = x := ⟨_, rfl⟩
 rw [e3] at v3 r3 eW
 have wc : IntKind.u8.wrap N1.1.1 = N1.1.1 := IntWalk.u8_in _ (by omega)
 have wf : IntKind.u32.wrap N2.1.1 = N2.1.1 := IntWalk.u32_in _ (by omega)
 have wh : IntKind.u8.wrap N3.1.1 = N3.1.1 := IntWalk.u8_in _ (by omega)
 have f0 : (¬ N1.1.2 = 0) -> W = ((zeroH, N1.1.2), N1.2) := fun h0 => by rw [eW, if_neg h0]
 have f1 : (N1.1.2 = 0) -> (¬ N2.1.2 = 0) -> W = ((zeroH, N2.1.2), N2.2) := fun h0 h1 => by rw [eW, if_pos h0, if_neg h1]
 have f2 : (N1.1.2 = 0) -> (N2.1.2 = 0) -> (1048575 < N2.1.1) -> W = ((zeroH, 5), N2.2) := fun h0 h1 h2 => by rw [eW, if_pos h0, if_pos h1, if_pos h2]
 have f3 : (N1.1.2 = 0) -> (N2.1.2 = 0) -> (¬ 1048575 < N2.1.1) -> (¬ N3.1.2 = 0) -> W = ((zeroH, N3.1.2), N3.2) := fun h0 h1 h2 h3 => by rw [eW, if_pos h0, if_pos h1, if_neg h2, if_neg h3]
 have f4 : (N1.1.2 = 0) -> (N2.1.2 = 0) -> (¬ 1048575 < N2.1.1) -> (N3.1.2 = 0) -> W = ((⟨N1.1.1, N2.1.1, 17, N3.1.1, zeroA, zeroA, 0, 0⟩, 0), N3.2) := fun h0 h1 h2 h3 => by rw [eW, if_pos h0, if_pos h1, if_neg h2, if_pos h3]
 clear eW
 have g1 : True := trivial
 have g2 : True := trivial
 have g3 : True := trivial
 refine meth_intro (wd := 64) (Q := mkQ LRd1) (by decide) tysOk (q_of LRd1_ok) mixed Try.func99 rfl _ (by show 1 + 1 <= _; decide) (flatF_nff (encRH_flat _)) (rdN_nf) ?_
 repeat' (first | (apply And.intro <;> intro hc <;> (first | exact Bool.noConfusion hc | (exfalso; first | exact absurd hc (by decide) | exact absurd rfl hc | exact absurd hc (by assumption) | exact absurd (by assumption) hc) | (simp only [zb0, ne_eq, not_true_eq_false] at hc <;> first | exact absurd rfl hc | (exfalso; first | exact absurd hc (by decide) | exact absurd rfl hc | exact absurd hc (by assumption) | exact absurd (by assumption) hc) | skip) | skip)) | (refine And.intro (by first | exact trivial | decide | omega | (dsimp only; omega) | exact fun _ _ => rfl | exact ⟨by assumption, by first | exact trivial | decide | omega | (dsimp only; omega)⟩) ?_) | (apply And.intro) | (refine Exists.intro b (And.intro ⟨rfl, rfl, by first | exact ⟨by assumption, by decide, by decide⟩⟩ ?_)) | (intro s hs; (first | (clear g1; have q : N1 = s := (hs.trans e1).symm; clear hs; subst q) | (clear g2; have q : N2 = s := (hs.trans e2).symm; clear hs; subst q) | (clear g3; have q : N3 = s := (hs.trans e3).symm; clear hs; subst q) | skip)))
 all_goals try (first | exact rfl | exact Nat.le_of_ble_eq_true rfl)
 all_goals first
  | ((first | rw [f0 (by assumption)] | rw [f1 (by assumption) (by assumption)] | rw [f2 (by assumption) (by assumption) (by rw [<- wf]; assumption)] | rw [f3 (by assumption) (by assumption) (by rw [<- wf]; assumption) (by assumption)])
     exact ⟨leF_tup ⟨leE_tl (fun j hj => by (iterate 38 (rcases j with _ | j; exact leC_int rfl)); exact absurd hj (by omega)) leC_nils, leC_int rfl, trivial⟩, rdN_le rfl⟩)
  | (rw [f4 (by assumption) (by assumption) (by rw [<- wf]; assumption) (by assumption)]
     exact ⟨leF_tup ⟨leE_tl (fun j hj => by (rcases j with _ | j; exact leC_int wc); (rcases j with _ | j; exact leC_int wf); (rcases j with _ | j; exact leC_int rfl); (rcases j with _ | j; exact leC_int wh); (iterate 34 (rcases j with _ | j; exact leC_int rfl)); exact absurd hj (by omega)) leC_nils, leC_int rfl, trivial⟩, rdN_le rfl⟩)
  | skip
theorem fields_104 (b : List Int) (q : Int) (hr : RdOk b q) : MethOk Try.prog 99 [(cI .i64).enc 104] (rdN true b q) (encRH (fieldsD b 104 q).1) (rdN true b (fieldsD b 104 q).2) := by
 obtain ⟨W, hW⟩ : ∃ W, fieldsD b 104 q = W := ⟨_, rfl⟩
 have eW : W = (if (numF b q 3).1.2 = 0 then (if 1048575 < (numF b q 3).1.1 then ((zeroH, 5), (numF b q 3).2) else (if (numF b (numF b q 3).2 1).1.2 = 0 then (if (numF b (numF b q 3).2 1).1.1 = 17 then ((zeroH, 5), (numF b (numF b q 3).2 1).2) else (if (numF b (numF b (numF b q 3).2 1).2 1).1.2 = 0 then ((⟨0, (numF b q 3).1.1, (numF b (numF b q 3).2 1).1.1, (numF b (numF b (numF b q 3).2 1).2 1).1.1, zeroA, zeroA, 0, 0⟩, 0), (numF b (numF b (numF b q 3).2 1).2 1).2) else ((zeroH, (numF b (numF b (numF b q 3).2 1).2 1).1.2), (numF b (numF b (numF b q 3).2 1).2 1).2))) else ((zeroH, (numF b (numF b q 3).2 1).1.2), (numF b (numF b q 3).2 1).2))) else ((zeroH, (numF b q 3).1.2), (numF b q 3).2)) := by
  rw [<- hW]
  simp (decide := true) only [fieldsD, thenD, hopV, if_true, if_false, true_and, and_true, false_and]
 rw [hW]
 clear hW
 have v1 := num3_v (q := q) hr.bl
 have r1 := num_ok (n := 3) hr
 obtain ⟨N1, e1⟩ : ∃ x, numF b q 3 = x := ⟨_, rfl⟩
 rw [e1] at v1 r1 eW
 have v2 := num1_v (q := N1.2) hr.bl
 have r2 := num_ok (n := 1) r1
 obtain ⟨N2, e2⟩ : ∃ x, numF b N1.2 1 = x := ⟨_, rfl⟩
 rw [e2] at v2 r2 eW
 have v3 := num1_v (q := N2.2) hr.bl
 have r3 := num_ok (n := 1) r2
 obtain ⟨N3, e3⟩ : ∃ x, numF b N2.2 1 = x := ⟨_, rfl⟩
 rw [e3] at v3 r3 eW
 have wf : IntKind.u32.wrap N1.1.1 = N1.1.1 := IntWalk.u32_in _ (by omega)
 have wn : IntKind.u8.wrap N2.1.1 = N2.1.1 := IntWalk.u8_in _ (by omega)
 have wh : IntKind.u8.wrap N3.1.1 = N3.1.1 := IntWalk.u8_in _ (by omega)
 have f0 : (¬ N1.1.2 = 0) -> W = ((zeroH, N1.1.2), N1.2) := fun h0 => by rw [eW, if_neg h0]
 have f1 : (N1.1.2 = 0) -> (1048575 < N1.1.1) -> W = ((zeroH, 5), N1.2) := fun h0 h1 => by rw [eW, if_pos h0, if_pos h1]
 have f2 : (N1.1.2 = 0) -> (¬ 1048575 < N1.1.1) -> (¬ N2.1.2 = 0) -> W = ((zeroH, N2.1.2), N2.2) := fun h0 h1 h2 => by rw [eW, if_pos h0, if_neg h1, if_neg h2]
 have f3 : (N1.1.2 = 0) -> (¬ 1048575 < N1.1.1) -> (N2.1.2 = 0) -> (N2.1.1 = 17) -> W = ((zeroH, 5), N2.2) := fun h0 h1 h2 h3 => by rw [eW, if_pos h0, if_neg h1, if_pos h2, if_pos h3]
 have f4 : (N1.1.2 = 0) -> (¬ 1048575 < N1.1.1) -> (N2.1.2 = 0) -> (¬ N2.1.1 = 17) -> (¬ N3.1.2 = 0) -> W = ((zeroH, N3.1.2), N3.2) := fun h0 h1 h2 h3 h4 => by rw [eW, if_pos h0, if_neg h1, if_pos h2, if_neg h3, if_neg h4]
 have f5 : (N1.1.2 = 0) -> (¬ 1048575 < N1.1.1) -> (N2.1.2 = 0) -> (¬ N2.1.1 = 17) -> (N3.1.2 = 0) -> W = ((⟨0, N1.1.1, N2.1.1, N3.1.1, zeroA, zeroA, 0, 0⟩, 0), N3.2) := fun h0 h1 h2 h3 h4 => by rw [eW, if_pos h0, if_neg h1, if_pos h2, if_neg h3, if_pos h4]
 clear eW
 have g1 : True := trivial
 have g2 : True := trivial
 have g3 : True := trivial
 refine meth_intro (wd := 64) (Q := mkQ LRd1) (by decide) tysOk (q_of LRd1_ok) mixed Try.func99 rfl _ (by show 1 + 1 <= _; decide) (flatF_nff (encRH_flat _)) (rdN_nf) ?_
 repeat' (first | (apply And.intro <;> intro hc <;> (first | exact Bool.noConfusion hc | (exfalso; first | exact absurd hc (by decide) | exact absurd rfl hc | exact absurd hc (by assumption) | exact absurd (by assumption) hc) | (simp only [zb0, ne_eq, not_true_eq_false] at hc <;> first | exact absurd rfl hc | (exfalso; first | exact absurd hc (by decide) | exact absurd rfl hc | exact absurd hc (by assumption) | exact absurd (by assumption) hc) | skip) | skip)) | (refine And.intro (by first | exact trivial | decide | omega | (dsimp only; omega) | exact fun _ _ => rfl | exact ⟨by assumption, by first | exact trivial | decide | omega | (dsimp only; omega)⟩) ?_) | (apply And.intro) | (refine Exists.intro b (And.intro ⟨rfl, rfl, by first | exact ⟨by assumption, by decide, by decide⟩⟩ ?_)) | (intro s hs; (first | (clear g1; have q : N1 = s := (hs.trans e1).symm; clear hs; subst q) | (clear g2; have q : N2 = s := (hs.trans e2).symm; clear hs; subst q) | (clear g3; have q : N3 = s := (hs.trans e3).symm; clear hs; subst q) | skip)))
 all_goals try (first | exact rfl | exact Nat.le_of_ble_eq_true rfl)
 all_goals first
  | ((first | rw [f0 (by assumption)] | rw [f1 (by assumption) (by rw [<- wf]; assumption)] | rw [f2 (by assumption) (by rw [<- wf]; assumption) (by assumption)] | rw [f3 (by assumption) (by rw [<- wf]; assumption) (by assumption) (by rw [<- wn]; assumption)] | rw [f4 (by assumption) (by rw [<- wf]; assumption) (by assumption) (by rw [<- wn]; assumption) (by assumption)])
     exact ⟨leF_tup ⟨leE_tl (fun j hj => by (iterate 38 (rcases j with _ | j; exact leC_int rfl)); exact absurd hj (by omega)) leC_nils, leC_int rfl, trivial⟩, rdN_le rfl⟩)
  | (rw [f5 (by assumption) (by rw [<- wf]; assumption) (by assumption) (by rw [<- wn]; assumption) (by assumption)]
     exact ⟨leF_tup ⟨leE_tl (fun j hj => by (rcases j with _ | j; exact leC_int rfl); (rcases j with _ | j; exact leC_int wf); (rcases j with _ | j; exact leC_int wn); (rcases j with _ | j; exact leC_int wh); (iterate 34 (rcases j with _ | j; exact leC_int rfl)); exact absurd hj (by omega)) leC_nils, leC_int rfl, trivial⟩, rdN_le rfl⟩)
  | skip
theorem fields_108 (b : List Int) (q : Int) (hr : RdOk b q) : MethOk Try.prog 99 [(cI .i64).enc 108] (rdN true b q) (encRH (fieldsD b 108 q).1) (rdN true b (fieldsD b 108 q).2) := by
 obtain ⟨W, hW⟩ : ∃ W, fieldsD b 108 q = W := ⟨_, rfl⟩
 have eW : W = (if (numF b q 3).1.2 = 0 then (if 1048575 < (numF b q 3).1.1 then ((zeroH, 5), (numF b q 3).2) else (if (numF b (numF b q 3).2 1).1.2 = 0 then ((⟨0, (numF b q 3).1.1, 17, (numF b (numF b q 3).2 1).1.1, zeroA, zeroA, 0, 0⟩, 0), (numF b (numF b q 3).2 1).2) else ((zeroH, (numF b (numF b q 3).2 1).1.2), (numF b (numF b q 3).2 1).2))) else ((zeroH, (numF b q 3).1.2), (numF b q 3).2)) := by
  rw [<- hW]
  simp (decide := true) only [fieldsD, thenD, hopV, if_true, if_false, true_and, and_true, false_and]
 rw [hW]
 clear hW
 have v1 := num3_v (q := q) hr.bl
 have r1 := num_ok (n := 3) hr
 obtain ⟨N1, e1⟩ : ∃ x, numF b q 3 = x := ⟨_, rfl⟩
 rw [e1] at v1 r1 eW
 have v2 := num1_v (q := N1.2) hr.bl
 have r2 := num_ok (n := 1) r1
 obtain ⟨N2, e2⟩ : ∃ x, numF b N1.2 1 = x := ⟨_, rfl⟩
 rw [e2] at v2 r2 eW
 have wf : IntKind.u32.wrap N1.1.1 = N1.1.1 := IntWalk.u32_in _ (by omega)
 have wh : IntKind.u8.wrap N2.1.1 = N2.1.1 := IntWalk.u8_in _ (by omega)
 have f0 : (¬ N1.1.2 = 0) -> W = ((zeroH, N1.1.2), N1.2) := fun h0 => by rw [eW, if_neg h0]
 have f1 : (N1.1.2 = 0) -> (1048575 < N1.1.1) -> W = ((zeroH, 5), N1.2) := fun h0 h1 => by rw [eW, if_pos h0, if_pos h1]
 have f2 : (N1.1.2 = 0) -> (¬ 1048575 < N1.1.1) -> (¬ N2.1.2 = 0) -> W = ((zeroH, N2.1.2), N2.2) := fun h0 h1 h2 => by rw [eW, if_pos h0, if_neg h1, if_neg h2]
 have f3 : (N1.1.2 = 0) -> (¬ 1048575 < N1.1.1) -> (N2.1.2 = 0) -> W = ((⟨0, N1.1.1, 17, N2.1.1, zeroA, zeroA, 0, 0⟩, 0), N2.2) := fun h0 h1 h2 => by rw [eW, if_pos h0, if_neg h1, if_pos h2]
 clear eW
 have g1 : True := trivial
 have g2 : True := trivial
 refine meth_intro (wd := 64) (Q := mkQ LRd1) (by decide) tysOk (q_of LRd1_ok) mixed Try.func99 rfl _ (by show 1 + 1 <= _; decide) (flatF_nff (encRH_flat _)) (rdN_nf) ?_
 repeat' (first | (apply And.intro <;> intro hc <;> (first | exact Bool.noConfusion hc | (exfalso; first | exact absurd hc (by decide) | exact absurd rfl hc | exact absurd hc (by assumption) | exact absurd (by assumption) hc) | (simp only [zb0, ne_eq, not_true_eq_false] at hc <;> first | exact absurd rfl hc | (exfalso; first | exact absurd hc (by decide) | exact absurd rfl hc | exact absurd hc (by assumption) | exact absurd (by assumption) hc) | skip) | skip)) | (refine And.intro (by first | exact trivial | decide | omega | (dsimp only; omega) | exact fun _ _ => rfl | exact ⟨by assumption, by first | exact trivial | decide | omega | (dsimp only; omega)⟩) ?_) | (apply And.intro) | (refine Exists.intro b (And.intro ⟨rfl, rfl, by first | exact ⟨by assumption, by decide, by decide⟩⟩ ?_)) | (intro s hs; (first | (clear g1; have q : N1 = s := (hs.trans e1).symm; clear hs; subst q) | (clear g2; have q : N2 = s := (hs.trans e2).symm; clear hs; subst q) | skip)))
 all_goals try (first | exact rfl | exact Nat.le_of_ble_eq_true rfl)
 all_goals first
  | ((first | rw [f0 (by assumption)] | rw [f1 (by assumption) (by rw [<- wf]; assumption)] | rw [f2 (by assumption) (by rw [<- wf]; assumption) (by assumption)])
     exact ⟨leF_tup ⟨leE_tl (fun j hj => by (iterate 38 (rcases j with _ | j; exact leC_int rfl)); exact absurd hj (by omega)) leC_nils, leC_int rfl, trivial⟩, rdN_le rfl⟩)
  | (rw [f3 (by assumption) (by rw [<- wf]; assumption) (by assumption)]
     exact ⟨leF_tup ⟨leE_tl (fun j hj => by (rcases j with _ | j; exact leC_int rfl); (rcases j with _ | j; exact leC_int wf); (rcases j with _ | j; exact leC_int rfl); (rcases j with _ | j; exact leC_int wh); (iterate 34 (rcases j with _ | j; exact leC_int rfl)); exact absurd hj (by omega)) leC_nils, leC_int rfl, trivial⟩, rdN_le rfl⟩)
  | skip
theorem fields_112 (b : List Int) (q : Int) (hr : RdOk b q) : MethOk Try.prog 99 [(cI .i64).enc 112] (rdN true b q) (encRH (fieldsD b 112 q).1) (rdN true b (fieldsD b 112 q).2) := by
 obtain ⟨W, hW⟩ : ∃ W, fieldsD b 112 q = W := ⟨_, rfl⟩
 have eW : W = (if (numF b q 1).1.2 = 0 then (if (numF b (numF b q 1).2 1).1.2 = 0 then (if (numF b (numF b q 1).2 1).1.1 = 17 then ((zeroH, 5), (numF b (numF b q 1).2 1).2) else (if (numF b (numF b (numF b q 1).2 1).2 1).1.2 = 0 then ((⟨(numF b q 1).1.1, 0, (numF b (numF b q 1).2 1).1.1, (numF b (numF b (numF b q 1).2 1).2 1).1.1, zeroA, zeroA, 0, 0⟩, 0), (numF b (numF b (numF b q 1).2 1).2 1).2) else ((zeroH, (numF b (numF b (numF b q 1).2 1).2 1).1.2), (numF b (numF b (numF b q 1).2 1).2 1).2))) else ((zeroH, (numF b (numF b q 1).2 1).1.2), (numF b (numF b q 1).2 1).2)) else ((zeroH, (numF b q 1).1.2), (numF b q 1).2)) := by
  rw [<- hW]
  simp (decide := true) only [fieldsD, thenD, hopV, if_true, if_false, true_and, and_true, false_and]
 rw [hW]
 clear hW
 have v1 := num1_v (q := q) hr.bl
 have r1 := num_ok (n := 1) hr
 obtain ⟨N1, e1⟩ : ∃ x, numF b q 1 = x := ⟨_, rfl⟩
 rw [e1] at v1 r1 eW
 have v2 := num1_v (q := N1.2) hr.bl
 have r2 := num_ok (n := 1) r1
 obtain ⟨N2, e2⟩ : ∃ x, numF b N1.2 1 = x := ⟨_, rfl⟩
 rw [e2] at v2 r2 eW
 have v3 := num1_v (q := N2.2) hr.bl
 have r3 := num_ok (n := 1) r2
 obtain ⟨N3, e3⟩ : ∃ x, numF b N2.2 1 = x := ⟨_, rfl⟩
 rw [e3] at v3 r3 eW
 have wc : IntKind.u8.wrap N1.1.1 = N1.1.1 := IntWalk.u8_in _ (by omega)
 have wn : IntKind.u8.wrap N2.1.1 = N2.1.1 := IntWalk.u8_in _ (by omega)
 have wh : IntKind.u8.wrap N3.1.1 = N3.1.1 := IntWalk.u8_in _ (by omega)
 have f0 : (¬ N1.1.2 = 0) -> W = ((zeroH, N1.1.2), N1.2) := fun h0 => by rw [eW, if_neg h0]
 have f1 : (N1.1.2 = 0) -> (¬ N2.1.2 = 0) -> W = ((zeroH, N2.1.2), N2.2) := fun h0 h1 => by rw [eW, if_pos h0, if_neg h1]
 have f2 : (N1.1.2 = 0) -> (N2.1.2 = 0) -> (N2.1.1 = 17) -> W = ((zeroH, 5), N2.2) := fun h0 h1 h2 => by rw [eW, if_pos h0, if_pos h1, if_pos h2]
 have f3 : (N1.1.2 = 0) -> (N2.1.2 = 0) -> (¬ N2.1.1 = 17) -> (¬ N3.1.2 = 0) -> W = ((zeroH, N3.1.2), N3.2) := fun h0 h1 h2 h3 => by rw [eW, if_pos h0, if_pos h1, if_neg h2, if_neg h3]
 have f4 : (N1.1.2 = 0) -> (N2.1.2 = 0) -> (¬ N2.1.1 = 17) -> (N3.1.2 = 0) -> W = ((⟨N1.1.1, 0, N2.1.1, N3.1.1, zeroA, zeroA, 0, 0⟩, 0), N3.2) := fun h0 h1 h2 h3 => by rw [eW, if_pos h0, if_pos h1, if_neg h2, if_pos h3]
 clear eW
 have g1 : True := trivial
 have g2 : True := trivial
 have g3 : True := trivial
 refine meth_intro (wd := 64) (Q := mkQ LRd1) (by decide) tysOk (q_of LRd1_ok) mixed Try.func99 rfl _ (by show 1 + 1 <= _; decide) (flatF_nff (encRH_flat _)) (rdN_nf) ?_
 repeat' (first | (apply And.intro <;> intro hc <;> (first | exact Bool.noConfusion hc | (exfalso; first | exact absurd hc (by decide) | exact absurd rfl hc | exact absurd hc (by assumption) | exact absurd (by assumption) hc) | (simp only [zb0, ne_eq, not_true_eq_false] at hc <;> first | exact absurd rfl hc | (exfalso; first | exact absurd hc (by decide) | exact absurd rfl hc | exact absurd hc (by assumption) | exact absurd (by assumption) hc) | skip) | skip)) | (refine And.intro (by first | exact trivial | decide | omega | (dsimp only; omega) | exact fun _ _ => rfl | exact ⟨by assumption, by first | exact trivial | decide | omega | (dsimp only; omega)⟩) ?_) | (apply And.intro) | (refine Exists.intro b (And.intro ⟨rfl, rfl, by first | exact ⟨by assumption, by decide, by decide⟩⟩ ?_)) | (intro s hs; (first | (clear g1; have q : N1 = s := (hs.trans e1).symm; clear hs; subst q) | (clear g2; have q : N2 = s := (hs.trans e2).symm; clear hs; subst q) | (clear g3; have q : N3 = s := (hs.trans e3).symm; clear hs; subst q) | skip)))
 all_goals try (first | exact rfl | exact Nat.le_of_ble_eq_true rfl)
 all_goals first
  | ((first | rw [f0 (by assumption)] | rw [f1 (by assumption) (by assumption)] | rw [f2 (by assumption) (by assumption) (by rw [<- wn]; assumption)] | rw [f3 (by assumption) (by assumption) (by rw [<- wn]; assumption) (by assumption)])
     exact ⟨leF_tup ⟨leE_tl (fun j hj => by (iterate 38 (rcases j with _ | j; exact leC_int rfl)); exact absurd hj (by omega)) leC_nils, leC_int rfl, trivial⟩, rdN_le rfl⟩)
  | (rw [f4 (by assumption) (by assumption) (by rw [<- wn]; assumption) (by assumption)]
     exact ⟨leF_tup ⟨leE_tl (fun j hj => by (rcases j with _ | j; exact leC_int wc); (rcases j with _ | j; exact leC_int rfl); (rcases j with _ | j; exact leC_int wn); (rcases j with _ | j; exact leC_int wh); (iterate 34 (rcases j with _ | j; exact leC_int rfl)); exact absurd hj (by omega)) leC_nils, leC_int rfl, trivial⟩, rdN_le rfl⟩)
  | skip
theorem fields_116 (b : List Int) (q : Int) (hr : RdOk b q) : MethOk Try.prog 99 [(cI .i64).enc 116] (rdN true b q) (encRH (fieldsD b 116 q).1) (rdN true b (fieldsD b 116 q).2) := by
 obtain ⟨W, hW⟩ : ∃ W, fieldsD b 116 q = W := ⟨_, rfl⟩
 have eW : W = (if (numF b q 1).1.2 = 0 then (if (numF b (numF b q 1).2 1).1.2 = 0 then ((⟨(numF b q 1).1.1, 0, 17, (numF b (numF b q 1).2 1).1.1, zeroA, zeroA, 0, 0⟩, 0), (numF b (numF b q 1).2 1).2) else ((zeroH, (numF b (numF b q 1).2 1).1.2), (numF b (numF b q 1).2 1).2)) else ((zeroH, (numF b q 1).1.2), (numF b q 1).2)) := by
  rw [<- hW]
  simp (decide := true) only [fieldsD, thenD, hopV, if_true, if_false, true_and, and_true, false_and]
 rw [hW]
 clear hW
 have v1 := num1_v (q := q) hr.bl
 have r1 := num_ok (n := 1) hr
 obtain ⟨N1, e1⟩ : ∃ x, numF b q 1 = x := ⟨_, rfl⟩
 rw [e1] at v1 r1 eW
 have v2 := num1_v (q := N1.2) hr.bl
 have r2 := num_ok (n := 1) r1
 obtain ⟨N2, e2⟩ : ∃ x, numF b N1.2 1 = x := ⟨_, rfl⟩
 rw [e2] at v2 r2 eW
 have wc : IntKind.u8.wrap N1.1.1 = N1.1.1 := IntWalk.u8_in _ (by omega)
 have wh : IntKind.u8.wrap N2.1.1 = N2.1.1 := IntWalk.u8_in _ (by omega)
 have f0 : (¬ N1.1.2 = 0) -> W = ((zeroH, N1.1.2), N1.2) := fun h0 => by rw [eW, if_neg h0]
 have f1 : (N1.1.2 = 0) -> (¬ N2.1.2 = 0) -> W = ((zeroH, N2.1.2), N2.2) := fun h0 h1 => by rw [eW, if_pos h0, if_neg h1]
 have f2 : (N1.1.2 = 0) -> (N2.1.2 = 0) -> W = ((⟨N1.1.1, 0, 17, N2.1.1, zeroA, zeroA, 0, 0⟩, 0), N2.2) := fun h0 h1 => by rw [eW, if_pos h0, if_pos h1]
 clear eW
 have g1 : True := trivial
 have g2 : True := trivial
 refine meth_intro (wd := 64) (Q := mkQ LRd1) (by decide) tysOk (q_of LRd1_ok) mixed Try.func99 rfl _ (by show 1 + 1 <= _; decide) (flatF_nff (encRH_flat _)) (rdN_nf) ?_
 repeat' (first | (apply And.intro <;> intro hc <;> (first | exact Bool.noConfusion hc | (exfalso; first | exact absurd hc (by decide) | exact absurd rfl hc | exact absurd hc (by assumption) | exact absurd (by assumption) hc) | (simp only [zb0, ne_eq, not_true_eq_false] at hc <;> first | exact absurd rfl hc | (exfalso; first | exact absurd hc (by decide) | exact absurd rfl hc | exact absurd hc (by assumption) | exact absurd (by assumption) hc) | skip) | skip)) | (refine And.intro (by first | exact trivial | decide | omega | (dsimp only; omega) | exact fun _ _ => rfl | exact ⟨by assumption, by first | exact trivial | decide | omega | (dsimp only; omega)⟩) ?_) | (apply And.intro) | (refine Exists.intro b (And.intro ⟨rfl, rfl, by first | exact ⟨by assumption, by decide, by decide⟩⟩ ?_)) | (intro s hs; (first | (clear g1; have q : N1 = s := (hs.trans e1).symm; clear hs; subst q) | (clear g2; have q : N2 = s := (hs.trans e2).symm; clear hs; subst q) | skip)))
 all_goals try (first | exact rfl | exact Nat.le_of_ble_eq_true rfl)
 all_goals first
  | ((first | rw [f0 (by assumption)] | rw [f1 (by assumption) (by assumption)])
     exact ⟨leF_tup ⟨leE_tl (fun j hj => by (iterate 38 (rcases j with _ | j; exact leC_int rfl)); exact absurd hj (by omega)) leC_nils, leC_int rfl, trivial⟩, rdN_le rfl⟩)
  | (rw [f2 (by assumption) (by assumption)]
     exact ⟨leF_tup ⟨leE_tl (fun j hj => by (rcases j with _ | j; exact leC_int wc); (rcases j with _ | j; exact leC_int rfl); (rcases j with _ | j; exact leC_int rfl); (rcases j with _ | j; exact leC_int wh); (iterate 34 (rcases j with _ | j; exact leC_int rfl)); exact absurd hj (by omega)) leC_nils, leC_int rfl, trivial⟩, rdN_le rfl⟩)
  | skip
theorem fields_120 (b : List Int) (q : Int) (hr : RdOk b q) : MethOk Try.prog 99 [(cI .i64).enc 120] (rdN true b q) (encRH (fieldsD b 120 q).1) (rdN true b (fieldsD b 120 q).2) := by
 obtain ⟨W, hW⟩ : ∃ W, fieldsD b 120 q = W := ⟨_, rfl⟩
 have eW : W = (if (numF b q 1).1.2 = 0 then (if (numF b q 1).1.1 = 17 then ((zeroH, 5), (numF b q 1).2) else (if (numF b (numF b q 1).2 1).1.2 = 0 then ((⟨0, 0, (numF b q 1).1.1, (numF b (numF b q 1).2 1).1.1, zeroA, zeroA, 0, 0⟩, 0), (numF b (numF b q 1).2 1).2) else ((zeroH, (numF b (numF b q 1).2 1).1.2), (numF b (numF b q 1).2 1).2))) else ((zeroH, (numF b q 1).1.2), (numF b q 1).2)) := by
  rw [<- hW]
  simp (decide := true) only [fieldsD, thenD, hopV, if_true, if_false, true_and, and_true, false_and]
 rw [hW]
 clear hW
 have v1 := num1_v (q := q) hr.bl
 have r1 := num_ok (n := 1) hr
 obtain ⟨N1, e1⟩ : ∃ x, numF b q 1 = x := ⟨_, rfl⟩
 rw [e1] at v1 r1 eW
 have v2 := num1_v (q := N1.2) hr.bl
 have r2 := num_ok (n := 1) r1
 obtain ⟨N2, e2⟩ : ∃ x, numF b N1.2 1 = x := ⟨_, rfl⟩
 rw [e2] at v2 r2 eW
 have wn : IntKind.u8.wrap N1.1.1 = N1.1.1 := IntWalk.u8_in _ (by omega)
 have wh : IntKind.u8.wrap N2.1.1 = N2.1.1 := IntWalk.u8_in _ (by omega)
 have f0 : (¬ N1.1.2 = 0) -> W = ((zeroH, N1.1.2), N1.2) := fun h0 => by rw [eW, if_neg h0]
 have f1 : (N1.1.2 = 0) -> (N1.1.1 = 17) -> W = ((zeroH, 5), N1.2) := fun h0 h1 => by rw [eW, if_pos h0, if_pos h1]
 have f2 : (N1.1.2 = 0) -> (¬ N1.1.1 = 17) -> (¬ N2.1.2 = 0) -> W = ((zeroH, N2.1.2), N2.2) := fun h0 h1 h2 => by rw [eW, if_pos h0, if_neg h1, if_neg h2]
 have f3 : (N1.1.2 = 0) -> (¬ N1.1.1 = 17) -> (N2.1.2 = 0) -> W = ((⟨0, 0, N1.1.1, N2.1.1, zeroA, zeroA, 0, 0⟩, 0), N2.2) := fun h0 h1 h2 => by rw [eW, if_pos h0, if_neg h1, if_pos h2]
 clear eW
 have g1 : True := trivial
 have g2 : True := trivial
 refine meth_intro (wd := 64) (Q := mkQ LRd1) (by decide) tysOk (q_of LRd1_ok) mixed Try.func99 rfl _ (by show 1 + 1 <= _; decide) (flatF_nff (encRH_flat _)) (rdN_nf) ?_
 repeat' (first | (apply And.intro <;> intro hc <;> (first | exact Bool.noConfusion hc | (exfalso; first | exact absurd hc (by decide) | exact absurd rfl hc | exact absurd hc (by assumption) | exact absurd (by assumption) hc) | (simp only [zb0, ne_eq, not_true_eq_false] at hc <;> first | exact absurd rfl hc | (exfalso; first | exact absurd hc (by decide) | exact absurd rfl hc | exact absurd hc (by assumption) | exact absurd (by assumption) hc) | skip) | skip)) | (refine And.intro (by first | exact trivial | decide | omega | (dsimp only; omega) | exact fun _ _ => rfl | exact ⟨by assumption, by first | exact trivial | decide | omega | (dsimp only; omega)⟩) ?_) | (apply And.intro) | (refine Exists.intro b (And.intro ⟨rfl, rfl, by first | exact ⟨by assumption, by decide, by decide⟩⟩ ?_)) | (intro s hs; (first | (clear g1; have q : N1 = s := (hs.trans e1).symm; clear hs; subst q) | (clear g2; have q : N2 = s := (hs.trans e2).symm; clear hs; subst q) | skip)))
 all_goals try (first | exact rfl | exact Nat.le_of_ble_eq_true rfl)
 all_goals first
  | ((first | rw [f0 (by assumption)] | rw [f1 (by assumption) (by rw [<- wn]; assumption)] | rw [f2 (by assumption) (by rw [<- wn]; assumption) (by assumption)])
     exact ⟨leF_tup ⟨leE_tl (fun j hj => by (iterate 38 (rcases j with _ | j; exact leC_int rfl)); exact absurd hj (by omega)) leC_nils, leC_int rfl, trivial⟩, rdN_le rfl⟩)
  | (rw [f3 (by assumption) (by rw [<- wn]; assumption) (by assumption)]
     exact ⟨leF_tup ⟨leE_tl (fun j hj => by (rcases j with _ | j; exact leC_int rfl); (rcases j with _ | j; exact leC_int rfl); (rcases j with _ | j; exact leC_int wn); (rcases j with _ | j; exact leC_int wh); (iterate 34 (rcases j with _ | j; exact leC_int rfl)); exact absurd hj (by omega)) leC_nils, leC_int rfl, trivial⟩, rdN_le rfl⟩)
  | skip
theorem fields_124 (b : List Int) (q : Int) (hr : RdOk b q) : MethOk Try.prog 99 [(cI .i64).enc 124] (rdN true b q) (encRH (fieldsD b 124 q).1) (rdN true b (fieldsD b 124 q).2) := by
 obtain ⟨W, hW⟩ : ∃ W, fieldsD b 124 q = W := ⟨_, rfl⟩
 have eW : W = (if (numF b q 1).1.2 = 0 then ((⟨0, 0, 17, (numF b q 1).1.1, zeroA, zeroA, 0, 0⟩, 0), (numF b q 1).2) else ((zeroH, (numF b q 1).1.2), (numF b q 1).2)) := by
  rw [<- hW]
  simp (decide := true) only [fieldsD, thenD, hopV, if_true, if_false, true_and, and_true, false_and]
 rw [hW]
 clear hW
 have v1 := num1_v (q := q) hr.bl
 have r1 := num_ok (n := 1) hr
 obtain ⟨N1, e1⟩ : ∃ x, numF b q 1 = x := ⟨_, rfl⟩
 rw [e1] at v1 r1 eW
 have wh : IntKind.u8.wrap N1.1.1 = N1.1.1 := IntWalk.u8_in _ (by omega)
 have f0 : (¬ N1.1.2 = 0) -> W = ((zeroH, N1.1.2), N1.2) := fun h0 => by rw [eW, if_neg h0]
 have f1 : (N1.1.2 = 0) -> W = ((⟨0, 0, 17, N1.1.1, zeroA, zeroA, 0, 0⟩, 0), N1.2) := fun h0 => by rw [eW, if_pos h0]
 clear eW
 have g1 : True := trivial
 refine meth_intro (wd := 64) (Q := mkQ LRd1) (by decide) tysOk (q_of LRd1_ok) mixed Try.func99 rfl _ (by show 1 + 1 <= _; decide) (flatF_nff (encRH_flat _)) (rdN_nf) ?_
 repeat' (first | (apply And.intro <;> intro hc <;> (first | exact Bool.noConfusion hc | (exfalso; first | exact absurd hc (by decide) | exact absurd rfl hc | exact absurd hc (by assumption) | exact absurd (by assumption) hc) | (simp only [zb0, ne_eq, not_true_eq_false] at hc <;> first | exact absurd rfl hc | (exfalso; first | exact absurd hc (by decide) | exact absurd rfl hc | exact absurd hc (by assumption) | exact absurd (by assumption) hc) | skip) | skip)) | (refine And.intro (by first | exact trivial | decide | omega | (dsimp only; omega) | exact fun _ _ => rfl | exact ⟨by assumption, by first | exact trivial | decide | omega | (dsimp only; omega)⟩) ?_) | (apply And.intro) | (refine Exists.intro b (And.intro ⟨rfl, rfl, by first | exact ⟨by assumption, by decide, by decide⟩⟩ ?_)) | (intro s hs; (first | (clear g1; have q : N1 = s := (hs.trans e1).symm; clear hs; subst q) | skip)))
 all_goals try (first | exact rfl | exact Nat.le_of_ble_eq_true rfl)
 all_goals first
  | (rw [f0 (by assumption)]
     exact ⟨leF_tup ⟨leE_tl (fun j hj => by (iterate 38 (rcases j with _ | j; exact leC_int rfl)); exact absurd hj (by omega)) leC_nils, leC_int rfl, trivial⟩, rdN_le rfl⟩)
  | (rw [f1 (by assumption)]
     exact ⟨leF_tup ⟨leE_tl (fun j hj => by (rcases j with _ | j; exact leC_int rfl); (rcases j with _ | j; exact leC_int rfl); (rcases j with _ | j; exact leC_int rfl); (rcases j with _ | j; exact leC_int wh); (iterate 34 (rcases j with _ | j; exact leC_int rfl)); exact absurd hj (by omega)) leC_nils, leC_int rfl, trivial⟩, rdN_le rfl⟩)
  | skip
theorem fields_97 (b : List Int) (q : Int) (hr : RdOk b q) : MethOk Try.prog 99 [(cI .i64).enc 97] (rdN true b q) (encRH (fieldsD b 97 q).1) (rdN true b (fieldsD b 97 q).2) := by
 obtain ⟨W, hW⟩ : ∃ W, fieldsD b 97 q = W := ⟨_, rfl⟩
 have eW : W = (if (numF b q 1).1.2 = 0 then (if (numF b (numF b q 1).2 3).1.2 = 0 then (if 1048575 < (numF b (numF b q 1).2 3).1.1 then ((zeroH, 5), (numF b (numF b q 1).2 3).2) else (if (numF b (numF b (numF b q 1).2 3).2 1).1.2 = 0 then (if (numF b (numF b (numF b q 1).2 3).2 1).1.1 = 17 then ((zeroH, 5), (numF b (numF b (numF b q 1).2 3).2 1).2) else ((⟨(numF b q 1).1.1, (numF b (numF b q 1).2 3).1.1, (numF b (numF b (numF b q 1).2 3).2 1).1.1, 1, zeroA, zeroA, 0, 0⟩, 0), (numF b (numF b (numF b q 1).2 3).2 1).2)) else ((zeroH, (numF b (numF b (numF b q 1).2 3).2 1).1.2), (numF b (numF b (numF b q 1).2 3).2 1).2))) else ((zeroH, (numF b (numF b q 1).2 3).1.2), (numF b (numF b q 1).2 3).2)) else ((zeroH, (numF b q 1).1.2), (numF b q 1).2)) := by
  rw [<- hW]
  simp (decide := true) only [fieldsD, thenD, hopV, if_true, if_false, true_and, and_true, false_and]
 rw [hW]
 clear hW
 have v1 := num1_v (q := q) hr.bl
 have r1 := num_ok (n := 1) hr
 obtain ⟨N1, e1⟩ : ∃ x, numF b q 1 = x := ⟨_, rfl⟩
 rw [e1] at v1 r1 eW
 have v2 := num3_v (q := N1.2) hr.bl
 have r2 := num_ok (n := 3) r1
 obtain ⟨N2, e2⟩ : ∃ x, numF b N1.2 3 = x := ⟨_, rfl⟩
 rw [e2] at v2 r2 eW
 have v3 := num1_v (q := N2.2) hr.bl
 have r3 := num_ok (n := 1) r2
 obtain ⟨N3, e3⟩ : ∃ x, numF b N2.2 1 = x := ⟨_, rfl⟩
 rw [e3] at v3 r3 eW
 have wc : IntKind.u8.wrap N1.1.1 = N1.1.1 := IntWalk.u8_in _ (by omega)
 have wf : IntKind.u32.wrap N2.1.1 = N2.1.1 := IntWalk.u32_in _ (by omega)
 have wn : IntKind.u8.wrap N3.1.1 = N3.1.1 := IntWalk.u8_in _ (by omega)
 have f0 : (¬ N1.1.2 = 0) -> W = ((zeroH, N1.1.2), N1.2) := fun h0 => by rw [eW, if_neg h0]
 have f1 : (N1.1.2 = 0) -> (¬ N2.1.2 = 0) -> W = ((zeroH, N2.1.2), N2.2) := fun h0 h1 => by rw [eW, if_pos h0, if_neg h1]
 have f2 : (N1.1.2 = 0) -> (N2.1.2 = 0) -> (1048575 < N2.1.1) -> W = ((zeroH, 5), N2.2) := fun h0 h1 h2 => by rw [eW, if_pos h0, if_pos h1, if_pos h2]
 have f3 : (N1.1.2 = 0) -> (N2.1.2 = 0) -> (¬ 1048575 < N2.1.1) -> (¬ N3.1.2 = 0) -> W = ((zeroH, N3.1.2), N3.2) := fun h0 h1 h2 h3 => by rw [eW, if_pos h0, if_pos h1, if_neg h2, if_neg h3]
 have f4 : (N1.1.2 = 0) -> (N2.1.2 = 0) -> (¬ 1048575 < N2.1.1) -> (N3.1.2 = 0) -> (N3.1.1 = 17) -> W = ((zeroH, 5), N3.2) := fun h0 h1 h2 h3 h4 => by rw [eW, if_pos h0, if_pos h1, if_neg h2, if_pos h3, if_pos h4]
 have f5 : (N1.1.2 = 0) -> (N2.1.2 = 0) -> (¬ 1048575 < N2.1.1) -> (N3.1.2 = 0) -> (¬ N3.1.1 = 17) -> W = ((⟨N1.1.1, N2.1.1, N3.1.1, 1, zeroA, zeroA, 0, 0⟩, 0), N3.2) := fun h0 h1 h2 h3 h4 => by rw [eW, if_pos h0, if_pos h1, if_neg h2, if_pos h3, if_neg h4]
 clear eW
 have g1 : True := trivial
 have g2 : True := trivial
 have g3 : True := trivial
 refine meth_intro (wd := 64) (Q := mkQ LRd1) (by decide) tysOk (q_of LRd1_ok) mixed Try.func99 rfl _ (by show 1 + 1 <= _; decide) (flatF_nff (encRH_flat _)) (rdN_nf) ?_
 repeat' (first | (apply And.intro <;> intro hc <;> (first | exact Bool.noConfusion hc | (exfalso; first | exact absurd hc (by decide) | exact absurd rfl hc | exact absurd hc (by assumption) | exact absurd (by assumption) hc) | (simp only [zb0, ne_eq, not_true_eq_false] at hc <;> first | exact absurd rfl hc | (exfalso; first | exact absurd hc (by decide) | exact absurd rfl hc | exact absurd hc (by assumption) | exact absurd (by assumption) hc) | skip) | skip)) | (refine And.intro (by first | exact trivial | decide | omega | (dsimp only; omega) | exact fun _ _ => rfl | exact ⟨by assumption, by first | exact trivial | decide | omega | (dsimp only; omega)⟩) ?_) | (apply And.intro) | (refine Exists.intro b (And.intro ⟨rfl, rfl, by first | exact ⟨by assumption, by decide, by decide⟩⟩ ?_)) | (intro s hs; (first | (clear g1; have q : N1 = s := (hs.trans e1).symm; clear hs; subst q) | (clear g2; have q : N2 = s := (hs.trans e2).symm; clear hs; subst q) | (clear g3; have q : N3 = s := (hs.trans e3).symm; clear hs; subst q) | skip)))
 all_goals try (first | exact rfl | exact Nat.le_of_ble_eq_true rfl)
 all_goals first
  | ((first | rw [f0 (by assumption)] | rw [f1 (by assumption) (by assumption)] | rw [f2 (by assumption) (by assumption) (by rw [<- wf]; assumption)] | rw [f3 (by assumption) (by assumption) (by rw [<- wf]; assumption) (by assumption)] | rw [f4 (by assumption) (by assumption) (by rw [<- wf]; assumption) (by assumption) (by rw [<- wn]; assumption)])
     exact ⟨leF_tup ⟨leE_tl (fun j hj => by (iterate 38 (rcases j with _ | j; exact leC_int rfl)); exact absurd hj (by omega)) leC_nils, leC_int rfl, trivial⟩, rdN_le rfl⟩)
  | (rw [f5 (by assumption) (by assumption) (by rw [<- wf]; assumption) (by assumption) (by rw [<- wn]; assumption)]
     exact ⟨leF_tup ⟨leE_tl (fun j hj => by (rcases j with _ | j; exact leC_int wc); (rcases j with _ | j; exact leC_int wf); (rcases j with _ | j; exact leC_int wn); (rcases j with _ | j; exact leC_int rfl); (iterate 34 (rcases j with _ | j; exact leC_int rfl)); exact absurd hj (by omega)) leC_nils, leC_int rfl, trivial⟩, rdN_le rfl⟩)
  | skip
theorem fields_101 (b : List Int) (q : Int) (hr : RdOk b q) : MethOk Try.prog 99 [(cI .i64).enc 101] (rdN true b q) (encRH (fieldsD b 101 q).1) (rdN true b (fieldsD b 101 q).2) := by
 obtain ⟨W, hW⟩ : ∃ W, fieldsD b 101 q = W := ⟨_, rfl⟩
 have eW : W = (if (numF b q 1).1.2 = 0 then (if (numF b (numF b q 1).2 3).1.2 = 0 then (if 1048575 < (numF b (numF b q 1).2 3).1.1 then ((zeroH, 5), (numF b (numF b q 1).2 3).2) else ((⟨(numF b q 1).1.1, (numF b (numF b q 1).2 3).1.1, 17, 1, zeroA, zeroA, 0, 0⟩, 0), (numF b (numF b q 1).2 3).2)) else ((zeroH, (numF b (numF b q 1).2 3).1.2), (numF b (numF b q 1).2 3).2)) else ((zeroH, (numF b q 1).1.2), (numF b q 1).2)) := by
  rw [<- hW]
  simp (decide := true) only [fieldsD, thenD, hopV, if_true, if_false, true_and, and_true, false_and]
 rw [hW]
 clear hW
 have v1 := num1_v (q := q) hr.bl
 have r1 := num_ok (n := 1) hr
 obtain ⟨N1, e1⟩ : ∃ x, numF b q 1 = x := ⟨_, rfl⟩
 rw [e1] at v1 r1 eW
 have v2 := num3_v (q := N1.2) hr.bl
 have r2 := num_ok (n := 3) r1
 obtain ⟨N2, e2⟩ : ∃ x, numF b N1.2 3 = x := ⟨_, rfl⟩
 rw [e2] at v2 r2 eW
 have wc : IntKind.u8.wrap N1.1.1 = N1.1.1 := IntWalk.u8_in _ (by omega)
 have wf : IntKind.u32.wrap N2.1.1 = N2.1.1 := IntWalk.u32_in _ (by omega)
 have f0 : (¬ N1.1.2 = 0) -> W = ((zeroH, N1.1.2), N1.2) := fun h0 => by rw [eW, if_neg h0]
 have f1 : (N1.1.2 = 0) -> (¬ N2.1.2 = 0) -> W = ((zeroH, N2.1.2), N2.2) := fun h0 h1 => by rw [eW, if_pos h0, if_neg h1]
 have f2 : (N1.1.2 = 0) -> (N2.1.2 = 0) -> (1048575 < N2.1.1) -> W = ((zeroH, 5), N2.2) := fun h0 h1 h2 => by rw [eW, if_pos h0, if_pos h1, if_pos h2]
 have f3 : (N1.1.2 = 0) -> (N2.1.2 = 0) -> (¬ 1048575 < N2.1.1) -> W = ((⟨N1.1.1, N2.1.1, 17, 1, zeroA, zeroA, 0, 0⟩, 0), N2.2) := fun h0 h1 h2 => by rw [eW, if_pos h0, if_pos h1, if_neg h2]
 clear eW
 have g1 : True := trivial
 have g2 : True := trivial
 refine meth_intro (wd := 64) (Q := mkQ LRd1) (by decide) tysOk (q_of LRd1_ok) mixed Try.func99 rfl _ (by show 1 + 1 <= _; decide) (flatF_nff (encRH_flat _)) (rdN_nf) ?_
 repeat' (first | (apply And.intro <;> intro hc <;> (first | exact Bool.noConfusion hc | (exfalso; first | exact absurd hc (by decide) | exact absurd rfl hc | exact absurd hc (by assumption) | exact absurd (by assumption) hc) | (simp only [zb0, ne_eq, not_true_eq_false] at hc <;> first | exact absurd rfl hc | (exfalso; first | exact absurd hc (by decide) | exact absurd rfl hc | exact absurd hc (by assumption) | exact absurd (by assumption) hc) | skip) | skip)) | (refine And.intro (by first | exact trivial | decide | omega | (dsimp only; omega) | exact fun _ _ => rfl | exact ⟨by assumption, by first | exact trivial | decide | omega | (dsimp only; omega)⟩) ?_) | (apply And.intro) | (refine Exists.intro b (And.intro ⟨rfl, rfl, by first | exact ⟨by assumption, by decide, by decide⟩⟩ ?_)) | (intro s hs; (first | (clear g1; have q : N1 = s := (hs.trans e1).symm; clear hs; subst q) | (clear g2; have q : N2 = s := (hs.trans e2).symm; clear hs; subst q) | skip)))
 all_goals try (first | exact rfl | exact Nat.le_of_ble_eq_true rfl)
 all_goals first
  | ((first | rw [f0 (by assumption)] | rw [f1 (by assumption) (by assumption)] | rw [f2 (by assumption) (by assumption) (by rw [<- wf]; assumption)])
     exact ⟨leF_tup ⟨leE_tl (fun j hj => by (iterate 38 (rcases j with _ | j; exact leC_int rfl)); exact absurd hj (by omega)) leC_nils, leC_int rfl, trivial⟩, rdN_le rfl⟩)
  | (rw [f3 (by assumption) (by assumption) (by rw [<- wf]; assumption)]
     exact ⟨leF_tup ⟨leE_tl (fun j hj => by (rcases j with _ | j; exact leC_int wc); (rcases j with _ | j; exact leC_int wf); (rcases j with _ | j; exact leC_int rfl); (rcases j with _ | j; exact leC_int rfl); (iterate 34 (rcases j with _ | j; exact leC_int rfl)); exact absurd hj (by omega)) leC_nils, leC_int rfl, trivial⟩, rdN_le rfl⟩)
  | skip
theorem fields_105 (b : List Int) (q : Int) (hr : RdOk b q) : MethOk Try.prog 99 [(cI .i64).enc 105] (rdN true b q) (encRH (fieldsD b 105 q).1) (rdN true b (fieldsD b 105 q).2) := by
 obtain ⟨W, hW⟩ : ∃ W, fieldsD b 105 q = W := ⟨_, rfl⟩
 have eW : W = (if (numF b q 3).1.2 = 0 then (if 1048575 < (numF b q 3).1.1 then ((zeroH, 5), (numF b q 3).2) else (if (numF b (numF b q 3).2 1).1.2 = 0 then (if (numF b (numF b q 3).2 1).1.1 = 17 then ((zeroH, 5), (numF b (numF b q 3).2 1).2) else ((⟨0, (numF b q 3).1.1, (numF b (numF b q 3).2 1).1.1, 1, zeroA, zeroA, 0, 0⟩, 0), (numF b (numF b q 3).2 1).2)) else ((zeroH, (numF b (numF b q 3).2 1).1.2), (numF b (numF b q 3).2 1).2))) else ((zeroH, (numF b q 3).1.2), (numF b q 3).2)) := by
  rw [<- hW]
  simp (decide := true) only [fieldsD, thenD, hopV, if_true, if_false, true_and, and_true, false_and]
 rw [hW]
 clear hW
 have v1 := num3_v (q := q) hr.bl
 have r1 := num_ok (n := 3) hr
 obtain ⟨N1, e1⟩ : ∃ x, numF b q 3 = x := ⟨_, rfl⟩
 rw [e1] at v1 r1 eW
 have v2 := num1_v (q := N1.2) hr.bl
 have r2 := num_ok (n := 1) r1
 obtain ⟨N2, e2⟩ : ∃ x, numF b N1.2 1 = x := ⟨_, rfl⟩
 rw [e2] at v2 r2 eW
 have wf : IntKind.u32.wrap N1.1.1 = N1.1.1 := IntWalk.u32_in _ (by omega)
 have wn : IntKind.u8.wrap N2.1.1 = N2.1.1 := IntWalk.u8_in _ (by omega)
 have f0 : (¬ N1.1.2 = 0) -> W = ((zeroH, N1.1.2), N1.2) := fun h0 => by rw [eW, if_neg h0]
 have f1 : (N1.1.2 = 0) -> (1048575 < N1.1.1) -> W = ((zeroH, 5), N1.2) := fun h0 h1 => by rw [eW, if_pos h0, if_pos h1]
 have f2 : (N1.1.2 = 0) -> (¬ 1048575 < N1.1.1) -> (¬ N2.1.2 = 0) -> W = ((zeroH, N2.1.2), N2.2) := fun h0 h1 h2 => by rw [eW, if_pos h0, if_neg h1, if_neg h2]
 have f3 : (N1.1.2 = 0) -> (¬ 1048575 < N1.1.1) -> (N2.1.2 = 0) -> (N2.1.1 = 17) -> W = ((zeroH, 5), N2.2) := fun h0 h1 h2 h3 => by rw [eW, if_pos h0, if_neg h1, if_pos h2, if_pos h3]
 have f4 : (N1.1.2 = 0) -> (¬ 1048575 < N1.1.1) -> (N2.1.2 = 0) -> (¬ N2.1.1 = 17) -> W = ((⟨0, N1.1.1, N2.1.1, 1, zeroA, zeroA, 0, 0⟩, 0), N2.2) := fun h0 h1 h2 h3 => by rw [eW, if_pos h0, if_neg h1, if_pos h2, if_neg h3]
 clear eW
 have g1 : True := trivial
 have g2 : True := trivial
 refine meth_intro (wd := 64) (Q := mkQ LRd1) (by decide) tysOk (q_of LRd1_ok) mixed Try.func99 rfl _ (by show 1 + 1 <= _; decide) (flatF_nff (encRH_flat _)) (rdN_nf) ?_
 repeat' (first | (apply And.intro <;> intro hc <;> (first | exact Bool.noConfusion hc | (exfalso; first | exact absurd hc (by decide) | exact absurd rfl hc | exact absurd hc (by assumption) | exact absurd (by assumption) hc) | (simp only [zb0, ne_eq, not_true_eq_false] at hc <;> first | exact absurd rfl hc | (exfalso; first | exact absurd hc (by decide) | exact absurd rfl hc | exact absurd hc (by assumption) | exact absurd (by assumption) hc) | skip) | skip)) | (refine And.intro (by first | exact trivial | decide | omega | (dsimp only; omega) | exact fun _ _ => rfl | exact ⟨by assumption, by first | exact trivial | decide | omega | (dsimp only; omega)⟩) ?_) | (apply And.intro) | (refine Exists.intro b (And.intro ⟨rfl, rfl, by first | exact ⟨by assumption, by decide, by decide⟩⟩ ?_)) | (intro s hs; (first | (clear g1; have q : N1 = s := (hs.trans e1).symm; clear hs; subst q) | (clear g2; have q : N2 = s := (hs.trans e2).symm; clear hs; subst q) | skip)))
 all_goals try (first | exact rfl | exact Nat.le_of_ble_eq_true rfl)
 all_goals first
  | ((first | rw [f0 (by assumption)] | rw [f1 (by assumption) (by rw [<- wf]; assumption)] | rw [f2 (by assumption) (by rw [<- wf]; assumption) (by assumption)] | rw [f3 (by assumption) (by rw [<- wf]; assumption) (by assumption) (by rw [<- wn]; assumption)])
     exact ⟨leF_tup ⟨leE_tl (fun j hj => by (iterate 38 (rcases j with _ | j; exact leC_int rfl)); exact absurd hj (by omega)) leC_nils, leC_int rfl, trivial⟩, rdN_le rfl⟩)
  | (rw [f4 (by assumption) (by rw [<- wf]; assumption) (by assumption) (by rw [<- wn]; assumption)]
     exact ⟨leF_tup ⟨leE_tl (fun j hj => by (rcases j with _ | j; exact leC_int rfl); (rcases j with _ | j; exact leC_int wf); (rcases j with _ | j; exact leC_int wn); (rcases j with _ | j; exact leC_int rfl); (iterate 34 (rcases j with _ | j; exact leC_int rfl)); exact absurd hj (by omega)) leC_nils, leC_int rfl, trivial⟩, rdN_le rfl⟩)
  | skip
theorem fields_109 (b : List Int) (q : Int) (hr : RdOk b q) : MethOk Try.prog 99 [(cI .i64).enc 109] (rdN true b q) (encRH (fieldsD b 109 q).1) (rdN true b (fieldsD b 109 q).2) := by
 obtain ⟨W, hW⟩ : ∃ W, fieldsD b 109 q = W := ⟨_, rfl⟩
 have eW : W = (if (numF b q 3).1.2 = 0 then (if 1048575 < (numF b q 3).1.1 then ((zeroH, 5), (numF b q 3).2) else ((⟨0, (numF b q 3).1.1, 17, 1, zeroA, zeroA, 0, 0⟩, 0), (numF b q 3).2)) else ((zeroH, (numF b q 3).1.2), (numF b q 3).2)) := by
  rw [<- hW]
  simp (decide := true) only [fieldsD, thenD, hopV, if_true, if_false, true_and, and_true, false_and]
 rw [hW]
 clear hW
 have v1 := num3_v (q := q) hr.bl
 have r1 := num_ok (n := 3) hr
 obtain ⟨N1, e1⟩ : ∃ x, numF b q 3 = x := ⟨_, rfl⟩
 rw [e1] at v1 r1 eW
 have wf : IntKind.u32.wrap N1.1.1 = N1.1.1 := IntWalk.u32_in _ (by omega)
 have f0 : (¬ N1.1.2 = 0) -> W = ((zeroH, N1.1.2), N1.2) := fun h0 => by rw [eW, if_neg h0]
 have f1 : (N1.1.2 = 0) -> (1048575 < N1.1.1) -> W = ((zeroH, 5), N1.2) := fun h0 h1 => by rw [eW, if_pos h0, if_pos h1]
 have f2 : (N1.1.2 = 0) -> (¬ 1048575 < N1.1.1) -> W = ((⟨0, N1.1.1, 17, 1, zeroA, zeroA, 0, 0⟩, 0), N1.2) := fun h0 h1 => by rw [eW, if_pos h0, if_neg h1]
 clear eW
 have g1 : True := trivial
 refine meth_intro (wd := 64) (Q := mkQ LRd1) (by decide) tysOk (q_of LRd1_ok) mixed Try.func99 rfl _ (by show 1 + 1 <= _; decide) (flatF_nff (encRH_flat _)) (rdN_nf) ?_
 repeat' (first | (apply And.intro <;> intro hc <;> (first | exact Bool.noConfusion hc | (exfalso; first | exact absurd hc (by decide) | exact absurd rfl hc | exact absurd hc (by assumption) | exact absurd (by assumption) hc) | (simp only [zb0, ne_eq, not_true_eq_false] at hc <;> first | exact absurd rfl hc | (exfalso; first | exact absurd hc (by decide) | exact absurd rfl hc | exact absurd hc (by assumption) | exact absurd (by assumption) hc) | skip) | skip)) | (refine And.intro (by first | exact trivial | decide | omega | (dsimp only; omega) | exact fun _ _ => rfl | exact ⟨by assumption, by first | exact trivial | decide | omega | (dsimp only; omega)⟩) ?_) | (apply And.intro) | (refine Exists.intro b (And.intro ⟨rfl, rfl, by first | exact ⟨by assumption, by decide, by decide⟩⟩ ?_)) | (intro s hs; (first | (clear g1; have q : N1 = s := (hs.trans e1).symm; clear hs; subst q) | skip)))
 all_goals try (first | exact rfl | exact Nat.le_of_ble_eq_true rfl)
 all_goals first
  | ((first | rw [f0 (by assumption)] | rw [f1 (by assumption) (by rw [<- wf]; assumption)])
     exact ⟨leF_tup ⟨leE_tl (fun j hj => by (iterate 38 (rcases j with _ | j; exact leC_int rfl)); exact absurd hj (by omega)) leC_nils, leC_int rfl, trivial⟩, rdN_le rfl⟩)
  | (rw [f2 (by assumption) (by rw [<- wf]; assumption)]
     exact ⟨leF_tup ⟨leE_tl (fun j hj => by (rcases j with _ | j; exact leC_int rfl); (rcases j with _ | j; exact leC_int wf); (rcases j with _ | j; exact leC_int rfl); (rcases j with _ | j; exact leC_int rfl); (iterate 34 (rcases j with _ | j; exact leC_int rfl)); exact absurd hj (by omega)) leC_nils, leC_int rfl, trivial⟩, rdN_le rfl⟩)
  | skip
theorem fields_113 (b : List Int) (q : Int) (hr : RdOk b q) : MethOk Try.prog 99 [(cI .i64).enc 113] (rdN true b q) (encRH (fieldsD b 113 q).1) (rdN true b (fieldsD b 113 q).2) := by
 obtain ⟨W, hW⟩ : ∃ W, fieldsD b 113 q = W := ⟨_, rfl⟩
 have eW : W = (if (numF b q 1).1.2 = 0 then (if (numF b (numF b q 1).2 1).1.2 = 0 then (if (numF b (numF b q 1).2 1).1.1 = 17 then ((zeroH, 5), (numF b (numF b q 1).2 1).2) else ((⟨(numF b q 1).1.1, 0, (numF b (numF b q 1).2 1).1.1, 1, zeroA, zeroA, 0, 0⟩, 0), (numF b (numF b q 1).2 1).2)) else ((zeroH, (numF b (numF b q 1).2 1).1.2), (numF b (numF b q 1).2 1).2)) else ((zeroH, (numF b q 1).1.2), (numF b q 1).2)) := by
  rw [<- hW]
  simp (decide := true) only [fieldsD, thenD, hopV, if_true, if_false, true_and, and_true, false_and]
 rw [hW]
 clear hW
 have v1 := num1_v (q := q) hr.bl
 have r1 := num_ok (n := 1) hr
 obtain ⟨N1, e1⟩ : ∃ x, numF b q 1 = x := ⟨_, rfl⟩
 rw [e1] at v1 r1 eW
 have v2 := num1_v (q := N1.2) hr.bl
 have r2 := num_ok (n := 1) r1
 obtain ⟨N2, e2⟩ : ∃ x, numF b N1.2 1 = x := ⟨_, rfl⟩
 rw [e2] at v2 r2 eW
 have wc : IntKind.u8.wrap N1.1.1 = N1.1.1 := IntWalk.u8_in _ (by omega)
 have wn : IntKind.u8.wrap N2.1.1 = N2.1.1 := IntWalk.u8_in _ (by omega)
 have f0 : (¬ N1.1.2 = 0) -> W = ((zeroH, N1.1.2), N1.2) := fun h0 => by rw [eW, if_neg h0]
 have f1 : (N1.1.2 = 0) -> (¬ N2.1.2 = 0) -> W = ((zeroH, N2.1.2), N2.2) := fun h0 h1 => by rw [eW, if_pos h0, if_neg h1]
 have f2 : (N1.1.2 = 0) -> (N2.1.2 = 0) -> (N2.1.1 = 17) -> W = ((zeroH, 5), N2.2) := fun h0 h1 h2 => by rw [eW, if_pos h0, if_pos h1, if_pos h2]
 have f3 : (N1.1.2 = 0) -> (N2.1.2 = 0) -> (¬ N2.1.1 = 17) -> W = ((⟨N1.1.1, 0, N2.1.1, 1, zeroA, zeroA, 0, 0⟩, 0), N2.2) := fun h0 h1 h2 => by rw [eW, if_pos h0, if_pos h1, if_neg h2]
 clear eW
 have g1 : True := trivial
 have g2 : True := trivial
 refine meth_intro (wd := 64) (Q := mkQ LRd1) (by decide) tysOk (q_of LRd1_ok) mixed Try.func99 rfl _ (by show 1 + 1 <= _; decide) (flatF_nff (encRH_flat _)) (rdN_nf) ?_
 repeat' (first | (apply And.intro <;> intro hc <;> (first | exact Bool.noConfusion hc | (exfalso; first | exact absurd hc (by decide) | exact absurd rfl hc | exact absurd hc (by assumption) | exact absurd (by assumption) hc) | (simp only [zb0, ne_eq, not_true_eq_false] at hc <;> first | exact absurd rfl hc | (exfalso; first | exact absurd hc (by decide) | exact absurd rfl hc | exact absurd hc (by assumption) | exact absurd (by assumption) hc) | skip) | skip)) | (refine And.intro (by first | exact trivial | decide | omega | (dsimp only; omega) | exact fun _ _ => rfl | exact ⟨by assumption, by first | exact trivial | decide | omega | (dsimp only; omega)⟩) ?_) | (apply And.intro) | (refine Exists.intro b (And.intro ⟨rfl, rfl, by first | exact ⟨by assumption, by decide, by decide⟩⟩ ?_)) | (intro s hs; (first | (clear g1; have q : N1 = s := (hs.trans e1).symm; clear hs; subst q) | (clear g2; have q : N2 = s := (hs.trans e2).symm; clear hs; subst q) | skip)))
 all_goals try (first | exact rfl | exact Nat.le_of_ble_eq_true rfl)
 all_goals first
  | ((first | rw [f0 (by assumption)] | rw [f1 (by assumption) (by assumption)] | rw [f2 (by assumption) (by assumption) (by rw [<- wn]; assumption)])
     exact ⟨leF_tup ⟨leE_tl (fun j hj => by (iterate 38 (rcases j with _ | j; exact leC_int rfl)); exact absurd hj (by omega)) leC_nils, leC_int rfl, trivial⟩, rdN_le rfl⟩)
  | (rw [f3 (by assumption) (by assumption) (by rw [<- wn]; assumption)]
     exact ⟨leF_tup ⟨leE_tl (fun j hj => by (rcases j with _ | j; exact leC_int wc); (rcases j with _ | j; exact leC_int rfl); (rcases j with _ | j; exact leC_int wn); (rcases j with _ | j; exact leC_int rfl); (iterate 34 (rcases j with _ | j; exact leC_int rfl)); exact absurd hj (by omega)) leC_nils, leC_int rfl, trivial⟩, rdN_le rfl⟩)
  | skip
theorem fields_117 (b : List Int) (q : Int) (hr : RdOk b q) : MethOk Try.prog 99 [(cI .i64).enc 117] (rdN true b q) (encRH (fieldsD b 117 q).1) (rdN true b (fieldsD b 117 q).2) := by
 obtain ⟨W, hW⟩ : ∃ W, fieldsD b 117 q = W := ⟨_, rfl⟩
 have eW : W = (if (numF b q 1).1.2 = 0 then ((⟨(numF b q 1).1.1, 0, 17, 1, zeroA, zeroA, 0, 0⟩, 0), (numF b q 1).2) else ((zeroH, (numF b q 1).1.2), (numF b q 1).2)) := by
  rw [<- hW]
  simp (decide := true) only [fieldsD, thenD, hopV, if_true, if_false, true_and, and_true, false_and]
 rw [hW]
 clear hW
 have v1 := num1_v (q := q) hr.bl
 have r1 := num_ok (n := 1) hr
 obtain ⟨N1, e1⟩ : ∃ x, numF b q 1 = x := ⟨_, rfl⟩
 rw [e1] at v1 r1 eW
 have wc : IntKind.u8.wrap N1.1.1 = N1.1.1 := IntWalk.u8_in _ (by omega)
 have f0 : (¬ N1.1.2 = 0) -> W = ((zeroH, N1.1.2), N1.2) := fun h0 => by rw [eW, if_neg h0]
 have f1 : (N1.1.2 = 0) -> W = ((⟨N1.1.1, 0, 17, 1, zeroA, zeroA, 0, 0⟩, 0), N1.2) := fun h0 => by rw [eW, if_pos h0]
 clear eW
 have g1 : True := trivial
 refine meth_intro (wd := 64) (Q := mkQ LRd1) (by decide) tysOk (q_of LRd1_ok) mixed Try.func99 rfl _ (by show 1 + 1 <= _; decide) (flatF_nff (encRH_flat _)) (rdN_nf) ?_
 repeat' (first | (apply And.intro <;> intro hc <;> (first | exact Bool.noConfusion hc | (exfalso; first | exact absurd hc (by decide) | exact absurd rfl hc | exact absurd hc (by assumption) | exact absurd (by assumption) hc) | (simp only [zb0, ne_eq, not_true_eq_false] at hc <;> first | exact absurd rfl hc | (exfalso; first | exact absurd hc (by decide) | exact absurd rfl hc | exact absurd hc (by assumption) | exact absurd (by assumption) hc) | skip) | skip)) | (refine And.intro (by first | exact trivial | decide | omega | (dsimp only; omega) | exact fun _ _ => rfl | exact ⟨by assumption, by first | exact trivial | decide | omega | (dsimp only; omega)⟩) ?_) | (apply And.intro) | (refine Exists.intro b (And.intro ⟨rfl, rfl, by first | exact ⟨by assumption, by decide, by decide⟩⟩ ?_)) | (intro s hs; (first | (clear g1; have q : N1 = s := (hs.trans e1).symm; clear hs; subst q) | skip)))
 all_goals try (first | exact rfl | exact Nat.le_of_ble_eq_true rfl)
 all_goals first
  | (rw [f0 (by assumption)]
     exact ⟨leF_tup ⟨leE_tl (fun j hj => by (iterate 38 (rcases j with _ | j; exact leC_int rfl)); exact absurd hj (by omega)) leC_nils, leC_int rfl, trivial⟩, rdN_le rfl⟩)
  | (rw [f1 (by assumption)]
     exact ⟨leF_tup ⟨leE_tl (fun j hj => by (rcases j with _ | j; exact leC_int wc); (rcases j with _ | j; exact leC_int rfl); (rcases j with _ | j; exact leC_int rfl); (rcases j with _ | j; exact leC_int rfl); (iterate 34 (rcases j with _ | j; exact leC_int rfl)); exact absurd hj (by omega)) leC_nils, leC_int rfl, trivial⟩, rdN_le rfl⟩)
  | skip
theorem fields_121 (b : List Int) (q : Int) (hr : RdOk b q) : MethOk Try.prog 99 [(cI .i64).enc 121] (rdN true b q) (encRH (fieldsD b 121 q).1) (rdN true b (fieldsD b 121 q).2) := by
 obtain ⟨W, hW⟩ : ∃ W, fieldsD b 121 q = W := ⟨_, rfl⟩
 have eW : W = (if (numF b q 1).1.2 = 0 then (if (numF b q 1).1.1 = 17 then ((zeroH, 5), (numF b q 1).2) else ((⟨0, 0, (numF b q 1).1.1, 1, zeroA, zeroA, 0, 0⟩, 0), (numF b q 1).2)) else ((zeroH, (numF b q 1).1.2), (numF b q 1).2)) := by
  rw [<- hW]
  simp (decide := true) only [fieldsD, thenD, hopV, if_true, if_false, true_and, and_true, false_and]
 rw [hW]
 clear hW
 have v1 := num1_v (q := q) hr.bl
 have r1 := num_ok (n := 1) hr
 obtain ⟨N1, e1⟩ : ∃ x, numF b q 1 = x := ⟨_, rfl⟩
 rw [e1] at v1 r1 eW
 have wn : IntKind.u8.wrap N1.1.1 = N1.1.1 := IntWalk.u8_in _ (by omega)
 have f0 : (¬ N1.1.2 = 0) -> W = ((zeroH, N1.1.2), N1.2) := fun h0 => by rw [eW, if_neg h0]
 have f1 : (N1.1.2 = 0) -> (N1.1.1 = 17) -> W = ((zeroH, 5), N1.2) := fun h0 h1 => by rw [eW, if_pos h0, if_pos h1]
 have f2 : (N1.1.2 = 0) -> (¬ N1.1.1 = 17) -> W = ((⟨0, 0, N1.1.1, 1, zeroA, zeroA, 0, 0⟩, 0), N1.2) := fun h0 h1 => by rw [eW, if_pos h0, if_neg h1]
 clear eW
 have g1 : True := trivial
 refine meth_intro (wd := 64) (Q := mkQ LRd1) (by decide) tysOk (q_of LRd1_ok) mixed Try.func99 rfl _ (by show 1 + 1 <= _; decide) (flatF_nff (encRH_flat _)) (rdN_nf) ?_
 repeat' (first | (apply And.intro <;> intro hc <;> (first | exact Bool.noConfusion hc | (exfalso; first | exact absurd hc (by decide) | exact absurd rfl hc | exact absurd hc (by assumption) | exact absurd (by assumption) hc) | (simp only [zb0, ne_eq, not_true_eq_false] at hc <;> first | exact absurd rfl hc | (exfalso; first | exact absurd hc (by decide) | exact absurd rfl hc | exact absurd hc (by assumption) | exact absurd (by assumption) hc) | skip) | skip)) | (refine And.intro (by first | exact trivial | decide | omega | (dsimp only; omega) | exact fun _ _ => rfl | exact ⟨by assumption, by first | exact trivial | decide | omega | (dsimp only; omega)⟩) ?_) | (apply And.intro) | (refine Exists.intro b (And.intro ⟨rfl, rfl, by first | exact ⟨by assumption, by decide, by decide⟩⟩ ?_)) | (intro s hs; (first | (clear g1; have q : N1 = s := (hs.trans e1).symm; clear hs; subst q) | skip)))
 all_goals try (first | exact rfl | exact Nat.le_of_ble_eq_true rfl)
 all_goals first
  | ((first | rw [f0 (by assumption)] | rw [f1 (by assumption) (by rw [<- wn]; assumption)])
     exact ⟨leF_tup ⟨leE_tl (fun j hj => by (iterate 38 (rcases j with _ | j; exact leC_int rfl)); exact absurd hj (by omega)) leC_nils, leC_int rfl, trivial⟩, rdN_le rfl⟩)
  | (rw [f2 (by assumption) (by rw [<- wn]; assumption)]
     exact ⟨leF_tup ⟨leE_tl (fun j hj => by (rcases j with _ | j; exact leC_int rfl); (rcases j with _ | j; exact leC_int rfl); (rcases j with _ | j; exact leC_int wn); (rcases j with _ | j; exact leC_int rfl); (iterate 34 (rcases j with _ | j; exact leC_int rfl)); exact absurd hj (by omega)) leC_nils, leC_int rfl, trivial⟩, rdN_le rfl⟩)
  | skip
theorem fields_125 (b : List Int) (q : Int) (hr : RdOk b q) : MethOk Try.prog 99 [(cI .i64).enc 125] (rdN true b q) (encRH (fieldsD b 125 q).1) (rdN true b (fieldsD b 125 q).2) := by
 obtain ⟨W, hW⟩ : ∃ W, fieldsD b 125 q = W := ⟨_, rfl⟩
 have eW : W = ((⟨0, 0, 17, 1, zeroA, zeroA, 0, 0⟩, 0), q) := by
  rw [<- hW]
  simp (decide := true) only [fieldsD, thenD, hopV, if_true, if_false, true_and, and_true, false_and]
 rw [hW]
 clear hW
 have f0 : W = ((⟨0, 0, 17, 1, zeroA, zeroA, 0, 0⟩, 0), q) := eW
 clear eW
 refine meth_intro (wd := 64) (Q := mkQ LRd1) (by decide) tysOk (q_of LRd1_ok) mixed Try.func99 rfl _ (by show 1 + 1 <= _; decide) (flatF_nff (encRH_flat _)) (rdN_nf) ?_
 repeat' (first | (apply And.intro <;> intro hc <;> (first | exact Bool.noConfusion hc | (exfalso; first | exact absurd hc (by decide) | exact absurd rfl hc | exact absurd hc (by assumption) | exact absurd (by assumption) hc) | (simp only [zb0, ne_eq, not_true_eq_false] at hc <;> first | exact absurd rfl hc | (exfalso; first | exact absurd hc (by decide) | exact absurd rfl hc | exact absurd hc (by assumption) | exact absurd (by assumption) hc) | skip) | skip)) | (refine And.intro (by first | exact trivial | decide | omega | (dsimp only; omega) | exact fun _ _ => rfl | exact ⟨by assumption, by first | exact trivial | decide | omega | (dsimp only; omega)⟩) ?_) | (apply And.intro) | (refine Exists.intro b (And.intro ⟨rfl, rfl, by first | exact ⟨by assumption, by decide, by decide⟩⟩ ?_)) | (intro s hs; (first  | skip)))
 all_goals try (first | exact rfl | exact Nat.le_of_ble_eq_true rfl)
 all_goals first
  | (rw [f0 ]
     exact ⟨leF_tup ⟨leE_tl (fun j hj => by (rcases j with _ | j; exact leC_int rfl); (rcases j with _ | j; exact leC_int rfl); (rcases j with _ | j; exact leC_int rfl); (rcases j with _ | j; exact leC_int rfl); (iterate 34 (rcases j with _ | j; exact leC_int rfl)); exact absurd hj (by omega)) leC_nils, leC_int rfl, trivial⟩, rdN_le rfl⟩)
  | skip
theorem fields_98 (b : List Int) (q : Int) (hr : RdOk b q) : MethOk Try.prog 99 [(cI .i64).enc 98] (rdN true b q) (encRH (fieldsD b 98 q).1) (rdN true b (fieldsD b 98 q).2) := by
 obtain ⟨W, hW⟩ : ∃ W, fieldsD b 98 q = W := ⟨_, rfl⟩
 have eW : W = (if (numF b q 1).1.2 = 0 then (if (numF b (numF b q 1).2 3).1.2 = 0 then (if 1048575 < (numF b (numF b q 1).2 3).1.1 then ((zeroH, 5), (numF b (numF b q 1).2 3).2) else (if (numF b (numF b (numF b q 1).2 3).2 1).1.2 = 0 then (if (numF b (numF b (numF b q 1).2 3).2 1).1.1 = 17 then ((zeroH, 5), (numF b (numF b (numF b q 1).2 3).2 1).2) else ((⟨(numF b q 1).1.1, (numF b (numF b q 1).2 3).1.1, (numF b (numF b (numF b q 1).2 3).2 1).1.1, 64, zeroA, zeroA, 0, 0⟩, 0), (numF b (numF b (numF b q 1).2 3).2 1).2)) else ((zeroH, (numF b (numF b (numF b q 1).2 3).2 1).1.2), (numF b (numF b (numF b q 1).2 3).2 1).2))) else ((zeroH, (numF b (numF b q 1).2 3).1.2), (numF b (numF b q 1).2 3).2)) else ((zeroH, (numF b q 1).1.2), (numF b q 1).2)) := by
  rw [<- hW]
  simp (decide := true) only [fieldsD, thenD, hopV, if_true, if_false, true_and, and_true, false_and]
 rw [hW]
 clear hW
 have v1 := num1_v (q := q) hr.bl
 have r1 := num_ok (n := 1) hr
 obtain ⟨N1, e1⟩ : ∃ x, numF b q 1 = x := ⟨_, rfl⟩
 rw [e1] at v1 r1 eW
 have v2 := num3_v (q := N1.2) hr.bl
 have r2 := num_ok (n := 3) r1
 obtain ⟨N2, e2⟩ : ∃ x, numF b N1.2 3 = x := ⟨_, rfl⟩
 rw [e2] at v2 r2 eW
 have v3 := num1_v (q := N2.2) hr.bl
 have r3 := num_ok (n := 1) r2
 obtain ⟨N3, e3⟩ : ∃ x, numF b N2.2 1 = x := ⟨_, rfl⟩
 rw [e3] at v3 r3 eW
 have wc : IntKind.u8.wrap N1.1.1 = N1.1.1 := IntWalk.u8_in _ (by omega)
 have wf : IntKind.u32.wrap N2.1.1 = N2.1.1 := IntWalk.u32_in _ (by omega)
 have wn : IntKind.u8.wrap N3.1.1 = N3.1.1 := IntWalk.u8_in _ (by omega)
 have f0 : (¬ N1.1.2 = 0) -> W = ((zeroH, N1.1.2), N1.2) := fun h0 => by rw [eW, if_neg h0]
 have f1 : (N1.1.2 = 0) -> (¬ N2.1.2 = 0) -> W = ((zeroH, N2.1.2), N2.2) := fun h0 h1 => by rw [eW, if_pos h0, if_neg h1]
 have f2 : (N1.1.2 = 0) -> (N2.1.2 = 0) -> (1048575 < N2.1.1) -> W = ((zeroH, 5), N2.2) := fun h0 h1 h2 => by rw [eW, if_pos h0, if_pos h1, if_pos h2]
 have f3 : (N1.1.2 = 0) -> (N2.1.2 = 0) -> (¬ 1048575 < N2.1.1) -> (¬ N3.1.2 = 0) -> W = ((zeroH, N3.1.2), N3.2) := fun h0 h1 h2 h3 => by rw [eW, if_pos h0, if_pos h1, if_neg h2, if_neg h3]
 have f4 : (N1.1.2 = 0) -> (N2.1.2 = 0) -> (¬ 1048575 < N2.1.1) -> (N3.1.2 = 0) -> (N3.1.1 = 17) -> W = ((zeroH, 5), N3.2) := fun h0 h1 h2 h3 h4 => by rw [eW, if_pos h0, if_pos h1, if_neg h2, if_pos h3, if_pos h4]
 have f5 : (N1.1.2 = 0) -> (N2.1.2 = 0) -> (¬ 1048575 < N2.1.1) -> (N3.1.2 = 0) -> (¬ N3.1.1 = 17) -> W = ((⟨N1.1.1, N2.1.1, N3.1.1, 64, zeroA, zeroA, 0, 0⟩, 0), N3.2) := fun h0 h1 h2 h3 h4 => by rw [eW, if_pos h0, if_pos h1, if_neg h2, if_pos h3, if_neg h4]
 clear eW
 have g1 : True := trivial
 have g2 : True := trivial
 have g3 : True := trivial
 refine meth_intro (wd := 64) (Q := mkQ LRd1) (by decide) tysOk (q_of LRd1_ok) mixed Try.func99 rfl _ (by show 1 + 1 <= _; decide) (flatF_nff (encRH_flat _)) (rdN_nf) ?_
 repeat' (first | (apply And.intro <;> intro hc <;> (first | exact Bool.noConfusion hc | (exfalso; first | exact absurd hc (by decide) | exact absurd rfl hc | exact absurd hc (by assumption) | exact absurd (by assumption) hc) | (simp only [zb0, ne_eq, not_true_eq_false] at hc <;> first | exact absurd rfl hc | (exfalso; first | exact absurd hc (by decide) | exact absurd rfl hc | exact absurd hc (by assumption) | exact absurd (by assumption) hc) | skip) | skip)) | (refine And.intro (by first | exact trivial | decide | omega | (dsimp only; omega) | exact fun _ _ => rfl | exact ⟨by assumption, by first | exact trivial | decide | omega | (dsimp only; omega)⟩) ?_) | (apply And.intro) | (refine Exists.intro b (And.intro ⟨rfl, rfl, by first | exact ⟨by assumption, by decide, by decide⟩⟩ ?_)) | (intro s hs; (first | (clear g1; have q : N1 = s := (hs.trans e1).symm; clear hs; subst q) | (clear g2; have q : N2 = s := (hs.trans e2).symm; clear hs; subst q) | (clear g3; have q : N3 = s := (hs.trans e3).symm; clear hs; subst q) | skip)))
 all_goals try (first | exact rfl | exact Nat.le_of_ble_eq_true rfl)
 all_goals first
  | ((first | rw [f0 (by assumption)] | rw [f1 (by assumption) (by assumption)] | rw [f2 (by assumption) (by assumption) (by rw [<- wf]; assumption)] | rw [f3 (by assumption) (by assumption) (by rw [<- wf]; assumption) (by assumption)] | rw [f4 (by assumption) (by assumption) (by rw [<- wf]; assumption) (by assumption) (by rw [<- wn]; assumption)])
     exact ⟨leF_tup ⟨leE_tl (fun j hj => by (iterate 38 (rcases j with _ | j; exact leC_int rfl)); exact absurd hj (by omega)) leC_nils, leC_int rfl, trivial⟩, rdN_le rfl⟩)
  | (rw [f5 (by assumption) (by assumption) (by rw [<- wf]; assumption) (by assumption) (by rw [<- wn]; assumption)]
     exact ⟨leF_tup ⟨leE_tl (fun j hj => by (rcases j with _ | j; exact leC_int wc); (rcases j with _ | j; exact leC_int wf); (rcases j with _ | j; exact leC_int wn); (rcases j with _ | j; exact leC_int rfl); (iterate 34 (rcases j with _ | j; exact leC_int rfl)); exact absurd hj (by omega)) leC_nils, leC_int rfl, trivial⟩, rdN_le rfl⟩)
  | skip
theorem fields_102 (b : List Int) (q : Int) (hr : RdOk b q) : MethOk Try.prog 99 [(cI .i64).enc 102] (rdN true b q) (encRH (fieldsD b 102 q).1) (rdN true b (fieldsD b 102 q).2) := by
 obtain ⟨W, hW⟩ : ∃ W, fieldsD b 102 q = W := ⟨_, rfl⟩
 have eW : W = (if (numF b q 1).1.2 = 0 then (if (numF b (numF b q 1).2 3).1.2 = 0 then (if 1048575 < (numF b (numF b q 1).2 3).1.1 then ((zeroH, 5), (numF b (numF b q 1).2 3).2) else ((⟨(numF b q 1).1.1, (numF b (numF b q 1).2 3).1.1, 17, 64, zeroA, zeroA, 0, 0⟩, 0), (numF b (numF b q 1).2 3).2)) else ((zeroH, (numF b (numF b q 1).2 3).1.2), (numF b (numF b q 1).2 3).2)) else ((zeroH, (numF b q 1).1.2), (numF b q 1).2)) := by
  rw [<- hW]
  simp (decide := true) only [fieldsD, thenD, hopV, if_true, if_false, true_and, and_true, false_and]
 rw [hW]
 clear hW
 have v1 := num1_v (q := q) hr.bl
 have r1 := num_ok (n := 1) hr
 obtain ⟨N1, e1⟩ : ∃ x, numF b q 1 = x := ⟨_, rfl⟩
 rw [e1] at v1 r1 eW
 have v2 := num3_v (q := N1.2) hr.bl
 have r2 := num_ok (n := 3) r1
 obtain ⟨N2, e2⟩ : ∃ x, numF b N1.2 3 = x := ⟨_, rfl⟩
 rw [e2] at v2 r2 eW
 have wc : IntKind.u8.wrap N1.1.1 = N1.1.1 := IntWalk.u8_in _ (by omega)
 have wf : IntKind.u32.wrap N2.1.1 = N2.1.1 := IntWalk.u32_in _ (by omega)
 have f0 : (¬ N1.1.2 = 0) -> W = ((zeroH, N1.1.2), N1.2) := fun h0 => by rw [eW, if_neg h0]
 have f1 : (N1.1.2 = 0) -> (¬ N2.1.2 = 0) -> W = ((zeroH, N2.1.2), N2.2) := fun h0 h1 => by rw [eW, if_pos h0, if_neg h1]
 have f2 : (N1.1.2 = 0) -> (N2.1.2 = 0) -> (1048575 < N2.1.1) -> W = ((zeroH, 5), N2.2) := fun h0 h1 h2 => by rw [eW, if_pos h0, if_pos h1, if_pos h2]
 have f3 : (N1.1.2 = 0) -> (N2.1.2 = 0) -> (¬ 1048575 < N2.1.1) -> W = ((⟨N1.1.1, N2.1.1, 17, 64, zeroA, zeroA, 0, 0⟩, 0), N2.2) := fun h0 h1 h2 => by rw [eW, if_pos h0, if_pos h1, if_neg h2]
 clear eW
 have g1 : True := trivial
 have g2 : True := trivial
 refine meth_intro (wd := 64) (Q := mkQ LRd1) (by decide) tysOk (q_of LRd1_ok) mixed Try.func99 rfl _ (by show 1 + 1 <= _; decide) (flatF_nff (encRH_flat _)) (rdN_nf) ?_
 repeat' (first | (apply And.intro <;> intro hc <;> (first | exact Bool.noConfusion hc | (exfalso; first | exact absurd hc (by decide) | exact absurd rfl hc | exact absurd hc (by assumption) | exact absurd (by assumption) hc) | (simp only [zb0, ne_eq, not_true_eq_false] at hc <;> first | exact absurd rfl hc | (exfalso; first | exact absurd hc (by decide) | exact absurd rfl hc | exact absurd hc (by assumption) | exact absurd (by assumption) hc) | skip) | skip)) | (refine And.intro (by first | exact trivial | decide | omega | (dsimp only; omega) | exact fun _ _ => rfl | exact ⟨by assumption, by first | exact trivial | decide | omega | (dsimp only; omega)⟩) ?_) | (apply And.intro) | (refine Exists.intro b (And.intro ⟨rfl, rfl, by first | exact ⟨by assumption, by decide, by decide⟩⟩ ?_)) | (intro s hs; (first | (clear g1; have q : N1 = s := (hs.trans e1).symm; clear hs; subst q) | (clear g2; have q : N2 = s := (hs.trans e2).symm; clear hs; subst q) | skip)))
 all_goals try (first | exact rfl | exact Nat.le_of_ble_eq_true rfl)
 all_goals first
  | ((first | rw [f0 (by assumption)] | rw [f1 (by assumption) (by assumption)] | rw [f2 (by assumption) (by assumption) (by rw [<- wf]; assumption)])
     exact ⟨leF_tup ⟨leE_tl (fun j hj => by (iterate 38 (rcases j with _ | j; exact leC_int rfl)); exact absurd hj (by omega)) leC_nils, leC_int rfl, trivial⟩, rdN_le rfl⟩)
  | (rw [f3 (by assumption) (by assumption) (by rw [<- wf]; assumption)]
     exact ⟨leF_tup ⟨leE_tl (fun j hj => by (rcases j with _ | j; exact leC_int wc); (rcases j with _ | j; exact leC_int wf); (rcases j with _ | j; exact leC_int rfl); (rcases j with _ | j; exact leC_int rfl); (iterate 34 (rcases j with _ | j; exact leC_int rfl)); exact absurd hj (by omega)) leC_nils, leC_int rfl, trivial⟩, rdN_le rfl⟩)
  | skip
theorem fields_106 (b : List Int) (q : Int) (hr : RdOk b q) : MethOk Try.prog 99 [(cI .i64).enc 106] (rdN true b q) (encRH (fieldsD b 106 q).1) (rdN true b (fieldsD b 106 q).2) := by
 obtain ⟨W, hW⟩ : ∃ W, fieldsD b 106 q = W := ⟨_, rfl⟩
 have eW : W = (if (numF b q 3).1.2 = 0 then (if 1048575 < (numF b q 3).1.1 then ((zeroH, 5), (numF b q 3).2) else (if (numF b (numF b q 3).2 1).1.2 = 0 then (if (numF b (numF b q 3).2 1).1.1 = 17 then ((zeroH, 5), (numF b (numF b q 3).2 1).2) else ((⟨0, (numF b q 3).1.1, (numF b (numF b q 3).2 1).1.1, 64, zeroA, zeroA, 0, 0⟩, 0), (numF b (numF b q 3).2 1).2)) else ((zeroH, (numF b (numF b q 3).2 1).1.2), (numF b (numF b q 3).2 1).2))) else ((zeroH, (numF b q 3).1.2), (numF b q 3).2)) := by
  rw [<- hW]
  simp (decide := true) only [fieldsD, thenD, hopV, if_true, if_false, true_and, and_true, false_and]
 rw [hW]
 clear hW
 have v1 := num3_v (q := q) hr.bl
 have r1 := num_ok (n := 3) hr
 obtain ⟨N1, e1⟩ : ∃ x, numF b q 3 = x := ⟨_, rfl⟩
 rw [e1] at v1 r1 eW
 have v2 := num1_v (q := N1.2) hr.bl
 have r2 := num_ok (n := 1) r1
 obtain ⟨N2, e2⟩ : ∃ x, numF b N1.2 1 = x := ⟨_, rfl⟩
 rw [e2] at v2 r2 eW
 have wf : IntKind.u32.wrap N1.1.1 = N1.1.1 := IntWalk.u32_in _ (by omega)
 have wn : IntKind.u8.wrap N2.1.1 = N2.1.1 := IntWalk.u8_in _ (by omega)
 have f0 : (¬ N1.1.2 = 0) -> W = ((zeroH, N1.1.2), N1.2) := fun h0 => by rw [eW, if_neg h0]
 have f1 : (N1.1.2 = 0) -> (1048575 < N1.1.1) -> W = ((zeroH, 5), N1.2) := fun h0 h1 => by rw [eW, if_pos h0, if_pos h1]
 have f2 : (N1.1.2 = 0) -> (¬ 1048575 < N1.1.1) -> (¬ N2.1.2 = 0) -> W = ((zeroH, N2.1.2), N2.2) := fun h0 h1 h2 => by rw [eW, if_pos h0, if_neg h1, if_neg h2]
 have f3 : (N1.1.2 = 0) -> (¬ 1048575 < N1.1.1) -> (N2.1.2 = 0) -> (N2.1.1 = 17) -> W = ((zeroH, 5), N2.2) := fun h0 h1 h2 h3 => by rw [eW, if_pos h0, if_neg h1, if_pos h2, if_pos h3]
 have f4 : (N1.1.2 = 0) -> (¬ 1048575 < N1.1.1) -> (N2.1.2 = 0) -> (¬ N2.1.1 = 17) -> W = ((⟨0, N1.1.1, N2.1.1, 64, zeroA, zeroA, 0, 0⟩, 0), N2.2) := fun h0 h1 h2 h3 => by rw [eW, if_pos h0, if_neg h1, if_pos h2, if_neg h3]
 clear eW
 have g1 : True := trivial
 have g2 : True := trivial
 refine meth_intro (wd := 64) (Q := mkQ LRd1) (by decide) tysOk (q_of LRd1_ok) mixed Try.func99 rfl _ (by show 1 + 1 <= _; decide) (flatF_nff (encRH_flat _)) (rdN_nf) ?_
 repeat' (first | (apply And.intro <;> intro hc <;> (first | exact Bool.noConfusion hc | (exfalso; first | exact absurd hc (by decide) | exact absurd rfl hc | exact absurd hc (by assumption) | exact absurd (by assumption) hc) | (simp only [zb0, ne_eq, not_true_eq_false] at hc <;> first | exact absurd rfl hc | (exfalso; first | exact absurd hc (by decide) | exact absurd rfl hc | exact absurd hc (by assumption) | exact absurd (by assumption) hc) | skip) | skip)) | (refine And.intro (by first | exact trivial | decide | omega | (dsimp only; omega) | exact fun _ _ => rfl | exact ⟨by assumption, by first | exact trivial | decide | omega | (dsimp only; omega)⟩) ?_) | (apply And.intro) | (refine Exists.intro b (And.intro ⟨rfl, rfl, by first | exact ⟨by assumption, by decide, by decide⟩⟩ ?_)) | (intro s hs; (first | (clear g1; have q : N1 = s := (hs.trans e1).symm; clear hs; subst q) | (clear g2; have q : N2 = s := (hs.trans e2).symm; clear hs; subst q) | skip)))
 all_goals try (first | exact rfl | exact Nat.le_of_ble_eq_true rfl)
 all_goals first
  | ((first | rw [f0 (by assumption)] | rw [f1 (by assumption) (by rw [<- wf]; assumption)] | rw [f2 (by assumption) (by rw [<- wf]; assumption) (by assumption)] | rw [f3 (by assumption) (by rw [<- wf]; assumption) (by assumption) (by rw [<- wn]; assumption)])
     exact ⟨leF_tup ⟨leE_tl (fun j hj => by (iterate 38 (rcases j with _ | j; exact leC_int rfl)); exact absurd hj (by omega)) leC_nils, leC_int rfl, trivial⟩, rdN_le rfl⟩)
  | (rw [f4 (by assumption) (by rw [<- wf]; assumption) (by assumption) (by rw [<- wn]; assumption)]
     exact ⟨leF_tup ⟨leE_tl (fun j hj => by (rcases j with _ | j; exact leC_int rfl); (rcases j with _ | j; exact leC_int wf); (rcases j with _ | j; exact leC_int wn); (rcases j with _ | j; exact leC_int rfl); (iterate 34 (rcases j with _ | j; exact leC_int rfl)); exact absurd hj (by omega)) leC_nils, leC_int rfl, trivial⟩, rdN_le rfl⟩)
  | skip
theorem fields_110 (b : List Int) (q : Int) (hr : RdOk b q) : MethOk Try.prog 99 [(cI .i64).enc 110] (rdN true b q) (encRH (fieldsD b 110 q).1) (rdN true b (fieldsD b 110 q).2) := by
 obtain ⟨W, hW⟩ : ∃ W, fieldsD b 110 q = W := ⟨_, rfl⟩
 have eW : W = (if (numF b q 3).1.2 = 0 then (if 1048575 < (numF b q 3).1.1 then ((zeroH, 5), (numF b q 3).2) else ((⟨0, (numF b q 3).1.1, 17, 64, zeroA, zeroA, 0, 0⟩, 0), (numF b q 3).2)) else ((zeroH, (numF b q 3).1.2), (numF b q 3).2)) := by
  rw [<- hW]
  simp (decide := true) only [fieldsD, thenD, hopV, if_true, if_false, true_and, and_true, false_and]
 rw [hW]
 clear hW
 have v1 := num3_v (q := q) hr.bl
 have r1 := num_ok (n := 3) hr
 obtain ⟨N1, e1⟩ : ∃ x, numF b q 3 = x := ⟨_, rfl⟩
 rw [e1] at v1 r1 eW
 have wf : IntKind.u32.wrap N1.1.1 = N1.1.1 := IntWalk.u32_in _ (by omega)
 have f0 : (¬ N1.1.2 = 0) -> W = ((zeroH, N1.1.2), N1.2) := fun h0 => by rw [eW, if_neg h0]
 have f1 : (N1.1.2 = 0) -> (1048575 < N1.1.1) -> W = ((zeroH, 5), N1.2) := fun h0 h1 => by rw [eW, if_pos h0, if_pos h1]
 have f2 : (N1.1.2 = 0) -> (¬ 1048575 < N1.1.1) -> W = ((⟨0, N1.1.1, 17, 64, zeroA, zeroA, 0, 0⟩, 0), N1.2) := fun h0 h1 => by rw [eW, if_pos h0, if_neg h1]
 clear eW
 have g1 : True := trivial
 refine meth_intro (wd := 64) (Q := mkQ LRd1) (by decide) tysOk (q_of LRd1_ok) mixed Try.func99 rfl _ (by show 1 + 1 <= _; decide) (flatF_nff (encRH_flat _)) (rdN_nf) ?_
 repeat' (first | (apply And.intro <;> intro hc <;> (first | exact Bool.noConfusion hc | (exfalso; first | exact absurd hc (by decide) | exact absurd rfl hc | exact absurd hc (by assumption) | exact absurd (by assumption) hc) | (simp only [zb0, ne_eq, not_true_eq_false] at hc <;> first | exact absurd rfl hc | (exfalso; first | exact absurd hc (by decide) | exact absurd rfl hc | exact absurd hc (by assumption) | exact absurd (by assumption) hc) | skip) | skip)) | (refine And.intro (by first | exact trivial | decide | omega | (dsimp only; omega) | exact fun _ _ => rfl | exact ⟨by assumption, by first | exact trivial | decide | omega | (dsimp only; omega)⟩) ?_) | (apply And.intro) | (refine Exists.intro b (And.intro ⟨rfl, rfl, by first | exact ⟨by assumption, by decide, by decide⟩⟩ ?_)) | (intro s hs; (first | (clear g1; have q : N1 = s := (hs.trans e1).symm; clear hs; subst q) | skip)))
 all_goals try (first | exact rfl | exact Nat.le_of_ble_eq_true rfl)
 all_goals first
  | ((first | rw [f0 (by assumption)] | rw [f1 (by assumption) (by rw [<- wf]; assumption)])
     exact ⟨leF_tup ⟨leE_tl (fun j hj => by (iterate 38 (rcases j with _ | j; exact leC_int rfl)); exact absurd hj (by omega)) leC_nils, leC_int rfl, trivial⟩, rdN_le rfl⟩)
  | (rw [f2 (by assumption) (by rw [<- wf]; assumption)]
     exact ⟨leF_tup ⟨leE_tl (fun j hj => by (rcases j with _ | j; exact leC_int rfl); (rcases j with _ | j; exact leC_int wf); (rcases j with _ | j; exact leC_int rfl); (rcases j with _ | j; exact leC_int rfl); (iterate 34 (rcases j with _ | j; exact leC_int rfl)); exact absurd hj (by omega)) leC_nils, leC_int rfl, trivial⟩, rdN_le rfl⟩)
  | skip
theorem fields_114 (b : List Int) (q : Int) (hr : RdOk b q) : MethOk Try.prog 99 [(cI .i64).enc 114] (rdN true b q) (encRH (fieldsD b 114 q).1) (rdN true b (fieldsD b 114 q).2) := by
 obtain ⟨W, hW⟩ : ∃ W, fieldsD b 114 q = W := ⟨_, rfl⟩
 have eW : W = (if (numF b q 1).1.2 = 0 then (if (numF b (numF b q 1).2 1).1.2 = 0 then (if (numF b (numF b q 1).2 1).1.1 = 17 then ((zeroH, 5), (numF b (numF b q 1).2 1).2) else ((⟨(numF b q 1).1.1, 0, (numF b (numF b q 1).2 1).1.1, 64, zeroA, zeroA, 0, 0⟩, 0), (numF b (numF b q 1).2 1).2)) else ((zeroH, (numF b (numF b q 1).2 1).1.2), (numF b (numF b q 1).2 1).2)) else ((zeroH, (numF b q 1).1.2), (numF b q 1).2)) := by
  rw [<- hW]
  simp (decide := true) only [fieldsD, thenD, hopV, if_true, if_false, true_and, and_true, false_and]
 rw [hW]
 clear hW
 have v1 := num1_v (q := q) hr.bl
 have r1 := num_ok (n := 1) hr
 obtain ⟨N1, e1⟩ : ∃ x, numF b q 1 = x := ⟨_, rfl⟩
 rw [e1] at v1 r1 eW
 have v2 := num1_v (q := N1.2) hr.bl
 have r2 := num_ok (n := 1) r1
 obtain ⟨N2, e2⟩ : ∃ x, numF b N1.2 1 = x := ⟨_, rfl⟩
 rw [e2] at v2 r2 eW
 have wc : IntKind.u8.wrap N1.1.1 = N1.1.1 := IntWalk.u8_in _ (by omega)
 have wn : IntKind.u8.wrap N2.1.1 = N2.1.1 := IntWalk.u8_in _ (by omega)
 have f0 : (¬ N1.1.2 = 0) -> W = ((zeroH, N1.1.2), N1.2) := fun h0 => by rw [eW, if_neg h0]
 have f1 : (N1.1.2 = 0) -> (¬ N2.1.2 = 0) -> W = ((zeroH, N2.1.2), N2.2) := fun h0 h1 => by rw [eW, if_pos h0, if_neg h1]
 have f2 : (N1.1.2 = 0) -> (N2.1.2 = 0) -> (N2.1.1 = 17) -> W = ((zeroH, 5), N2.2) := fun h0 h1 h2 => by rw [eW, if_pos h0, if_pos h1, if_pos h2]
 have f3 : (N1.1.2 = 0) -> (N2.1.2 = 0) -> (¬ N2.1.1 = 17) -> W = ((⟨N1.1.1, 0, N2.1.1, 64, zeroA, zeroA, 0, 0⟩, 0), N2.2) := fun h0 h1 h2 => by rw [eW, if_pos h0, if_pos h1, if_neg h2]
 clear eW
 have g1 : True := trivial
 have g2 : True := trivial
 refine meth_intro (wd := 64) (Q := mkQ LRd1) (by decide) tysOk (q_of LRd1_ok) mixed Try.func99 rfl _ (by show 1 + 1 <= _; decide) (flatF_nff (encRH_flat _)) (rdN_nf) ?_
 repeat' (first | (apply And.intro <;> intro hc <;> (first | exact Bool.noConfusion hc | (exfalso; first | exact absurd hc (by decide) | exact absurd rfl hc | exact absurd hc (by assumption) | exact absurd (by assumption) hc) | (simp only [zb0, ne_eq, not_true_eq_false] at hc <;> first | exact absurd rfl hc | (exfalso; first | exact absurd hc (by decide) | exact absurd rfl hc | exact absurd hc (by assumption) | exact absurd (by assumption) hc) | skip) | skip)) | (refine And.intro (by first | exact trivial | decide | omega | (dsimp only; omega) | exact fun _ _ => rfl | exact ⟨by assumption, by first | exact trivial | decide | omega | (dsimp only; omega)⟩) ?_) | (apply And.intro) | (refine Exists.intro b (And.intro ⟨rfl, rfl, by first | exact ⟨by assumption, by decide, by decide⟩⟩ ?_)) | (intro s hs; (first | (clear g1; have q : N1 = s := (hs.trans e1).symm; clear hs; subst q) | (clear g2; have q : N2 = s := (hs.trans e2).symm; clear hs; subst q) | skip)))
 all_goals try (first | exact rfl | exact Nat.le_of_ble_eq_true rfl)
 all_goals first
  | ((first | rw [f0 (by assumption)] | rw [f1 (by assumption) (by assumption)] | rw [f2 (by assumption) (by assumption) (by rw [<- wn]; assumption)])
     exact ⟨leF_tup ⟨leE_tl (fun j hj => by (iterate 38 (rcases j with _ | j; exact leC_int rfl)); exact absurd hj (by omega)) leC_nils, leC_int rfl, trivial⟩, rdN_le rfl⟩)
  | (rw [f3 (by assumption) (by assumption) (by rw [<- wn]; assumption)]
     exact ⟨leF_tup ⟨leE_tl (fun j hj => by (rcases j with _ | j; exact leC_int wc); (rcases j with _ | j; exact leC_int rfl); (rcases j with _ | j; exact leC_int wn); (rcases j with _ | j; exact leC_int rfl); (iterate 34 (rcases j with _ | j; exact leC_int rfl)); exact absurd hj (by omega)) leC_nils, leC_int rfl, trivial⟩, rdN_le rfl⟩)
  | skip
theorem fields_118 (b : List Int) (q : Int) (hr : RdOk b q) : MethOk Try.prog 99 [(cI .i64).enc 118] (rdN true b q) (encRH (fieldsD b 118 q).1) (rdN true b (fieldsD b 118 q).2) := by
 obtain ⟨W, hW⟩ : ∃ W, fieldsD b 118 q = W := ⟨_, rfl⟩
 have eW : W = (if (numF b q 1).1.2 = 0 then ((⟨(numF b q 1).1.1, 0, 17, 64, zeroA, zeroA, 0, 0⟩, 0), (numF b q 1).2) else ((zeroH, (numF b q 1).1.2), (numF b q 1).2)) := by
  rw [<- hW]
  simp (decide := true) only [fieldsD, thenD, hopV, if_true, if_false, true_and, and_true, false_and]
 rw [hW]
 clear hW
 have v1 := num1_v (q := q) hr.bl
 have r1 := num_ok (n := 1) hr
 obtain ⟨N1, e1⟩ : ∃ x, numF b q 1 = x := ⟨_, rfl⟩
 rw [e1] at v1 r1 eW
 have wc : IntKind.u8.wrap N1.1.1 = N1.1.1 := IntWalk.u8_in _ (by omega)
 have f0 : (¬ N1.1.2 = 0) -> W = ((zeroH, N1.1.2), N1.2) := fun h0 => by rw [eW, if_neg h0]
 have f1 : (N1.1.2 = 0) -> W = ((⟨N1.1.1, 0, 17, 64, zeroA, zeroA, 0, 0⟩, 0), N1.2) := fun h0 => by rw [eW, if_pos h0]
 clear eW
 have g1 : True := trivial
 refine meth_intro (wd := 64) (Q := mkQ LRd1) (by decide) tysOk (q_of LRd1_ok) mixed Try.func99 rfl _ (by show 1 + 1 <= _; decide) (flatF_nff (encRH_flat _)) (rdN_nf) ?_
 repeat' (first | (apply And.intro <;> intro hc <;> (first | exact Bool.noConfusion hc | (exfalso; first | exact absurd hc (by decide) | exact absurd rfl hc | exact absurd hc (by assumption) | exact absurd (by assumption) hc) | (simp only [zb0, ne_eq, not_true_eq_false] at hc <;> first | exact absurd rfl hc | (exfalso; first | exact absurd hc (by decide) | exact absurd rfl hc | exact absurd hc (by assumption) | exact absurd (by assumption) hc) | skip) | skip)) | (refine And.intro (by first | exact trivial | decide | omega | (dsimp only; omega) | exact fun _ _ => rfl | exact ⟨by assumption, by first | exact trivial | decide | omega | (dsimp only; omega)⟩) ?_) | (apply And.intro) | (refine Exists.intro b (And.intro ⟨rfl, rfl, by first | exact ⟨by assumption, by decide, by decide⟩⟩ ?_)) | (intro s hs; (first | (clear g1; have q : N1 = s := (hs.trans e1).symm; clear hs; subst q) | skip)))
 all_goals try (first | exact rfl | exact Nat.le_of_ble_eq_true rfl)
 all_goals first
  | (rw [f0 (by assumption)]
     exact ⟨leF_tup ⟨leE_tl (fun j hj => by (iterate 38 (rcases j with _ | j; exact leC_int rfl)); exact absurd hj (by omega)) leC_nils, leC_int rfl, trivial⟩, rdN_le rfl⟩)
  | (rw [f1 (by assumption)]
     exact ⟨leF_tup ⟨leE_tl (fun j hj => by (rcases j with _ | j; exact leC_int wc); (rcases j with _ | j; exact leC_int rfl); (rcases j with _ | j; exact leC_int rfl); (rcases j with _ | j; exact leC_int rfl); (iterate 34 (rcases j with _ | j; exact leC_int rfl)); exact absurd hj (by omega)) leC_nils, leC_int rfl, trivial⟩, rdN_le rfl⟩)
  | skip
theorem fields_122 (b : List Int) (q : Int) (hr : RdOk b q) : MethOk Try.prog 99 [(cI .i64).enc 122] (rdN true b q) (encRH (fieldsD b 122 q).1) (rdN true b (fieldsD b 122 q).2) := by
 obtain ⟨W, hW⟩ : ∃ W, fieldsD b 122 q = W := ⟨_, rfl⟩
 have eW : W = (if (numF b q 1).1.2 = 0 then (if (numF b q 1).1.1 = 17 then ((zeroH, 5), (numF b q 1).2) else ((⟨0, 0, (numF b q 1).1.1, 64, zeroA, zeroA, 0, 0⟩, 0), (numF b q 1).2)) else ((zeroH, (numF b q 1).1.2), (numF b q 1).2)) := by
  rw [<- hW]
  simp (decide := true) only [fieldsD, thenD, hopV, if_true, if_false, true_and, and_true, false_and]
 rw [hW]
 clear hW
 have v1 := num1_v (q := q) hr.bl
 have r1 := num_ok (n := 1) hr
 obtain ⟨N1, e1⟩ : ∃ x, numF b q 1 = x := ⟨_, rfl⟩
 rw [e1] at v1 r1 eW
 have wn : IntKind.u8.wrap N1.1.1 = N1.1.1 := IntWalk.u8_in _ (by omega)
 have f0 : (¬ N1.1.2 = 0) -> W = ((zeroH, N1.1.2), N1.2) := fun h0 => by rw [eW, if_neg h0]
 have f1 : (N1.1.2 = 0) -> (N1.1.1 = 17) -> W = ((zeroH, 5), N1.2) := fun h0 h1 => by rw [eW, if_pos h0, if_pos h1]
 have f2 : (N1.1.2 = 0) -> (¬ N1.1.1 = 17) -> W = ((⟨0, 0, N1.1.1, 64, zeroA, zeroA, 0, 0⟩, 0), N1.2) := fun h0 h1 => by rw [eW, if_pos h0, if_neg h1]
 clear eW
 have g1 : True := trivial
 refine meth_intro (wd := 64) (Q := mkQ LRd1) (by decide) tysOk (q_of LRd1_ok) mixed Try.func99 rfl _ (by show 1 + 1 <= _; decide) (flatF_nff (encRH_flat _)) (rdN_nf) ?_
 repeat' (first | (apply And.intro <;> intro hc <;> (first | exact Bool.noConfusion hc | (exfalso; first | exact absurd hc (by decide) | exact absurd rfl hc | exact absurd hc (by assumption) | exact absurd (by assumption) hc) | (simp only [zb0, ne_eq, not_true_eq_false] at hc <;> first | exact absurd rfl hc | (exfalso; first | exact absurd hc (by decide) | exact absurd rfl hc | exact absurd hc (by assumption) | exact absurd (by assumption) hc) | skip) | skip)) | (refine And.intro (by first | exact trivial | decide | omega | (dsimp only; omega) | exact fun _ _ => rfl | exact ⟨by assumption, by first | exact trivial | decide | omega | (dsimp only; omega)⟩) ?_) | (apply And.intro) | (refine Exists.intro b (And.intro ⟨rfl, rfl, by first | exact ⟨by assumption, by decide, by decide⟩⟩ ?_)) | (intro s hs; (first | (clear g1; have q : N1 = s := (hs.trans e1).symm; clear hs; subst q) | skip)))
 all_goals try (first | exact rfl | exact Nat.le_of_ble_eq_true rfl)
 all_goals first
  | ((first | rw [f0 (by assumption)] | rw [f1 (by assumption) (by rw [<- wn]; assumption)])
     exact ⟨leF_tup ⟨leE_tl (fun j hj => by (iterate 38 (rcases j with _ | j; exact leC_int rfl)); exact absurd hj (by omega)) leC_nils, leC_int rfl, trivial⟩, rdN_le rfl⟩)
  | (rw [f2 (by assumption) (by rw [<- wn]; assumption)]
     exact ⟨leF_tup ⟨leE_tl (fun j hj => by (rcases j with _ | j; exact leC_int rfl); (rcases j with _ | j; exact leC_int rfl); (rcases j with _ | j; exact leC_int wn); (rcases j with _ | j; exact leC_int rfl); (iterate 34 (rcases j with _ | j; exact leC_int rfl)); exact absurd hj (by omega)) leC_nils, leC_int rfl, trivial⟩, rdN_le rfl⟩)
  | skip
theorem fields_126 (b : List Int) (q : Int) (hr : RdOk b q) : MethOk Try.prog 99 [(cI .i64).enc 126] (rdN true b q) (encRH (fieldsD b 126 q).1) (rdN true b (fieldsD b 126 q).2) := by
 obtain ⟨W, hW⟩ : ∃ W, fieldsD b 126 q = W := ⟨_, rfl⟩
 have eW : W = ((⟨0, 0, 17, 64, zeroA, zeroA, 0, 0⟩, 0), q) := by
  rw [<- hW]
  simp (decide := true) only [fieldsD, thenD, hopV, if_true, if_false, true_and, and_true, false_and]
 rw [hW]
 clear hW
 have f0 : W = ((⟨0, 0, 17, 64, zeroA, zeroA, 0, 0⟩, 0), q) := eW
 clear eW
 refine meth_intro (wd := 64) (Q := mkQ LRd1) (by decide) tysOk (q_of LRd1_ok) mixed Try.func99 rfl _ (by show 1 + 1 <= _; decide) (flatF_nff (encRH_flat _)) (rdN_nf) ?_
 repeat' (first | (apply And.intro <;> intro hc <;> (first | exact Bool.noConfusion hc | (exfalso; first | exact absurd hc (by decide) | exact absurd rfl hc | exact absurd hc (by assumption) | exact absurd (by assumption) hc) | (simp only [zb0, ne_eq, not_true_eq_false] at hc <;> first | exact absurd rfl hc | (exfalso; first | exact absurd hc (by decide) | exact absurd rfl hc | exact absurd hc (by assumption) | exact absurd (by assumption) hc) | skip) | skip)) | (refine And.intro (by first | exact trivial | decide | omega | (dsimp only; omega) | exact fun _ _ => rfl | exact ⟨by assumption, by first | exact trivial | decide | omega | (dsimp only; omega)⟩) ?_) | (apply And.intro) | (refine Exists.intro b (And.intro ⟨rfl, rfl, by first | exact ⟨by assumption, by decide, by decide⟩⟩ ?_)) | (intro s hs; (first  | skip)))
 all_goals try (first | exact rfl | exact Nat.le_of_ble_eq_true rfl)
 all_goals first
  | (rw [f0 ]
     exact ⟨leF_tup ⟨leE_tl (fun j hj => by (rcases j with _ | j; exact leC_int rfl); (rcases j with _ | j; exact leC_int rfl); (rcases j with _ | j; exact leC_int rfl); (rcases j with _ | j; exact leC_int rfl); (iterate 34 (rcases j with _ | j; exact leC_int rfl)); exact absurd hj (by omega)) leC_nils, leC_int rfl, trivial⟩, rdN_le rfl⟩)
  | skip
end Go.Proofs.Ytjknkfjhcapocaa.AX
