/- Texts of one's own in one file: DiO, DiO2, DiO3, DiO4, DiO5, DiO6, DiE2, DiD, Tp5, DiM, DiK, DiK2, Dt, DiR2, DiT, BNs, DiU, DiX, DiY, DiZ, DiZ2, DiL, DiC, DiZ3. -/
import Derived.Test.YthbhidfohdipnaaJDiscoveryFormsd
import Derived.Test.YthbhidfohdipnaaJDiscoveryFormsa
import Derived.Test.YthbhidfohdipnaaJDiscoveryFormsc
/- Layer 20 by AX2: what the program's Decode calls. -/
namespace Go.Proofs.Ythbhidfohdipnaa.AX
open Go.RowKit
set_option linter.unusedVariables false
set_option linter.unusedSimpArgs false
def inD (wi : Nat) (L : CsL) (F : Func) : Entry := inlE T (mkQ L) wi F.ntmps F.results.toList (F.body.getD Code.ret)
def LDo : CsL := (72, some (inD 1 LDn Try.f72)) :: (73, some (inD 1 LDn Try.f73)) :: (74, some (inD 1 LDn Try.f74)) :: (75, some (inD 1 LDn Try.f75)) :: (76, some (inD 1 LDn Try.f76)) :: (77, some (inD 1 LDn Try.f77)) :: []
theorem LDo_ok : AllOk Try.prog LDo :=
  ⟨inlE_ok (by decide) tysOk (q_of LDn_ok) (mono_of LDn_ok) mixed Try.func72 rfl rfl, inlE_ok (by decide) tysOk (q_of LDn_ok) (mono_of LDn_ok) mixed Try.func73 rfl rfl, inlE_ok (by decide) tysOk (q_of LDn_ok) (mono_of LDn_ok) mixed Try.func74 rfl rfl,
   inlE_ok (by decide) tysOk (q_of LDn_ok) (mono_of LDn_ok) mixed Try.func75 rfl rfl, inlE_ok (by decide) tysOk (q_of LDn_ok) (mono_of LDn_ok) mixed Try.func76 rfl rfl, inlE_ok (by decide) tysOk (q_of LDn_ok) (mono_of LDn_ok) mixed Try.func77 rfl rfl, trivial⟩
def LDd : CsL := (11, some dencE) :: (50, some beqE) :: (47, some uintE) :: (17, some dsumE) :: (30, some layE) :: (48, some (inD 1 LDn Try.f48)) :: (49, some (inD 64 LDo Try.f49)) :: []
theorem LDd_ok : AllOk Try.prog LDd :=
  ⟨dencE_ok, beqE_ok, ouintE_ok, (LDs_ok).1, (LDv0_ok).1, inlE_ok (by decide) tysOk (q_of LDn_ok) (mono_of LDn_ok) mixed Try.func48 rfl rfl, inlE_ok (by decide) tysOk (q_of LDo_ok) (mono_of LDo_ok) mixed Try.func49 rfl rfl, trivial⟩
def encMD (r : Msg × Int) : FV := .tup [msgR r.1, .c (.int .i64 r.2)]
def zMsg (j : Nat) : CV := nth [CV.int .u8 0, .int .u8 0, .int .u16 0, .int .u8 0, .int .u8 0, .int .u8 0, .int .u8 0, .int .u8 0, .int .u8 0, .int .u8 0, .int .u8 0, .int .u8 0, .int .u8 0, .int .u8 0, .int .u8 0, .int .u8 0, .int .u8 0, .int .u8 0, .int .u8 0, .int .i64 0, .int .u16 0, .int .u64 0, .int .u64 0, .int .u8 0, .int .u8 0, .int .u16 0, .bool false, .nils, .nils, .int .u32 0, .int .u16 0, .int .u8 0, .int .u8 0, .int .u8 0, .int .u8 0, .int .u8 0, .int .u8 0, .int .u8 0, .int .u8 0, .int .u8 0, .int .u8 0, .int .u8 0, .int .u8 0, .int .u8 0, .int .u8 0, .int .u8 0, .int .u8 0, .bool false] j
theorem leF_noM {c : Wc} {g : Nat → CV} {e : Int} {n : Nat} (hn : n = 48) (hg : ∀ j, j < 48 → g j = zMsg j) : LeF c (.tup [.agg n g, .c (.int .i64 e)]) (encMD (noM, e)) := by
  refine leF_tup ⟨leE_msg hn (fun j hj => ?_) (by rw [hg 27 (by decide)]; exact leC_nils_sl rfl) (by rw [hg 28 (by decide)]; exact leC_nils_sl rfl) (fun j hj => ?_), leC_int rfl, trivial⟩
  · rw [hg j (by omega)]
    iterate 27 (rcases j with _ | j; first | exact leC_int rfl | exact leC_bool rfl)
    exact absurd hj (by omega)
  · rw [hg (29 + j) (by omega)]
    iterate 19 (rcases j with _ | j; first | exact leC_int rfl | exact leC_bool rfl)
    exact absurd hj (by omega)
theorem sum_at {s : Int} {b B : List Int} {S D src dst : Fin 16 → Int} (hs : s = sumD B S D) (h1 : B = b) (h2 : S = src) (h3 : D = dst) : s = sumD b src dst := by rw [hs, h1, h2, h3]
theorem uint_at {s : Int × Bool} {b B : List Int} (hs : s = uintF B 2 2) (h : B = b) : s = uintF b 2 2 := by rw [hs, h]
theorem lay_at {s : Lay × Bool} {t : Int} {H : Lay} {tb : Bool} (hs : s = (layF t, decide (tyOk t))) (h1 : layF t = H) (h2 : decide (tyOk t) = tb) : (H, tb) = s := by rw [hs, h1, h2]
theorem lay_sz {t : Int} (h : tyOk t) : (layF t).size = headN t := by
  unfold layF headN
  by_cases h0 : t = 133
  · subst h0; rfl
  · rw [if_neg h0]
    by_cases h1 : t = 134
    · subst h1; rfl
    · rw [if_neg h1]
      by_cases h2 : isNb t
      · rw [if_pos h2, if_neg (not_dup_nb h2), if_neg h1, if_pos h2]; rfl
      · rw [if_neg h2]
        by_cases h3 : isDup t
        · rw [if_pos h3, if_pos h3]; rfl
        · exfalso
          rcases h with h | h | h | h <;> contradiction
def slY (l : List Int) : CV := .sl false l.length eB.sz (rowF eB l)
/-- The parser's cells. -/
def pCell (m : Msg) (P C : CV) (l : List Int) (j : Nat) : CV := bif Nat.blt j 48 then msgC m.a P C m.z j else slY l
def pEnt (m : Msg) (P C : CV) (l : List Int) : Ent := ⟨98, 1, 49, true, fun _ => pCell m P C l⟩
def ipE (a : Fin 16 → Int) : Ent := ⟨24, 1, 16, true, fun _ => (eA .u8 16).cell a⟩
def zEnt : Ent := ⟨38, 1, 48, true, fun _ => zMsg⟩
def HA (b : List Int) (src dst : Fin 16 → Int) (H : Lay) (m : Msg) (_ : Unit) : Hd :=
  ⟨[(0, one (slY b)), (4, one (.ptr 0 0 0 false)), (5, one (.ptr 1 0 0 false)), (6, one (.ptr 2 0 0 false)), (10, one (.ptr 3 0 0 false)), (12, one (.ptr 4 0 0 false))],
   [(0, some (ipE src)), (1, some (ipE dst)), (2, some zEnt), (3, some ⟨81, 1, 6, true, fun _ => eLay.cell H⟩), (4, some (pEnt m .nils .nils b))], 5⟩
theorem leN_par {c : Wc} {m : Msg} {P C : CV} {l : List Int} {g : Nat → Nat → CV} {n : Nat} (hn : n = 1) (h : ∀ j, j < 48 → LeC c (g 0 j) (msgC m.a P C m.z j)) (h2 : LeC c (g 0 48) (slY l)) : LeN c ⟨98, n, 49, true, g⟩ (pEnt m P C l) := by
  subst hn
  refine leN_varA fun j hj => ?_
  unfold pCell
  by_cases h48 : j < 48
  · rw [blt_lt h48, cond_true]; exact h j h48
  · have : j = 48 := by omega
    subst this; exact h2
theorem lay_k1 {t : Int} (h1 : (layF t).owner = true) (h2 : (layF t).router = true) : False := by
  rw [lay_owner] at h1; rw [lay_router] at h2
  have h1 := of_decide_eq_true h1
  have h2 := of_decide_eq_true h2
  unfold isDup at h1; omega
theorem lay_k2 {t : Int} (h1 : (layF t).owner = true) (h2 : (layF t).target = false) : False := by
  rw [lay_owner] at h1
  rw [lay_target, h1, Bool.or_true] at h2
  cases h2
theorem lay_k3 {t : Int} (h1 : (layF t).router = true) (h2 : (layF t).target = true) : False := by
  rw [lay_router] at h1; rw [lay_target] at h2
  have h1 := of_decide_eq_true h1
  simp only [Bool.or_eq_true, decide_eq_true_eq] at h2
  unfold isDup isNb at h2; omega
theorem lay_f1 {t : Int} (h : (layF t).owner = true) : isDup t ∧ headN t = 32 := by
  rw [lay_owner] at h
  have h := of_decide_eq_true h
  exact ⟨h, if_pos h⟩
theorem lay_f3 {t : Int} (h : (layF t).router = true) : t = 134 ∧ headN t = 16 := by
  rw [lay_router] at h
  have h := of_decide_eq_true h
  subst h
  exact ⟨rfl, rfl⟩
theorem lay_f2 {t : Int} (h : (layF t).target = true) (h2 : (layF t).owner = false) : isNb t ∧ headN t = 24 := by
  rw [lay_owner] at h2
  have h2 := of_decide_eq_false h2
  rw [lay_target, decide_eq_false h2, Bool.or_false] at h
  have h := of_decide_eq_true h
  refine ⟨h, ?_⟩
  unfold headN
  rw [if_neg h2, if_neg (by unfold isNb at h; omega), if_pos h]
theorem lay_f4 {t : Int} (h1 : (layF t).owner = false) (h2 : (layF t).router = false) (h3 : (layF t).target = false) : ¬ isDup t ∧ ¬ t = 134 ∧ ¬ isNb t := by
  rw [lay_owner] at h1; rw [lay_router] at h2; rw [lay_target] at h3
  have h1 := of_decide_eq_false h1
  have h2 := of_decide_eq_false h2
  rw [decide_eq_false h1, Bool.or_false] at h3
  exact ⟨h1, h2, of_decide_eq_false h3⟩
theorem pn_at {s : Int} {b B : List Int} {q n : Int} (hs : s = (uintF B q n).1) (h : B = b) : s = (uintF b q n).1 := by rw [hs, h]
theorem pi_at {s : Fin 16 → Int} {b B : List Int} {q : Int} (hs : s = ipF B q.toNat) (h : B = b) : s = ipF b q.toNat := by rw [hs, h]
theorem w16_at {s : Int} {b : List Int} (hb : BL b) {a : Nat} (h : s = (uintF b (a : Int) 2).1) : IntKind.u16.wrap s = nmL b a 2 := by
  have h1 := nmL_r hb a 2
  have e : s = nmL b a 2 := h
  rw [e]
  exact IntWalk.u16_in _ (by omega)
theorem w32_at {s : Int} {b : List Int} (hb : BL b) {a : Nat} (h : s = (uintF b (a : Int) 4).1) : IntKind.u32.wrap s = nmL b a 4 := by
  have h1 := nmL_r hb a 4
  have e : s = nmL b a 4 := h
  rw [e]
  exact IntWalk.u32_in _ (by omega)
theorem w64_at {s : Int} {b : List Int} (hb : BL b) {a : Nat} (h : s = (uintF b (a : Int) 8).1) : IntKind.u64.wrap s = nmL b a 8 := by
  have h1 := nmL_r hb a 8
  have e : s = nmL b a 8 := h
  rw [e]
  exact IntWalk.u64_in _ (by omega)
/-! ### The options -/
structure OpS (R : Option Msg) where
  l : List Int
  m : Msg
  o : List Int
  hR : parseL l m = R
  hm : MsgR m
  hl : BL l
  hn : l.length + (m.p.length + m.c.length) ≤ 1099511627776
def enP (l : List PI) : Ent := ents ePI 76 l
def enC (l : List CI) : Ent := ents eCI 78 l
def fnC (f : Nat) : CV := .fn f 0 0 fun _ => .top
def mapL : List CV := [.int .u8 1, .int .u8 1, fnC 72, .int .u8 1, .int .u8 2, fnC 73, .int .u8 33, .int .u8 2, fnC 74,
  .int .u8 3, .int .u8 4, fnC 75, .int .u8 34, .int .u8 3, fnC 76, .int .u8 35, .int .u8 3, fnC 77]
def mapE : Ent := ⟨11, 6, 3, false, fun i j => nth mapL (3 * i + j)⟩
def layEn (H : Lay) : Ent := ⟨81, 1, 6, true, fun _ => eLay.cell H⟩
def HO (src dst : Fin 16 → Int) (H : Lay) {R : Option Msg} (s : OpS R) : Hd :=
  ⟨[(0, one (.ptr 4 0 0 false)), (3, one (.mp 9001)), (4, one (slY s.l))],
   [(0, some (ipE src)), (1, some (ipE dst)), (2, some zEnt), (3, some (layEn H)), (4, some (pEnt s.m (.os 9002 0 s.m.p.length) (.os 9003 0 s.m.c.length) s.o)), (9001, some mapE), (9002, some (enP s.m.p)), (9003, some (enC s.m.c))], 9004⟩
structure OB (b : List Int) where
  m : Msg
  o : List Int
  hP : proF b = some m
  hm : MsgR m
  hn : m.p.length + m.c.length ≤ 1099511627776
def HB (b : List Int) (src dst : Fin 16 → Int) (s : OB b) : Hd :=
  ⟨[(0, one (slY b)), (4, one (.ptr 0 0 0 false)), (5, one (.ptr 1 0 0 false)), (6, one (.ptr 2 0 0 false)), (12, one (.ptr 4 0 0 false))],
   [(0, some (ipE src)), (1, some (ipE dst)), (2, some zEnt), (4, some (pEnt s.m (.os 5 0 s.m.p.length) (.os 6 0 s.m.c.length) s.o)), (5, some (enP s.m.p)), (6, some (enC s.m.c))], 7⟩
theorem headF_p (b : List Int) : (headF b).p = [] ∧ (headF b).c = [] := by
  unfold headF
  split
  · exact ⟨rfl, rfl⟩
  · split
    · exact ⟨rfl, rfl⟩
    · split <;> exact ⟨rfl, rfl⟩
end Go.Proofs.Ythbhidfohdipnaa.AX

/- Layer 20 by AX2: one round of the loop that reads the options. -/
namespace Go.Proofs.Ythbhidfohdipnaa.AX
open Go.RowKit
set_option linter.unusedVariables false
set_option linter.unusedSimpArgs false
def dropD : Nat → Code → Code
  | n + 1, .seq _ b => dropD n b
  | _, c => c
/-- The body of the first loop. -/
def loopIn : Code → Code
  | .loop c => c
  | .block _ c => loopIn c
  | .seq a b => match loopIn a with
    | .skip => loopIn b
    | c => c
  | _ => .skip
noncomputable abbrev opC : Code := Try.f49.body.getD Code.ret
noncomputable abbrev opE (post : FV → Hp → Nat → Prop) : Kt := endH T Try.f49.results.toList post
noncomputable abbrev opK (post : FV → Hp → Nat → Prop) : Kt := blkK 0 (seqK (fun fr H nx => exec T (mkQ LDo) 64 Try.f49.ntmps 8197 (dropD 3 opC) fr H nx (opE post)) (opE post))
/-- What is asked of the code behind the loop. -/
structure OpP (src dst : Fin 16 → Int) (H : Lay) (R : Option Msg) (post : FV → Hp → Nat → Prop) : Prop where
  x : ∀ s : OpS R, s.l = [] → ∀ nf, Nat.ble nf 16389 = true → post (.e (.c (.bool true))) (HO src dst H s).H nf
  y0 : R = none → ∀ (s : OpS R) nf, Nat.ble nf 16389 = true → post (.e (.c (.bool false))) (HO src dst H s).H nf
  y1 : R = none → ∀ (s : OpS R) (e1 e2 : Option Ent) nf, Nat.ble nf 16389 = true → post (.e (.c (.bool false))) ((10156, e1) :: (10156, e2) :: (HO src dst H s).H) nf
theorem find_unk {x y : Int} (h : ¬ knownK x y) : Nat.blt (findI (fun i => eqFrom (nth [.int .u8 x, .int .u8 y]) (fun j => nth mapL (3 * i + j)) 2 0) 6 0) 6 = false := by
  have e : ∀ a b : Int, (x = a → y = b → False) → ((x == a) && ((y == b) && true)) = false := fun a b g => by
    cases h1 : x == a with
    | false => rfl
    | true => cases h2 : y == b with
      | false => rfl
      | true => exact (g (eq_of_beq h1) (eq_of_beq h2)).elim
  unfold knownK at h
  show Nat.blt (bif ((x == 1) && ((y == 1) && true)) then 0 else bif ((x == 1) && ((y == 2) && true)) then 1 else bif ((x == 33) && ((y == 2) && true)) then 2 else bif ((x == 3) && ((y == 4) && true)) then 3 else bif ((x == 34) && ((y == 3) && true)) then 4 else bif ((x == 35) && ((y == 3) && true)) then 5 else 6) 6 = false
  rw [e 1 1 (by omega), e 1 2 (by omega), e 33 2 (by omega), e 3 4 (by omega), e 34 3 (by omega), e 35 3 (by omega)]
  rfl
theorem okK {x y : Int} : ∀ i, i < 6 → okFrom (nth [.int .u8 x, .int .u8 y]) (fun j => nth mapL (3 * i + j)) [false, false] 0 = true := fun i hi => by
  iterate 6 (rcases i with _ | i; · rfl)
  exact absurd hi (by omega)
abbrev opG (src dst : Fin 16 → Int) (H : Lay) (R : Option Msg) (post : FV → Hp → Nat → Prop) (s : OpS R) : Prop :=
  exec T (mkQ LDo) 64 Try.f49.ntmps 8197 (loopIn opC) (HO src dst H s).fr (HO src dst H s).H (HO src dst H s).nx (seqK (fun fr H' _ => Goes (HO src dst H (R := R)) (fun s => s.l.length) 8197 s.l.length fr H') (opK post))
set_option maxHeartbeats 8000000 in
set_option maxRecDepth 20000 in
theorem op_nil {src dst : Fin 16 → Int} {H : Lay} {R : Option Msg} {post : FV → Hp → Nat → Prop} (hP : OpP src dst H R post) (s : OpS R) (h : s.l = []) : opG src dst H R post s := by
  have hx := hP.x s h
  obtain ⟨l, m, o, hR, hm, hl, hn⟩ := s
  dsimp only at h hx ⊢
  subst h
  repeat' (first | (apply And.intro <;> intro hc <;> (first | exact Bool.noConfusion hc | (exfalso; first | exact absurd rfl hc | exact absurd hc (by decide)) | (simp only [decide_eq_true_eq, decide_eq_false_iff_not, Bool.not_eq_true', Bool.not_eq_false', beq_iff_eq, beq_eq_false_iff_ne, bne_iff_ne, bne_eq_false_iff_eq, Bool.true_eq_false, Bool.false_eq_true, ne_eq, not_true_eq_false] at hc <;> first | exact absurd rfl hc | (exfalso; first | exact absurd rfl hc | exact absurd hc (by decide)) | skip) | skip)) | (refine And.intro (by first | exact trivial | decide | omega | (dsimp only; omega) | exact fun _ _ => rfl | exact ⟨by assumption, by first | exact trivial | decide | omega | (dsimp only; omega)⟩) ?_) | (apply And.intro) | (intro s hs; skip))
  conv => whnf
  exact hx _ rfl
set_option maxHeartbeats 8000000 in
set_option maxRecDepth 20000 in
theorem op_few {src dst : Fin 16 → Int} {H : Lay} {R : Option Msg} {post : FV → Hp → Nat → Prop} (hP : OpP src dst H R post) (s : OpS R) (h : s.l ≠ []) (h8 : s.l.length < 8) : opG src dst H R post s := by
  have hR : R = none := by
    rw [← s.hR, parseL, if_neg h, dif_neg (fun x => by omega)]
  have hx := hP.y0 hR s
  have hpos : 0 < s.l.length := List.length_pos_iff.2 h
  obtain ⟨l, m, o, hR, hm, hl, hn⟩ := s
  dsimp only at h hx h8 hpos ⊢
  repeat' (first | (apply And.intro <;> intro hc <;> (first | exact Bool.noConfusion hc | (exfalso; first | exact absurd rfl hc | exact absurd hc (by omega)) | (simp only [decide_eq_true_eq, decide_eq_false_iff_not, Bool.not_eq_true', Bool.not_eq_false', beq_iff_eq, beq_eq_false_iff_ne, bne_iff_ne, bne_eq_false_iff_eq, Bool.true_eq_false, Bool.false_eq_true, ne_eq, not_true_eq_false] at hc <;> first | exact absurd rfl hc | (exfalso; first | exact absurd rfl hc | exact absurd hc (by omega)) | skip) | skip)) | (refine And.intro (by first | exact trivial | decide | omega | (dsimp only; omega) | exact fun _ _ => rfl | exact ⟨by assumption, by first | exact trivial | decide | omega | (dsimp only; omega)⟩) ?_) | (apply And.intro) | (intro s hs; skip))
  conv => whnf
  exact hx _ rfl
set_option maxHeartbeats 8000000 in
set_option maxRecDepth 20000 in
theorem op_unk {src dst : Fin 16 → Int} {H : Lay} {R : Option Msg} {post : FV → Hp → Nat → Prop} (hP : OpP src dst H R post) (s : OpS R) (h8 : ¬ s.l.length < 8) (hk : ¬ knownK (byt s.l 0) (byt s.l 1)) : opG src dst H R post s := by
  have hR : R = none := by
    rw [← s.hR, parseL, if_neg (fun h => by rw [h] at h8; exact h8 (by decide)), dif_neg (fun x => hk x.2.1)]
  have hx := hP.y1 hR s
  obtain ⟨l, m, o, hR, hm, hl, hn⟩ := s
  dsimp only at hx h8 hk ⊢
  rcases l with _ | ⟨x, _ | ⟨y, r⟩⟩
  · exact absurd (by decide : ([] : List Int).length < 8) h8
  · exact absurd (by show 0 + 1 < 8; omega) h8
  have h6 : 6 ≤ r.length := by simp only [List.length_cons] at h8; omega
  have hu := find_unk hk
  have hO : ∀ i, i < 6 → okFrom (nth [.int .u8 x, .int .u8 y]) (fun j => nth mapL (3 * i + j)) [false, false] 0 = true := okK
  clear hk
  repeat' (first | (apply And.intro <;> intro hc <;> (first | exact Bool.noConfusion hc | (exfalso; first | exact absurd rfl hc | exact absurd hc (by omega) | exact absurd (hu.symm.trans hc) (by decide)) | (simp only [decide_eq_true_eq, decide_eq_false_iff_not, Bool.not_eq_true', Bool.not_eq_false', beq_iff_eq, beq_eq_false_iff_ne, bne_iff_ne, bne_eq_false_iff_eq, Bool.true_eq_false, Bool.false_eq_true, ne_eq, not_true_eq_false] at hc <;> first | exact absurd rfl hc | (exfalso; first | exact absurd rfl hc | exact absurd hc (by omega) | exact absurd (hu.symm.trans hc) (by decide)) | skip) | skip)) | (refine And.intro (by first | exact trivial | decide | omega | (dsimp only; omega) | exact fun _ _ => rfl | exact ⟨by assumption, by first | exact trivial | decide | omega | (dsimp only; omega)⟩) ?_) | (apply And.intro) | (intro s hs; skip))
  · exact hO s hs
  · conv => whnf
    exact hx _ _ _ rfl
end Go.Proofs.Ythbhidfohdipnaa.AX

/- Layer 20 by AX2: rounds of the loop that reads the options, one for each kind. -/
namespace Go.Proofs.Ythbhidfohdipnaa.AX
open Go.RowKit
set_option linter.unusedVariables false
set_option linter.unusedSimpArgs false
set_option maxHeartbeats 8000000 in
set_option maxRecDepth 20000 in
theorem op_cut {src dst : Fin 16 → Int} {H : Lay} {R : Option Msg} {post : FV → Hp → Nat → Prop} (hP : OpP src dst H R post) (s : OpS R) (h8 : ¬ s.l.length < 8) (hk : ¬ 8 * byt s.l 1 ≤ s.l.length) : opG src dst H R post s := by
  have hR : R = none := by
    rw [← s.hR, parseL, if_neg (fun h => by rw [h] at h8; exact h8 (by decide)), dif_neg (fun x => hk x.2.2)]
  have hx := hP.y1 hR s
  obtain ⟨l, m, o, hR, hm, hl, hn⟩ := s
  dsimp only at hx h8 hk ⊢
  rcases l with _ | ⟨x, _ | ⟨y, r⟩⟩
  · exact absurd (by decide : ([] : List Int).length < 8) h8
  · exact absurd (by show 0 + 1 < 8; omega) h8
  have hy : 0 ≤ y ∧ y < 256 := bt_r hl 1
  have hsz : IntKind.i64.wrap (IntKind.i64.wrap ((x :: y :: r).getD (Int.toNat 1) default) * 8) = 8 * y := by
    show IntKind.i64.wrap (IntKind.i64.wrap y * 8) = 8 * y
    rw [IntWalk.i64_in y (by omega), IntWalk.i64_in _ (by omega)]; omega
  have hO : ∀ i, i < 6 → okFrom (nth [.int .u8 x, .int .u8 y]) (fun j => nth mapL (3 * i + j)) [false, false] 0 = true := okK
  have hk : ((x :: y :: r).length : Int) < IntKind.i64.wrap (IntKind.i64.wrap ((x :: y :: r).getD (Int.toNat 1) default) * 8) := by
    rw [hsz]
    have h : ¬ 8 * y ≤ ((x :: y :: r).length : Int) := hk
    omega
  repeat' (first | (apply And.intro <;> intro hc <;> (first | exact Bool.noConfusion hc | (exfalso; first | exact absurd rfl hc | exact absurd hc (by omega) | exact absurd hk hc) | (simp only [decide_eq_true_eq, decide_eq_false_iff_not, Bool.not_eq_true', Bool.not_eq_false', beq_iff_eq, beq_eq_false_iff_ne, bne_iff_ne, bne_eq_false_iff_eq, Bool.true_eq_false, Bool.false_eq_true, ne_eq, not_true_eq_false] at hc <;> first | exact absurd rfl hc | (exfalso; first | exact absurd rfl hc | exact absurd hc (by omega) | exact absurd hk hc) | skip) | skip)) | (refine And.intro (by first | exact trivial | decide | omega | (dsimp only; omega) | exact fun _ _ => rfl | exact ⟨by assumption, by first | exact trivial | decide | omega | (dsimp only; omega)⟩) ?_) | (apply And.intro) | (intro s hs; skip))
  · exact hO s hs
  · conv => whnf
    exact hx _ _ _ rfl
  · conv => whnf
    exact hx _ _ _ rfl
theorem leC_fn0 {c : Wc} {f : Nat} {a b : Nat → CV} : LeC c (.fn f 0 0 a) (.fn f 0 0 b) := by
  rintro hl cx r w v st ⟨fs, cs, rfl, h1, h2, _, _⟩
  refine ⟨fs, cs, rfl, h1, h2, fun k u h => ?_, fun k u h => ?_⟩
  · have := (Array.getElem?_eq_some_iff.1 h).1; omega
  · have := (Array.getElem?_eq_some_iff.1 h).1; omega
theorem leN_map {c : Wc} : LeN c mapE mapE := leN_row rfl fun i hi j hj => by
  iterate 6 (rcases i with _ | i; · iterate 3 (rcases j with _ | j; · first | exact leC_int rfl | exact leC_fn0)
                                    exact absurd hj (by omega))
  exact absurd hi (by omega)
theorem leN_zE {c : Wc} : LeN c zEnt zEnt := leN_varA fun j hj => by
  iterate 48 (rcases j with _ | j; · first | exact leC_int rfl | exact leC_bool rfl | exact leC_nils)
  exact absurd hj (by omega)
theorem parse_go {l : List Int} {m : Msg} {R : Option Msg} {k : Nat} {y : Int} (hR : parseL l m = R) (h8 : 8 ≤ l.length) (hk : knownK (byt l 0) y) (hy : byt l 1 = y) (hky : 8 * y.toNat = k) (hle : k ≤ l.length) : parseL (l.drop k) (optF m (l.take k)) = R := by
  have hp := knownK_pos hk
  rw [← hR, parseL.eq_def l m, if_neg (fun h => by rw [h] at h8; exact absurd h8 (by decide)), dif_pos ⟨h8, by rw [hy]; exact hk, by rw [hy]; omega⟩, hy, hky]
theorem toL_tk0 (l : List Int) (n : Nat) (h : n ≤ l.length) : (toL eB n fun i => rowF eB l (0 + i)) = l.take n := by
  rw [toL_dt l 0 n (by omega)]; rfl
theorem leC_drop {H H' : Hp} {rho : List (Nat × Option Nat)} {nx : Nat} {n : Nat} (l : List Int) (a : Nat) (hn : n = l.length - a) : LeC ⟨H, H', rho, nx, false⟩ (.sl false n eB.sz fun i => rowF eB l (a + i)) (slY (l.drop a)) :=
  leC_sl (fun h => by cases h) (by rw [List.length_drop]; exact hn) rfl fun i hi j hj => by
    have e : rowF eB l (a + i) j = rowF eB (l.drop a) i j := by
      unfold rowF
      exact congrArg (fun x => eB.cell x j) (bt_drop l a i).symm
    show LeC _ (rowF eB l (a + i) j) _
    rw [e]; exact leC_cl ((eB.flat _ _).cl)
theorem leC_take {H H' : Hp} {rho : List (Nat × Option Nat)} {nx : Nat} (l : List Int) (n : Nat) (hn : n ≤ l.length) : LeC ⟨H, H', rho, nx, false⟩ (.sl false n eB.sz fun i => rowF eB l (0 + i)) (slY (l.take n)) :=
  leC_sl (fun h => by cases h) (by rw [List.length_take]; omega) rfl fun i hi j hj => by
    have e : rowF eB l (0 + i) j = rowF eB (l.take n) i j := by
      unfold rowF
      refine congrArg (fun x => eB.cell x j) ?_
      rw [Nat.zero_add, List.getD_eq_getElem?_getD, List.getD_eq_getElem?_getD, List.getElem?_take, if_pos hi]
    show LeC _ (rowF eB l (0 + i) j) _
    rw [e]; exact leC_cl ((eB.flat _ _).cl)
set_option maxHeartbeats 8000000 in
set_option maxRecDepth 20000 in
theorem op_short {src dst : Fin 16 → Int} {H : Lay} {R : Option Msg} {post : FV → Hp → Nat → Prop} (s : OpS R) (r : List Int) (e : s.l = 1 :: 1 :: r) (h6 : 6 ≤ r.length) : opG src dst H R post s := by
  obtain ⟨l, m, o, hR, hm, hl, hn⟩ := s
  dsimp only at e ⊢
  subst e
  have hlen : ((1 :: 1 :: r : List Int).length : Int) = r.length + 2 := by simp only [List.length_cons]; omega
  have hsz : IntKind.i64.wrap (IntKind.i64.wrap ((1 :: 1 :: r : List Int).getD (Int.toNat 1) default) * 8) = 8 := rfl
  have hO : ∀ i, i < 6 → okFrom (nth [.int .u8 1, .int .u8 1]) (fun j => nth mapL (3 * i + j)) [false, false] 0 = true := okK
  have hk : ¬ ((1 :: 1 :: r : List Int).length : Int) < IntKind.i64.wrap (IntKind.i64.wrap ((1 :: 1 :: r : List Int).getD (Int.toNat 1) default) * 8) := by
    rw [hsz]; omega
  repeat' (first | (apply And.intro <;> intro hc <;> (first | exact Bool.noConfusion hc | (exfalso; first | exact absurd rfl hc | exact absurd hc (by omega) | exact absurd hc hk) | (simp only [decide_eq_true_eq, decide_eq_false_iff_not, Bool.not_eq_true', Bool.not_eq_false', beq_iff_eq, beq_eq_false_iff_ne, bne_iff_ne, bne_eq_false_iff_eq, Bool.true_eq_false, Bool.false_eq_true, ne_eq, not_true_eq_false] at hc <;> first | exact absurd rfl hc | (exfalso; first | exact absurd rfl hc | exact absurd hc (by omega) | exact absurd hc hk) | skip) | skip)) | (refine And.intro (by first | exact trivial | decide | omega | (dsimp only; omega) | exact fun _ _ => rfl | exact ⟨by assumption, by first | exact trivial | decide | omega | (dsimp only; omega)⟩) ?_) | (apply And.intro) | (intro s hs; skip))
  · exact hO s hs
  · rfl
  · show BL (toL eB 8 fun i => rowF eB (1 :: 1 :: r) (0 + i)); rw [toL_tk0 _ _ (by simp only [List.length_cons]; omega)]; exact hl.take 8
  · show (toL eB 8 fun i => rowF eB (1 :: 1 :: r) (0 + i)).length ≤ _; rw [toL_len]; decide
  · rfl
  · have h8 : 8 ≤ (1 :: 1 :: r : List Int).length := by simp only [List.length_cons]; omega
    have hg := parse_go (k := 8) (y := 1) hR h8 (.inl ⟨rfl, rfl⟩) rfl rfl h8
    have hmr := optF_r hm (hl.take 8)
    have h1 : IntKind.u16.wrap s = nmL ((1 :: 1 :: r).take 8) 2 2 := w16_at (hl.take 8) (a := 2) (pn_at hs (toL_tk0 _ _ h8))
    rw [show optF m ((1 :: 1 :: r).take 8) = { m with a := { m.a with mode := 2, short := nmL ((1 :: 1 :: r).take 8) 2 2, eui := 0 } } from if_pos ⟨rfl, by rw [List.length_take]; omega⟩] at hg hmr
    refine ⟨⟨(1 :: 1 :: r).drop 8, _, (1 :: 1 :: r).take 8, hg, hmr, hl.drop 8, ?_⟩, [], ?_, rfl, ?_, ?_⟩
    · rw [List.length_drop]; dsimp only; omega
    · dsimp only; rw [List.length_drop]; omega
    · refine ⟨leF_ptr rfl, leF_c (leC_mp rfl), leF_c (leC_drop _ 8 rfl), trivial⟩
    · refine ⟨⟨rfl, leN_varA fun _ _ => (Elem.flat _ _ _).le⟩, ⟨rfl, leN_varA fun _ _ => (Elem.flat _ _ _).le⟩, ⟨rfl, leN_zE⟩, ⟨rfl, leN_lay⟩, ⟨rfl, leN_par rfl (fun j hj => ?_) (leC_take _ 8 h8)⟩, ⟨rfl, leN_map⟩, ⟨rfl, leN_ents⟩, ⟨rfl, leN_ents⟩, trivial⟩
      iterate 48 (rcases j with _ | j; · first | exact leC_int rfl | exact leC_bool rfl | exact leC_os rfl rfl | exact leC_int h1)
      exact absurd hj (by omega)
end Go.Proofs.Ythbhidfohdipnaa.AX

/- Layer 20 by AX2: rounds of the loop that reads the options, the other kinds. (Printed by gen/gko.py.) -/
namespace Go.Proofs.Ythbhidfohdipnaa.AX
open Go.RowKit
set_option linter.unusedVariables false
set_option linter.unusedSimpArgs false
set_option maxRecDepth 20000 in
theorem and15 {y : Int} (h : 0 ≤ y ∧ y < 256) : bits .and .u8 y 15 = y % 16 := by
  have key : ∀ y : Fin 256, bits .and .u8 (y.1 : Int) 15 = (y.1 : Int) % 16 := by decide
  obtain ⟨n, rfl⟩ : ∃ n : Nat, y = n := ⟨y.toNat, by omega⟩
  exact key ⟨n, by omega⟩
theorem bne_dec (x : Int) : (x != 0) = decide (x ≠ 0) := by
  by_cases h : x = 0 <;> simp [h]
set_option maxHeartbeats 8000000 in
set_option maxRecDepth 20000 in
theorem op_long {src dst : Fin 16 → Int} {H : Lay} {R : Option Msg} {post : FV → Hp → Nat → Prop} (s : OpS R) (a2 a3 a4 a5 : Int) (r : List Int) (e : s.l = 1 :: 2 :: a2 :: a3 :: a4 :: a5 :: r) (h6 : 10 ≤ r.length) : opG src dst H R post s := by
  obtain ⟨l, m, o, hR, hm, hl, hn⟩ := s
  dsimp only at e ⊢
  subst e
  have hlen : ((1 :: 2 :: a2 :: a3 :: a4 :: a5 :: r : List Int).length : Int) = r.length + 6 := by simp only [List.length_cons]; omega
  have hsz : IntKind.i64.wrap (IntKind.i64.wrap ((1 :: 2 :: a2 :: a3 :: a4 :: a5 :: r : List Int).getD (Int.toNat 1) default) * 8) = 16 := rfl
  have hO : ∀ i, i < 6 → okFrom (nth [.int .u8 1, .int .u8 2]) (fun j => nth mapL (3 * i + j)) [false, false] 0 = true := okK
  have hk : ¬ ((1 :: 2 :: a2 :: a3 :: a4 :: a5 :: r : List Int).length : Int) < IntKind.i64.wrap (IntKind.i64.wrap ((1 :: 2 :: a2 :: a3 :: a4 :: a5 :: r : List Int).getD (Int.toNat 1) default) * 8) := by
    rw [hsz]; omega
  have hz : 16 ≤ (1 :: 2 :: a2 :: a3 :: a4 :: a5 :: r : List Int).length := by simp only [List.length_cons]; omega
  have hb3 : 0 ≤ a3 ∧ a3 < 256 := bt_r hl 3
  repeat' (first | (apply And.intro <;> intro hc <;> (first | exact Bool.noConfusion hc | (exfalso; first | exact absurd rfl hc | exact absurd hc (by omega) | exact absurd hc hk) | (simp only [decide_eq_true_eq, decide_eq_false_iff_not, Bool.not_eq_true', Bool.not_eq_false', beq_iff_eq, beq_eq_false_iff_ne, bne_iff_ne, bne_eq_false_iff_eq, Bool.true_eq_false, Bool.false_eq_true, ne_eq, not_true_eq_false] at hc <;> first | exact absurd rfl hc | (exfalso; first | exact absurd rfl hc | exact absurd hc (by omega) | exact absurd hc hk) | skip) | skip)) | (refine And.intro (by first | exact trivial | decide | omega | (dsimp only; omega) | exact fun _ _ => rfl | exact ⟨by assumption, by first | exact trivial | decide | omega | (dsimp only; omega)⟩) ?_) | (apply And.intro) | (intro s hs; skip))
  · exact hO s hs
  · rfl
  · show BL (toL eB 16 fun i => rowF eB (1 :: 2 :: a2 :: a3 :: a4 :: a5 :: r) (0 + i)); rw [toL_tk0 _ _ hz]; exact hl.take 16
  · show (toL eB 16 fun i => rowF eB (1 :: 2 :: a2 :: a3 :: a4 :: a5 :: r) (0 + i)).length ≤ _; rw [toL_len]; decide
  · rfl
  · have hg := parse_go (k := 16) (y := 2) hR (by omega) (.inr (.inl ⟨rfl, rfl⟩)) rfl rfl hz
    have hmr := optF_r hm (hl.take 16)
    have h1 : IntKind.u64.wrap s = nmL ((1 :: 2 :: a2 :: a3 :: a4 :: a5 :: r).take 16) 2 8 := w64_at (hl.take 16) (a := 2) (pn_at hs (toL_tk0 _ _ hz))
    have h2 : s = nmL ((1 :: 2 :: a2 :: a3 :: a4 :: a5 :: r).take 16) 2 8 := pn_at hs (toL_tk0 _ _ hz)
    rw [show optF m ((1 :: 2 :: a2 :: a3 :: a4 :: a5 :: r).take 16) = { m with a := { m.a with mode := 3, short := 0, eui := nmL ((1 :: 2 :: a2 :: a3 :: a4 :: a5 :: r).take 16) 2 8 } } from by unfold optF; rw [if_neg (fun h => by have h := h.2; rw [List.length_take] at h; omega)]; exact if_pos rfl] at hg hmr
    refine ⟨⟨(1 :: 2 :: a2 :: a3 :: a4 :: a5 :: r).drop 16, _, (1 :: 2 :: a2 :: a3 :: a4 :: a5 :: r).take 16, hg, hmr, hl.drop 16, ?_⟩, [], ?_, rfl, ?_, ?_⟩
    · rw [List.length_drop]; dsimp only at hn ⊢; omega
    · dsimp only; rw [List.length_drop]; omega
    · refine ⟨leF_ptr rfl, leF_c (leC_mp rfl), leF_c (leC_drop _ 16 rfl), trivial⟩
    · refine ⟨⟨rfl, leN_varA fun _ _ => (Elem.flat _ _ _).le⟩, ⟨rfl, leN_varA fun _ _ => (Elem.flat _ _ _).le⟩, ⟨rfl, leN_zE⟩, ⟨rfl, leN_lay⟩, ⟨rfl, leN_par rfl (fun j hj => ?_) (leC_take _ 16 hz)⟩, ⟨rfl, leN_map⟩, ⟨rfl, leN_ents⟩, ⟨rfl, leN_ents⟩, trivial⟩
      · iterate 48 (rcases j with _ | j; · first | exact leC_int rfl | exact leC_bool rfl | exact leC_os rfl rfl | exact leC_int h1 | exact leC_int h2)
        exact absurd hj (by omega)
set_option maxHeartbeats 8000000 in
set_option maxRecDepth 20000 in
theorem op_owner {src dst : Fin 16 → Int} {H : Lay} {R : Option Msg} {post : FV → Hp → Nat → Prop} (s : OpS R) (a2 a3 a4 a5 : Int) (r : List Int) (e : s.l = 33 :: 2 :: a2 :: a3 :: a4 :: a5 :: r) (h6 : 10 ≤ r.length) : opG src dst H R post s := by
  obtain ⟨l, m, o, hR, hm, hl, hn⟩ := s
  dsimp only at e ⊢
  subst e
  have hlen : ((33 :: 2 :: a2 :: a3 :: a4 :: a5 :: r : List Int).length : Int) = r.length + 6 := by simp only [List.length_cons]; omega
  have hsz : IntKind.i64.wrap (IntKind.i64.wrap ((33 :: 2 :: a2 :: a3 :: a4 :: a5 :: r : List Int).getD (Int.toNat 1) default) * 8) = 16 := rfl
  have hO : ∀ i, i < 6 → okFrom (nth [.int .u8 33, .int .u8 2]) (fun j => nth mapL (3 * i + j)) [false, false] 0 = true := okK
  have hk : ¬ ((33 :: 2 :: a2 :: a3 :: a4 :: a5 :: r : List Int).length : Int) < IntKind.i64.wrap (IntKind.i64.wrap ((33 :: 2 :: a2 :: a3 :: a4 :: a5 :: r : List Int).getD (Int.toNat 1) default) * 8) := by
    rw [hsz]; omega
  have hz : 16 ≤ (33 :: 2 :: a2 :: a3 :: a4 :: a5 :: r : List Int).length := by simp only [List.length_cons]; omega
  have hb3 : 0 ≤ a3 ∧ a3 < 256 := bt_r hl 3
  repeat' (first | (apply And.intro <;> intro hc <;> (first | exact Bool.noConfusion hc | (exfalso; first | exact absurd rfl hc | exact absurd hc (by omega) | exact absurd hc hk) | (simp only [decide_eq_true_eq, decide_eq_false_iff_not, Bool.not_eq_true', Bool.not_eq_false', beq_iff_eq, beq_eq_false_iff_ne, bne_iff_ne, bne_eq_false_iff_eq, Bool.true_eq_false, Bool.false_eq_true, ne_eq, not_true_eq_false] at hc <;> first | exact absurd rfl hc | (exfalso; first | exact absurd rfl hc | exact absurd hc (by omega) | exact absurd hc hk) | skip) | skip)) | (refine And.intro (by first | exact trivial | decide | omega | (dsimp only; omega) | exact fun _ _ => rfl | exact ⟨by assumption, by first | exact trivial | decide | omega | (dsimp only; omega)⟩) ?_) | (apply And.intro) | (intro s hs; skip))
  · exact hO s hs
  · rfl
  · show BL (toL eB 16 fun i => rowF eB (33 :: 2 :: a2 :: a3 :: a4 :: a5 :: r) (0 + i)); rw [toL_tk0 _ _ hz]; exact hl.take 16
  · show (toL eB 16 fun i => rowF eB (33 :: 2 :: a2 :: a3 :: a4 :: a5 :: r) (0 + i)).length ≤ _; rw [toL_len]; decide
  · show BL (toL eB 16 fun i => rowF eB (33 :: 2 :: a2 :: a3 :: a4 :: a5 :: r) (0 + i)); rw [toL_tk0 _ _ hz]; exact hl.take 16
  · show (toL eB 16 fun i => rowF eB (33 :: 2 :: a2 :: a3 :: a4 :: a5 :: r) (0 + i)).length ≤ _; rw [toL_len]; decide
  · rfl
  · have hg := parse_go (k := 16) (y := 2) hR (by omega) (.inr (.inr (.inl ⟨rfl, rfl⟩))) rfl rfl hz
    have hmr := optF_r hm (hl.take 16)
    rename_i u hu
    have h1 : IntKind.u16.wrap u = nmL ((33 :: 2 :: a2 :: a3 :: a4 :: a5 :: r).take 16) 6 2 := w16_at (hl.take 16) (a := 6) (pn_at hu (toL_tk0 _ _ hz))
    have h2 : IntKind.u64.wrap s = nmL ((33 :: 2 :: a2 :: a3 :: a4 :: a5 :: r).take 16) 8 8 := w64_at (hl.take 16) (a := 8) (pn_at hs (toL_tk0 _ _ hz))
    have h3 : s = nmL ((33 :: 2 :: a2 :: a3 :: a4 :: a5 :: r).take 16) 8 8 := pn_at hs (toL_tk0 _ _ hz)
    rw [show optF m ((33 :: 2 :: a2 :: a3 :: a4 :: a5 :: r).take 16) = { m with a := { m.a with hasO := true, ostat := a2, oseq := a5, olife := nmL ((33 :: 2 :: a2 :: a3 :: a4 :: a5 :: r).take 16) 6 2, oeui := nmL ((33 :: 2 :: a2 :: a3 :: a4 :: a5 :: r).take 16) 8 8 } } from rfl] at hg hmr
    refine ⟨⟨(33 :: 2 :: a2 :: a3 :: a4 :: a5 :: r).drop 16, _, (33 :: 2 :: a2 :: a3 :: a4 :: a5 :: r).take 16, hg, hmr, hl.drop 16, ?_⟩, [], ?_, rfl, ?_, ?_⟩
    · rw [List.length_drop]; dsimp only at hn ⊢; omega
    · dsimp only; rw [List.length_drop]; omega
    · refine ⟨leF_ptr rfl, leF_c (leC_mp rfl), leF_c (leC_drop _ 16 rfl), trivial⟩
    · refine ⟨⟨rfl, leN_varA fun _ _ => (Elem.flat _ _ _).le⟩, ⟨rfl, leN_varA fun _ _ => (Elem.flat _ _ _).le⟩, ⟨rfl, leN_zE⟩, ⟨rfl, leN_lay⟩, ⟨rfl, leN_par rfl (fun j hj => ?_) (leC_take _ 16 hz)⟩, ⟨rfl, leN_map⟩, ⟨rfl, leN_ents⟩, ⟨rfl, leN_ents⟩, trivial⟩
      · iterate 48 (rcases j with _ | j; · first | exact leC_int rfl | exact leC_bool rfl | exact leC_os rfl rfl | exact leC_int h1 | exact leC_int h2 | exact leC_int h3)
        exact absurd hj (by omega)
set_option maxHeartbeats 8000000 in
set_option maxRecDepth 20000 in
theorem op_border {src dst : Fin 16 → Int} {H : Lay} {R : Option Msg} {post : FV → Hp → Nat → Prop} (s : OpS R) (a2 a3 a4 a5 : Int) (r : List Int) (e : s.l = 35 :: 3 :: a2 :: a3 :: a4 :: a5 :: r) (h6 : 18 ≤ r.length) : opG src dst H R post s := by
  obtain ⟨l, m, o, hR, hm, hl, hn⟩ := s
  dsimp only at e ⊢
  subst e
  have hlen : ((35 :: 3 :: a2 :: a3 :: a4 :: a5 :: r : List Int).length : Int) = r.length + 6 := by simp only [List.length_cons]; omega
  have hsz : IntKind.i64.wrap (IntKind.i64.wrap ((35 :: 3 :: a2 :: a3 :: a4 :: a5 :: r : List Int).getD (Int.toNat 1) default) * 8) = 24 := rfl
  have hO : ∀ i, i < 6 → okFrom (nth [.int .u8 35, .int .u8 3]) (fun j => nth mapL (3 * i + j)) [false, false] 0 = true := okK
  have hk : ¬ ((35 :: 3 :: a2 :: a3 :: a4 :: a5 :: r : List Int).length : Int) < IntKind.i64.wrap (IntKind.i64.wrap ((35 :: 3 :: a2 :: a3 :: a4 :: a5 :: r : List Int).getD (Int.toNat 1) default) * 8) := by
    rw [hsz]; omega
  have hz : 24 ≤ (35 :: 3 :: a2 :: a3 :: a4 :: a5 :: r : List Int).length := by simp only [List.length_cons]; omega
  have hb3 : 0 ≤ a3 ∧ a3 < 256 := bt_r hl 3
  repeat' (first | (apply And.intro <;> intro hc <;> (first | exact Bool.noConfusion hc | (exfalso; first | exact absurd rfl hc | exact absurd hc (by omega) | exact absurd hc hk) | (simp only [decide_eq_true_eq, decide_eq_false_iff_not, Bool.not_eq_true', Bool.not_eq_false', beq_iff_eq, beq_eq_false_iff_ne, bne_iff_ne, bne_eq_false_iff_eq, Bool.true_eq_false, Bool.false_eq_true, ne_eq, not_true_eq_false] at hc <;> first | exact absurd rfl hc | (exfalso; first | exact absurd rfl hc | exact absurd hc (by omega) | exact absurd hc hk) | skip) | skip)) | (refine And.intro (by first | exact trivial | decide | omega | (dsimp only; omega) | exact fun _ _ => rfl | exact ⟨by assumption, by first | exact trivial | decide | omega | (dsimp only; omega)⟩) ?_) | (apply And.intro) | (intro s hs; skip))
  · exact hO s hs
  · rfl
  · show BL (toL eB 24 fun i => rowF eB (35 :: 3 :: a2 :: a3 :: a4 :: a5 :: r) (0 + i)); rw [toL_tk0 _ _ hz]; exact hl.take 24
  · show (toL eB 24 fun i => rowF eB (35 :: 3 :: a2 :: a3 :: a4 :: a5 :: r) (0 + i)).length ≤ _; rw [toL_len]; decide
  · show BL (toL eB 24 fun i => rowF eB (35 :: 3 :: a2 :: a3 :: a4 :: a5 :: r) (0 + i)); rw [toL_tk0 _ _ hz]; exact hl.take 24
  · show (toL eB 24 fun i => rowF eB (35 :: 3 :: a2 :: a3 :: a4 :: a5 :: r) (0 + i)).length ≤ _; rw [toL_len]; decide
  · show (8 : Int) + 16 ≤ ((toL eB 24 fun i => rowF eB (35 :: 3 :: a2 :: a3 :: a4 :: a5 :: r) (0 + i)).length : Int); rw [toL_len]; decide
  · rfl
  · have hg := parse_go (k := 24) (y := 3) hR (by omega) (.inr (.inr (.inr (.inr (.inr ⟨rfl, rfl⟩))))) rfl rfl hz
    have hmr := optF_r hm (hl.take 24)
    rename_i u hu v hv
    have h1 : IntKind.u16.wrap u = nmL ((35 :: 3 :: a2 :: a3 :: a4 :: a5 :: r).take 24) 2 2 := w16_at (hl.take 24) (a := 2) (pn_at hu (toL_tk0 _ _ hz))
    have h2 : IntKind.u32.wrap v = nmL ((35 :: 3 :: a2 :: a3 :: a4 :: a5 :: r).take 24) 4 4 := w32_at (hl.take 24) (a := 4) (pn_at hv (toL_tk0 _ _ hz))
    have q : s = ipF ((35 :: 3 :: a2 :: a3 :: a4 :: a5 :: r).take 24) 8 := pi_at hs (toL_tk0 _ _ hz)
    clear hs
    subst q
    rw [show optF m ((35 :: 3 :: a2 :: a3 :: a4 :: a5 :: r).take 24) = { m with z := ⟨nmL ((35 :: 3 :: a2 :: a3 :: a4 :: a5 :: r).take 24) 4 4, nmL ((35 :: 3 :: a2 :: a3 :: a4 :: a5 :: r).take 24) 2 2, ipF ((35 :: 3 :: a2 :: a3 :: a4 :: a5 :: r).take 24) 8, true⟩ } from rfl] at hg hmr
    refine ⟨⟨(35 :: 3 :: a2 :: a3 :: a4 :: a5 :: r).drop 24, _, (35 :: 3 :: a2 :: a3 :: a4 :: a5 :: r).take 24, hg, hmr, hl.drop 24, ?_⟩, [], ?_, rfl, ?_, ?_⟩
    · rw [List.length_drop]; dsimp only at hn ⊢; omega
    · dsimp only; rw [List.length_drop]; omega
    · refine ⟨leF_ptr rfl, leF_c (leC_mp rfl), leF_c (leC_drop _ 24 rfl), trivial⟩
    · refine ⟨⟨rfl, leN_varA fun _ _ => (Elem.flat _ _ _).le⟩, ⟨rfl, leN_varA fun _ _ => (Elem.flat _ _ _).le⟩, ⟨rfl, leN_zE⟩, ⟨rfl, leN_lay⟩, ⟨rfl, leN_par rfl (fun j hj => ?_) (leC_take _ 24 hz)⟩, ⟨rfl, leN_map⟩, ⟨rfl, leN_ents⟩, ⟨rfl, leN_ents⟩, trivial⟩
      · iterate 48 (rcases j with _ | j; · first | exact leC_int rfl | exact leC_bool rfl | exact leC_os rfl rfl | exact leC_int h1 | exact leC_int h2)
        exact absurd hj (by omega)
end Go.Proofs.Ythbhidfohdipnaa.AX

/- Layer 20 by AX2: rounds of the loop that reads the options, the other kinds. (Printed by gen/gko.py.) -/
namespace Go.Proofs.Ythbhidfohdipnaa.AX
open Go.RowKit
set_option linter.unusedVariables false
set_option linter.unusedSimpArgs false
set_option maxHeartbeats 8000000 in
set_option maxRecDepth 20000 in
theorem op_prefix {src dst : Fin 16 → Int} {H : Lay} {R : Option Msg} {post : FV → Hp → Nat → Prop} (s : OpS R) (a2 a3 a4 a5 : Int) (r : List Int) (e : s.l = 3 :: 4 :: a2 :: a3 :: a4 :: a5 :: r) (h6 : 26 ≤ r.length) : opG src dst H R post s := by
  obtain ⟨l, m, o, hR, hm, hl, hn⟩ := s
  dsimp only at e ⊢
  subst e
  have hlen : ((3 :: 4 :: a2 :: a3 :: a4 :: a5 :: r : List Int).length : Int) = r.length + 6 := by simp only [List.length_cons]; omega
  have hsz : IntKind.i64.wrap (IntKind.i64.wrap ((3 :: 4 :: a2 :: a3 :: a4 :: a5 :: r : List Int).getD (Int.toNat 1) default) * 8) = 32 := rfl
  have hO : ∀ i, i < 6 → okFrom (nth [.int .u8 3, .int .u8 4]) (fun j => nth mapL (3 * i + j)) [false, false] 0 = true := okK
  have hk : ¬ ((3 :: 4 :: a2 :: a3 :: a4 :: a5 :: r : List Int).length : Int) < IntKind.i64.wrap (IntKind.i64.wrap ((3 :: 4 :: a2 :: a3 :: a4 :: a5 :: r : List Int).getD (Int.toNat 1) default) * 8) := by
    rw [hsz]; omega
  have hz : 32 ≤ (3 :: 4 :: a2 :: a3 :: a4 :: a5 :: r : List Int).length := by simp only [List.length_cons]; omega
  have hb3 : 0 ≤ a3 ∧ a3 < 256 := bt_r hl 3
  repeat' (first | (apply And.intro <;> intro hc <;> (first | exact Bool.noConfusion hc | (exfalso; first | exact absurd rfl hc | exact absurd hc (by omega) | exact absurd hc hk) | (simp only [decide_eq_true_eq, decide_eq_false_iff_not, Bool.not_eq_true', Bool.not_eq_false', beq_iff_eq, beq_eq_false_iff_ne, bne_iff_ne, bne_eq_false_iff_eq, Bool.true_eq_false, Bool.false_eq_true, ne_eq, not_true_eq_false] at hc <;> first | exact absurd rfl hc | (exfalso; first | exact absurd rfl hc | exact absurd hc (by omega) | exact absurd hc hk) | skip) | skip)) | (refine And.intro (by first | exact trivial | decide | omega | (dsimp only; omega) | exact fun _ _ => rfl | exact ⟨by assumption, by first | exact trivial | decide | omega | (dsimp only; omega)⟩) ?_) | (apply And.intro) | (intro s hs; skip))
  · exact hO s hs
  · rfl
  · show (16 : Int) + 16 ≤ ((toL eB 32 fun i => rowF eB (3 :: 4 :: a2 :: a3 :: a4 :: a5 :: r) (0 + i)).length : Int); rw [toL_len]; decide
  · show BL (toL eB 32 fun i => rowF eB (3 :: 4 :: a2 :: a3 :: a4 :: a5 :: r) (0 + i)); rw [toL_tk0 _ _ hz]; exact hl.take 32
  · show (toL eB 32 fun i => rowF eB (3 :: 4 :: a2 :: a3 :: a4 :: a5 :: r) (0 + i)).length ≤ _; rw [toL_len]; decide
  · rfl
  · have hg := parse_go (k := 32) (y := 4) hR (by omega) (.inr (.inr (.inr (.inl ⟨rfl, rfl⟩)))) rfl rfl hz
    have hmr := optF_r hm (hl.take 32)
    rename_i u hu
    have h1 : IntKind.u32.wrap s = nmL ((3 :: 4 :: a2 :: a3 :: a4 :: a5 :: r).take 32) 4 4 := w32_at (hl.take 32) (a := 4) (pn_at hs (toL_tk0 _ _ hz))
    have q : u = ipF ((3 :: 4 :: a2 :: a3 :: a4 :: a5 :: r).take 32) 16 := pi_at hu (toL_tk0 _ _ hz)
    clear hu
    subst q
    have e2 : IntKind.i64.wrap a2 = a2 := IntWalk.i64_in _ (by have := bt_r hl 2; have : 0 ≤ a2 ∧ a2 < 256 := this; omega)
    rw [show optF m ((3 :: 4 :: a2 :: a3 :: a4 :: a5 :: r).take 32) = { m with p := m.p ++ [⟨ipF ((3 :: 4 :: a2 :: a3 :: a4 :: a5 :: r).take 32) 16, a2, decide (bits .and .u8 a3 128 ≠ 0), decide (bits .and .u8 a3 64 ≠ 0), nmL ((3 :: 4 :: a2 :: a3 :: a4 :: a5 :: r).take 32) 4 4⟩] } from rfl] at hg hmr
    refine ⟨⟨(3 :: 4 :: a2 :: a3 :: a4 :: a5 :: r).drop 32, _, (3 :: 4 :: a2 :: a3 :: a4 :: a5 :: r).take 32, hg, hmr, hl.drop 32, ?_⟩, [(9002, some 11921)], ?_, rfl, ?_, ?_⟩
    · rw [List.length_drop]; dsimp only at hn ⊢; rw [List.length_append]; simp only [List.length_cons, List.length_nil] at hn ⊢; omega
    · dsimp only; rw [List.length_drop]; omega
    · refine ⟨leF_ptr rfl, leF_c (leC_mp rfl), leF_c (leC_drop _ 32 rfl), trivial⟩
    · refine ⟨⟨rfl, leN_varA fun _ _ => (Elem.flat _ _ _).le⟩, ⟨rfl, leN_varA fun _ _ => (Elem.flat _ _ _).le⟩, ⟨rfl, leN_zE⟩, ⟨rfl, leN_lay⟩, ⟨rfl, leN_par rfl (fun j hj => ?_) (leC_take _ 32 hz)⟩, ⟨rfl, leN_map⟩, ⟨rfl, ?_⟩, ⟨rfl, leN_ents⟩, trivial⟩
      · iterate 48 (rcases j with _ | j; · first | exact leC_int rfl | exact leC_bool rfl | exact leC_os rfl rfl | exact leC_os rfl (by rw [List.length_append]; rfl))
        exact absurd hj (by omega)
      · change LeN _ _ _
        refine leN_snoc (E := ePI) (L := m.p) (x := ⟨ipF ((3 :: 4 :: a2 :: a3 :: a4 :: a5 :: r).take 32) 16, a2, decide (bits .and .u8 a3 128 ≠ 0), decide (bits .and .u8 a3 64 ≠ 0), nmL ((3 :: 4 :: a2 :: a3 :: a4 :: a5 :: r).take 32) 4 4⟩) rfl (fun i hi j hj => selC_in (Nat.ble_eq_true_of_le hi) (Elem.flat _ _ _).le) ?_
        repeat' (first | exact trivial | (refine selC_out (blt_self _) ?_; rw [Nat.sub_self]; first | exact leC_int rfl | exact leC_bool rfl | exact leC_int h1 | exact leC_int e2 | exact leC_bool (bne_dec _)) | apply And.intro)
set_option maxHeartbeats 8000000 in
set_option maxRecDepth 20000 in
theorem op_context {src dst : Fin 16 → Int} {H : Lay} {R : Option Msg} {post : FV → Hp → Nat → Prop} (s : OpS R) (a2 a3 a4 a5 : Int) (r : List Int) (e : s.l = 34 :: 3 :: a2 :: a3 :: a4 :: a5 :: r) (h6 : 18 ≤ r.length) : opG src dst H R post s := by
  obtain ⟨l, m, o, hR, hm, hl, hn⟩ := s
  dsimp only at e ⊢
  subst e
  have hlen : ((34 :: 3 :: a2 :: a3 :: a4 :: a5 :: r : List Int).length : Int) = r.length + 6 := by simp only [List.length_cons]; omega
  have hsz : IntKind.i64.wrap (IntKind.i64.wrap ((34 :: 3 :: a2 :: a3 :: a4 :: a5 :: r : List Int).getD (Int.toNat 1) default) * 8) = 24 := rfl
  have hO : ∀ i, i < 6 → okFrom (nth [.int .u8 34, .int .u8 3]) (fun j => nth mapL (3 * i + j)) [false, false] 0 = true := okK
  have hk : ¬ ((34 :: 3 :: a2 :: a3 :: a4 :: a5 :: r : List Int).length : Int) < IntKind.i64.wrap (IntKind.i64.wrap ((34 :: 3 :: a2 :: a3 :: a4 :: a5 :: r : List Int).getD (Int.toNat 1) default) * 8) := by
    rw [hsz]; omega
  have hz : 24 ≤ (34 :: 3 :: a2 :: a3 :: a4 :: a5 :: r : List Int).length := by simp only [List.length_cons]; omega
  have hb3 : 0 ≤ a3 ∧ a3 < 256 := bt_r hl 3
  repeat' (first | (apply And.intro <;> intro hc <;> (first | exact Bool.noConfusion hc | (exfalso; first | exact absurd rfl hc | exact absurd hc (by omega) | exact absurd hc hk) | (simp only [decide_eq_true_eq, decide_eq_false_iff_not, Bool.not_eq_true', Bool.not_eq_false', beq_iff_eq, beq_eq_false_iff_ne, bne_iff_ne, bne_eq_false_iff_eq, Bool.true_eq_false, Bool.false_eq_true, ne_eq, not_true_eq_false] at hc <;> first | exact absurd rfl hc | (exfalso; first | exact absurd rfl hc | exact absurd hc (by omega) | exact absurd hc hk) | skip) | skip)) | (refine And.intro (by first | exact trivial | decide | omega | (dsimp only; omega) | exact fun _ _ => rfl | exact ⟨by assumption, by first | exact trivial | decide | omega | (dsimp only; omega)⟩) ?_) | (apply And.intro) | (intro s hs; skip))
  · exact hO s hs
  · rfl
  · show (8 : Int) + 16 ≤ ((toL eB 24 fun i => rowF eB (34 :: 3 :: a2 :: a3 :: a4 :: a5 :: r) (0 + i)).length : Int); rw [toL_len]; decide
  · show BL (toL eB 24 fun i => rowF eB (34 :: 3 :: a2 :: a3 :: a4 :: a5 :: r) (0 + i)); rw [toL_tk0 _ _ hz]; exact hl.take 24
  · show (toL eB 24 fun i => rowF eB (34 :: 3 :: a2 :: a3 :: a4 :: a5 :: r) (0 + i)).length ≤ _; rw [toL_len]; decide
  · rfl
  · have hg := parse_go (k := 24) (y := 3) hR (by omega) (.inr (.inr (.inr (.inr (.inl ⟨rfl, rfl⟩))))) rfl rfl hz
    have hmr := optF_r hm (hl.take 24)
    rename_i u hu
    have h1 : IntKind.u16.wrap s = nmL ((34 :: 3 :: a2 :: a3 :: a4 :: a5 :: r).take 24) 6 2 := w16_at (hl.take 24) (a := 6) (pn_at hs (toL_tk0 _ _ hz))
    have q : u = ipF ((34 :: 3 :: a2 :: a3 :: a4 :: a5 :: r).take 24) 8 := pi_at hu (toL_tk0 _ _ hz)
    clear hu
    subst q
    have e2 : IntKind.i64.wrap a2 = a2 := IntWalk.i64_in _ (by have := bt_r hl 2; have : 0 ≤ a2 ∧ a2 < 256 := this; omega)
    have e3 : IntKind.i64.wrap (bits .and .u8 a3 15) = a3 % 16 := by rw [and15 hb3]; exact IntWalk.i64_in _ (by omega)
    rw [show optF m ((34 :: 3 :: a2 :: a3 :: a4 :: a5 :: r).take 24) = { m with c := m.c ++ [⟨a3 % 16, ipF ((34 :: 3 :: a2 :: a3 :: a4 :: a5 :: r).take 24) 8, a2, decide (bits .and .u8 a3 16 ≠ 0), nmL ((34 :: 3 :: a2 :: a3 :: a4 :: a5 :: r).take 24) 6 2⟩] } from rfl] at hg hmr
    refine ⟨⟨(34 :: 3 :: a2 :: a3 :: a4 :: a5 :: r).drop 24, _, (34 :: 3 :: a2 :: a3 :: a4 :: a5 :: r).take 24, hg, hmr, hl.drop 24, ?_⟩, [(9003, some 11921)], ?_, rfl, ?_, ?_⟩
    · rw [List.length_drop]; dsimp only at hn ⊢; rw [List.length_append]; simp only [List.length_cons, List.length_nil] at hn ⊢; omega
    · dsimp only; rw [List.length_drop]; omega
    · refine ⟨leF_ptr rfl, leF_c (leC_mp rfl), leF_c (leC_drop _ 24 rfl), trivial⟩
    · refine ⟨⟨rfl, leN_varA fun _ _ => (Elem.flat _ _ _).le⟩, ⟨rfl, leN_varA fun _ _ => (Elem.flat _ _ _).le⟩, ⟨rfl, leN_zE⟩, ⟨rfl, leN_lay⟩, ⟨rfl, leN_par rfl (fun j hj => ?_) (leC_take _ 24 hz)⟩, ⟨rfl, leN_map⟩, ⟨rfl, leN_ents⟩, ⟨rfl, ?_⟩, trivial⟩
      · iterate 48 (rcases j with _ | j; · first | exact leC_int rfl | exact leC_bool rfl | exact leC_os rfl rfl | exact leC_os rfl (by rw [List.length_append]; rfl))
        exact absurd hj (by omega)
      · change LeN _ _ _
        refine leN_snoc (E := eCI) (L := m.c) (x := ⟨a3 % 16, ipF ((34 :: 3 :: a2 :: a3 :: a4 :: a5 :: r).take 24) 8, a2, decide (bits .and .u8 a3 16 ≠ 0), nmL ((34 :: 3 :: a2 :: a3 :: a4 :: a5 :: r).take 24) 6 2⟩) rfl (fun i hi j hj => selC_in (Nat.ble_eq_true_of_le hi) (Elem.flat _ _ _).le) ?_
        repeat' (first | exact trivial | (refine selC_out (blt_self _) ?_; rw [Nat.sub_self]; first | exact leC_int rfl | exact leC_bool rfl | exact leC_int h1 | exact leC_int e2 | exact leC_int e3 | exact leC_bool (bne_dec _)) | apply And.intro)
end Go.Proofs.Ythbhidfohdipnaa.AX

/- Layer 20 by AX2: the loop that reads the options, and what lies around it. -/
namespace Go.Proofs.Ythbhidfohdipnaa.AX
open Go.RowKit
set_option linter.unusedVariables false
set_option linter.unusedSimpArgs false
theorem op_round {src dst : Fin 16 → Int} {H : Lay} {R : Option Msg} {post : FV → Hp → Nat → Prop} (hP : OpP src dst H R post) (s : OpS R) : opG src dst H R post s := by
  by_cases h0 : s.l = []
  · exact op_nil hP s h0
  by_cases h8 : s.l.length < 8
  · exact op_few hP s h0 h8
  by_cases hk : knownK (byt s.l 0) (byt s.l 1)
  · by_cases hz : 8 * byt s.l 1 ≤ s.l.length
    · obtain ⟨x, y, a2, a3, a4, a5, r, e⟩ : ∃ x y a2 a3 a4 a5 r, s.l = x :: y :: a2 :: a3 :: a4 :: a5 :: r := by
        generalize s.l = l at h8
        rcases l with _ | ⟨x, _ | ⟨y, _ | ⟨a2, _ | ⟨a3, _ | ⟨a4, _ | ⟨a5, r⟩⟩⟩⟩⟩⟩
        · exact absurd (by decide) h8
        · exact absurd (by show 0 + 1 < 8; omega) h8
        · exact absurd (by show 0 + 1 + 1 < 8; omega) h8
        · exact absurd (by show 0 + 1 + 1 + 1 < 8; omega) h8
        · exact absurd (by show 0 + 1 + 1 + 1 + 1 < 8; omega) h8
        · exact absurd (by show 0 + 1 + 1 + 1 + 1 + 1 < 8; omega) h8
        · exact ⟨x, y, a2, a3, a4, a5, r, rfl⟩
      rw [e] at hk hz h8
      have hk : knownK x y := hk
      have hz : 8 * y ≤ ((x :: y :: a2 :: a3 :: a4 :: a5 :: r).length : Int) := hz
      simp only [List.length_cons] at hz h8
      rcases hk with ⟨rfl, rfl⟩ | ⟨rfl, rfl⟩ | ⟨rfl, rfl⟩ | ⟨rfl, rfl⟩ | ⟨rfl, rfl⟩ | ⟨rfl, rfl⟩
      · exact op_short s _ e (by simp only [List.length_cons]; omega)
      · exact op_long s a2 a3 a4 a5 r e (by omega)
      · exact op_owner s a2 a3 a4 a5 r e (by omega)
      · exact op_prefix s a2 a3 a4 a5 r e (by omega)
      · exact op_context s a2 a3 a4 a5 r e (by omega)
      · exact op_border s a2 a3 a4 a5 r e (by omega)
    · exact op_cut hP s h8 hz
  · exact op_unk hP s h8 hk
set_option maxHeartbeats 8000000 in
set_option maxRecDepth 20000 in
theorem op_run {src dst : Fin 16 → Int} {H : Lay} {R : Option Msg} {post : FV → Hp → Nat → Prop} (hP : OpP src dst H R post) (s : OpS R) (hp : s.m.p = []) (hc : s.m.c = []) (ho : s.o = s.l) :
    exec T (mkQ LDo) 64 Try.f49.ntmps 8197 opC (argFr [one (.ptr 4 0 0 false)] 0) [(0, some (ipE src)), (1, some (ipE dst)), (2, some zEnt), (3, some (layEn H)), (4, some (pEnt s.m .nils .nils s.l))] 8197 (opE post) := by
  have hr := op_round hP
  obtain ⟨l, ⟨a, p, c, z⟩, o, hR, hm, hl, hn⟩ := s
  dsimp only at hp hc ho ⊢
  subst hp hc ho
  conv => whnf
  iterate 6 (refine And.intro (by intro i hi; (iterate 5 (try (rcases i with _ | i; · exact rfl))); exact absurd hi (Nat.not_lt.2 (Nat.le_of_ble_eq_true rfl))) ?_)
  refine loop_intro (mono_of LDo_ok) (HO src dst H (R := R)) (fun s => s.l.length) (fun _ => rfl) hr ⟨_, ⟨a, [], [], z⟩, _, hR, hm, hl, hn⟩ [(9001, some 8261), (9002, none), (9003, none)] ⟨rfl, ⟨leF_ptr rfl, leF_c (leC_mp rfl), leF_c (leC_cl (cl_slB eB _)), trivial⟩, ⟨rfl, leN_varA fun _ _ => (Elem.flat _ _ _).le⟩, ⟨rfl, leN_varA fun _ _ => (Elem.flat _ _ _).le⟩, ⟨rfl, leN_zE⟩, ⟨rfl, leN_lay⟩, ⟨rfl, leN_par rfl (fun j hj => ?_) (leC_cl (cl_slB eB _))⟩, ⟨rfl, ?_⟩, ⟨rfl, rfl, rfl, Nat.le_of_ble_eq_true rfl⟩, ⟨rfl, rfl, rfl, Nat.le_of_ble_eq_true rfl⟩, trivial⟩
  · iterate 48 (rcases j with _ | j; · first | exact leC_int rfl | exact leC_bool rfl | exact leC_nils_os rfl)
    exact absurd hj (by omega)
  · refine leN_row rfl fun i hi j hj => ?_
    iterate 6 (rcases i with _ | i; · iterate 3 (rcases j with _ | j; · first | exact leC_int rfl | exact leC_fn0)
                                      exact absurd hj (by show ¬ _ < 3; omega))
    exact absurd hi (by show ¬ _ < 6; omega)
end Go.Proofs.Ythbhidfohdipnaa.AX

/- Layer 20 by AX2: Decode of the program, from the options on. -/
namespace Go.Proofs.Ythbhidfohdipnaa.AX
open Go.RowKit
set_option linter.unusedVariables false
set_option linter.unusedSimpArgs false
def HA2 (b : List Int) (src dst : Fin 16 → Int) (H : Lay) (m : Msg) (l : List Int) (_ : Unit) : Hd :=
  ⟨[(0, one (slY b)), (4, one (.ptr 0 0 0 false)), (5, one (.ptr 1 0 0 false)), (6, one (.ptr 2 0 0 false)), (12, one (.ptr 4 0 0 false))],
   [(0, some (ipE src)), (1, some (ipE dst)), (2, some zEnt), (3, some (layEn H)), (4, some (pEnt m .nils .nils l))], 5⟩
theorem par_rd {m : Msg} {P C : CV} {l : List Int} : (⟨eMA.rd fun q => pCell m P C l (0 + 0 + q), toL ePI m.p.length fun k j => rowF ePI m.p (0 + k) j, toL eCI m.c.length fun k j => rowF eCI m.c (0 + k) j, eMZ.rd fun q => pCell m P C l (0 + 0 + (29 + q))⟩ : Msg) = m := by
  refine msg_is (a := m.a) (p := m.p) (c := m.c) (z := m.z) (fun j hj => ?_) ?_ ?_ (fun j hj => ?_)
  · iterate 27 (rcases j with _ | j; · rfl)
    exact absurd hj (by omega)
  · simp only [Nat.zero_add]; exact toL_P m.p
  · simp only [Nat.zero_add]; exact toL_C m.c
  · iterate 19 (rcases j with _ | j; · rfl)
    exact absurd hj (by omega)
theorem encP_at {M m : Msg} {S D src dst : Fin 16 → Int} (h1 : M = m) (h2 : S = src) (h3 : D = dst) (h : EncP m src dst) : EncP M S D := by rw [h1, h2, h3]; exact h
theorem enc_at {s : Option (List Int)} {M m : Msg} {S D src dst : Fin 16 → Int} (hs : s = encDM M S D) (h1 : M = m) (h2 : S = src) (h3 : D = dst) : s = encDM m src dst := by rw [hs, h1, h2, h3]
theorem dec_eq2 {A B a b : List Int} (h1 : A = a) (h2 : B = b) : decide (a = b) = decide (A = B) := by rw [h1, h2]
set_option maxHeartbeats 8000000 in
set_option maxRecDepth 20000 in
theorem dd2 (b : List Int) (src dst : Fin 16 → Int) (H : Lay) (W : Msg × Int) (hb : BL b) (hs0 : byteOk src) (hd0 : byteOk dst) (hl : b.length ≤ 1099511627776) (hz : H.size = headN (byt b 0)) (hle : headN (byt b 0) ≤ b.length) (hp0 : proF b = parseL (b.drop (headN (byt b 0))) (headF b))
    (hW : W = match proF b with
      | some m => if encDM m src dst = some b then (m, 0) else (noM, 5)
      | none => (noM, 5)) : Sem Try.prog Try.f21.ntmps 0 (dropD 7 (Try.f21.body.getD Code.ret)) (HA b src dst H (headF b) ()).fr (HA b src dst H (headF b) ()).H (HA b src dst H (headF b) ()).nx (endH T Try.f21.results.toList fun x H _ => Done H x (encMD W)) := by
  have h8 := headN_le (byt b 0)
  have hM := headF_p b
  have hMr := headF_r hb
  obtain ⟨M, eM⟩ : ∃ M, headF b = M := ⟨_, rfl⟩
  obtain ⟨N, eN⟩ : ∃ N, headN (byt b 0) = N := ⟨_, rfl⟩
  rw [eM] at hM hMr hp0 ⊢
  rw [eN] at h8 hz hle hp0
  have z1 : (0 : Int) ≤ H.size := by omega
  have z2 : H.size ≤ (b.length : Int) := by omega
  change Sem _ _ _ _ _ _ _ _; refine sem_cut (wd := 1) (Q := mkQ LDd) (by decide) tysOk (q_of LDd_ok) (mono_of LDd_ok) mixed (HA2 b src dst H M (b.drop N)) (by intro _; rfl) ?_ ?_
  · repeat' (first | (apply And.intro <;> intro hc <;> (first | exact Bool.noConfusion hc | (exfalso; first | exact absurd rfl hc) | (simp only [decide_eq_true_eq, decide_eq_false_iff_not, Bool.not_eq_true', Bool.not_eq_false', beq_iff_eq, beq_eq_false_iff_ne, bne_iff_ne, bne_eq_false_iff_eq, Bool.true_eq_false, Bool.false_eq_true, ne_eq, not_true_eq_false] at hc <;> first | exact absurd rfl hc | (exfalso; first | exact absurd rfl hc) | skip) | skip)) | (refine And.intro (by first | exact trivial | decide | omega | (dsimp only; omega) | exact fun _ _ => rfl | exact ⟨by assumption, by first | exact trivial | decide | omega | (dsimp only; omega)⟩) ?_) | (apply And.intro) | (intro s hs; skip))
    refine ⟨(), [], rfl, ?_, ?_⟩
    · repeat' (first | exact trivial | exact rfl | exact leF_ptr rfl | exact leF_int rfl | exact leF_bool rfl | exact leF_cl (cl_slB _ _) | exact leF_cl (cl_slR _ _) | exact leF_cl (cl_ll _ _) | exact leF_c (leC_os rfl rfl) | refine leF_int ?_ | refine leF_bool ?_ | exact leN_varA (fun _ _ => (Elem.flat _ _ _).le) | exact leN_varA (fun _ _ => leC_top) | apply And.intro)
    · refine ⟨⟨rfl, leN_varA fun _ _ => (Elem.flat _ _ _).le⟩, ⟨rfl, leN_varA fun _ _ => (Elem.flat _ _ _).le⟩, ⟨rfl, leN_zE⟩, ⟨rfl, leN_lay⟩, ⟨rfl, leN_par rfl (fun j hj => ?_) ?_⟩, trivial⟩
      · iterate 48 (rcases j with _ | j; · first | exact leC_int rfl | exact leC_bool rfl | exact leC_nils)
        exact absurd hj (by omega)
      · have e : H.size.toNat = N := by omega
        show LeC _ (.sl false (b.length - H.size.toNat) eB.sz fun i => rowF eB b (H.size.toNat + i)) _
        rw [e]
        exact leC_drop b N rfl
  intro _
  have hOB : ∀ s : OpS (proF b), s.l = [] → proF b = some s.m := fun s h => by
    have h1 := s.hR
    rw [h, parse_nil] at h1
    exact h1.symm
  have hWn : proF b = none → W = (noM, 5) := fun h => by rw [hW, h]
  change Sem _ _ _ _ _ _ _ _; refine sem_cut (wd := 8192) (Q := mkQ LDd) (by decide) tysOk (q_of LDd_ok) (mono_of LDd_ok) mixed (HB b src dst) (by intro _; rfl) ?_ ?_
  · refine And.intro rfl ?_
    refine op_run (R := proF b) (src := src) (dst := dst) (H := H) ⟨?_, ?_, ?_⟩ ⟨b.drop N, M, b.drop N, hp0.symm, hMr, hb.drop N, ?_⟩ hM.1 hM.2 rfl
    · intro s hs nf hnf
      have hP := hOB s hs
      refine And.intro hnf ?_
      repeat' (first | (apply And.intro <;> intro hc <;> (first | exact Bool.noConfusion hc | (exfalso; first | exact absurd rfl hc) | (simp only [decide_eq_true_eq, decide_eq_false_iff_not, Bool.not_eq_true', Bool.not_eq_false', beq_iff_eq, beq_eq_false_iff_ne, bne_iff_ne, bne_eq_false_iff_eq, Bool.true_eq_false, Bool.false_eq_true, ne_eq, not_true_eq_false] at hc <;> first | exact absurd rfl hc | (exfalso; first | exact absurd rfl hc) | skip) | skip)) | (refine And.intro (by first | exact trivial | decide | omega | (dsimp only; omega) | exact fun _ _ => rfl | exact ⟨by assumption, by first | exact trivial | decide | omega | (dsimp only; omega)⟩) ?_) | (apply And.intro) | (intro s hs; skip))
      refine ⟨⟨s.m, s.o, hP, s.hm, ?_⟩, [(5, some 9002), (6, some 9003)], rfl, ?_, ?_⟩
      · have := s.hn; omega
      · repeat' (first | exact trivial | exact rfl | exact leF_ptr rfl | exact leF_int rfl | exact leF_bool rfl | exact leF_cl (cl_slB _ _) | exact leF_cl (cl_slR _ _) | exact leF_cl (cl_ll _ _) | exact leF_c (leC_os rfl rfl) | refine leF_int ?_ | refine leF_bool ?_ | exact leN_varA (fun _ _ => (Elem.flat _ _ _).le) | exact leN_varA (fun _ _ => leC_top) | apply And.intro)
      · refine ⟨⟨rfl, leN_varA fun _ _ => (Elem.flat _ _ _).le⟩, ⟨rfl, leN_varA fun _ _ => (Elem.flat _ _ _).le⟩, ⟨rfl, leN_zE⟩, ⟨rfl, leN_par rfl (fun j hj => ?_) (leC_cl (cl_slB eB _))⟩, ⟨rfl, leN_ents⟩, ⟨rfl, leN_ents⟩, trivial⟩
        iterate 48 (rcases j with _ | j; · first | exact leC_int rfl | exact leC_bool rfl | exact leC_os rfl rfl)
        exact absurd hj (by omega)
    · intro hR s nf hnf
      rw [hWn hR]
      refine And.intro hnf ?_
      repeat' (first | (apply And.intro <;> intro hc <;> (first | exact Bool.noConfusion hc | (exfalso; first | exact absurd rfl hc) | (simp only [decide_eq_true_eq, decide_eq_false_iff_not, Bool.not_eq_true', Bool.not_eq_false', beq_iff_eq, beq_eq_false_iff_ne, bne_iff_ne, bne_eq_false_iff_eq, Bool.true_eq_false, Bool.false_eq_true, ne_eq, not_true_eq_false] at hc <;> first | exact absurd rfl hc | (exfalso; first | exact absurd rfl hc) | skip) | skip)) | (refine And.intro (by first | exact trivial | decide | omega | (dsimp only; omega) | exact fun _ _ => rfl | exact ⟨by assumption, by first | exact trivial | decide | omega | (dsimp only; omega)⟩) ?_) | (apply And.intro) | (intro s hs; skip))
      exact Done.mk (leF_noM rfl (by intro j hj; (iterate 48 (rcases j with _ | j; exact rfl)); exact absurd hj (by omega)))
    · intro hR s e1 e2 nf hnf
      rw [hWn hR]
      refine And.intro hnf ?_
      repeat' (first | (apply And.intro <;> intro hc <;> (first | exact Bool.noConfusion hc | (exfalso; first | exact absurd rfl hc) | (simp only [decide_eq_true_eq, decide_eq_false_iff_not, Bool.not_eq_true', Bool.not_eq_false', beq_iff_eq, beq_eq_false_iff_ne, bne_iff_ne, bne_eq_false_iff_eq, Bool.true_eq_false, Bool.false_eq_true, ne_eq, not_true_eq_false] at hc <;> first | exact absurd rfl hc | (exfalso; first | exact absurd rfl hc) | skip) | skip)) | (refine And.intro (by first | exact trivial | decide | omega | (dsimp only; omega) | exact fun _ _ => rfl | exact ⟨by assumption, by first | exact trivial | decide | omega | (dsimp only; omega)⟩) ?_) | (apply And.intro) | (intro s hs; skip))
      exact Done.mk (leF_noM rfl (by intro j hj; (iterate 48 (rcases j with _ | j; exact rfl)); exact absurd hj (by omega)))
    · rw [hM.1, hM.2, List.length_drop]; simp only [List.length_nil]; omega
  rintro ⟨m, o, hP, hm, hn⟩
  rw [hP] at hW
  clear hWn hOB
  dsimp only at hW
  have hE0 : EncP m src dst := ⟨hm, hs0, hd0, by omega, by omega⟩
  obtain ⟨E, eE⟩ : ∃ E, encDM m src dst = E := ⟨_, rfl⟩
  rw [eE] at hW
  have hEB : BL (E.getD []) := by
    rw [← eE]; unfold encDM
    split
    · exact encX_BL hm (valM_iff.1 (by assumption)) _
    · exact BL.nil
  have g1 : True := trivial
  refine sem_step (wd := 1) (Q := mkQ LDd) (by decide) tysOk (q_of LDd_ok) mixed ?_
  repeat' (first | (apply And.intro <;> intro hc <;> (first | exact Bool.noConfusion hc | (exfalso; first | exact absurd rfl hc) | (simp only [decide_eq_true_eq, decide_eq_false_iff_not, Bool.not_eq_true', Bool.not_eq_false', beq_iff_eq, beq_eq_false_iff_ne, bne_iff_ne, bne_eq_false_iff_eq, Bool.true_eq_false, Bool.false_eq_true, ne_eq, not_true_eq_false] at hc <;> first | exact absurd rfl hc | (exfalso; first | exact absurd rfl hc) | skip) | skip)) | (refine And.intro (by first | exact trivial | decide | omega | (dsimp only; omega) | exact fun _ _ => rfl | exact ⟨by assumption, by first | exact trivial | decide | omega | (dsimp only; omega)⟩) ?_) | (apply And.intro) | (intro s hs; (first | (clear g1; have q : E = s := ((enc_at (m := m) (src := src) (dst := dst) hs par_rd (rd_ip src) (rd_ip dst)).trans eE).symm; clear hs; subst q) | skip)) | (refine Exists.intro _ (And.intro ⟨rfl, rfl, rfl⟩ ?_)))
  · exact rfl
  · exact rfl
  · exact encP_at (m := m) par_rd (rd_ip src) (rd_ip dst) hE0
  refine sem_step (wd := 1) (Q := mkQ LDd) (by decide) tysOk (q_of LDd_ok) mixed ?_
  repeat' (first | (apply And.intro <;> intro hc <;> (first | exact Bool.noConfusion hc | (exfalso; first | exact absurd rfl hc) | (simp only [decide_eq_true_eq, decide_eq_false_iff_not, Bool.not_eq_true', Bool.not_eq_false', beq_iff_eq, beq_eq_false_iff_ne, bne_iff_ne, bne_eq_false_iff_eq, Bool.true_eq_false, Bool.false_eq_true, ne_eq, not_true_eq_false] at hc <;> first | exact absurd rfl hc | (exfalso; first | exact absurd rfl hc) | skip) | skip)) | (refine And.intro (by first | exact trivial | decide | omega | (dsimp only; omega) | exact fun _ _ => rfl | exact ⟨by assumption, by first | exact trivial | decide | omega | (dsimp only; omega)⟩) ?_) | (apply And.intro) | (intro s hs; skip) | (refine Exists.intro _ (And.intro ⟨rfl, rfl, rfl⟩ ?_)))
  · rename_i he
    have e : W = (noM, 5) := by
      rw [hW]
      refine if_neg fun h => he ?_
      rw [h]; rfl
    rw [e]
    exact Done.mk (leF_noM rfl (by intro j hj; (iterate 48 (rcases j with _ | j; exact rfl)); exact absurd hj (by omega)))
  · exact rfl
  · exact rfl
  · show BL (toL eB (E.getD []).length fun k j => rowF eB (E.getD []) (0 + k) j); rw [toL_b0]; exact hEB
  · show BL (toL eB b.length (rowF eB b)); rw [toL_b]; exact hb
  · rename_i he
    have h : decide (E.getD [] = b) = false := by
      rw [← hc, hs]
      exact dec_eq2 (toL_b0 _) (toL_b _)
    have e : W = (noM, 5) := by
      rw [hW]
      refine if_neg fun h2 => of_decide_eq_false h ?_
      rw [h2]; rfl
    rw [e]
    exact Done.mk (leF_noM rfl (by intro j hj; (iterate 48 (rcases j with _ | j; exact rfl)); exact absurd hj (by omega)))
  · rename_i he
    have h : decide (E.getD [] = b) = true := by
      rw [← hc, hs]
      exact dec_eq2 (toL_b0 _) (toL_b _)
    have h := of_decide_eq_true h
    have e : W = (m, 0) := by
      rw [hW]
      refine if_pos ?_
      cases E with
      | none => exact absurd he (by decide)
      | some c => exact congrArg some h
    rw [e]
    refine sem_exec (wd := 1) (Q := mkQ LDd) (by decide) tysOk (q_of LDd_ok) mixed ?_
    repeat' (first | (apply And.intro <;> intro hc <;> (first | exact Bool.noConfusion hc | (exfalso; first | exact absurd rfl hc) | (simp only [decide_eq_true_eq, decide_eq_false_iff_not, Bool.not_eq_true', Bool.not_eq_false', beq_iff_eq, beq_eq_false_iff_ne, bne_iff_ne, bne_eq_false_iff_eq, Bool.true_eq_false, Bool.false_eq_true, ne_eq, not_true_eq_false] at hc <;> first | exact absurd rfl hc | (exfalso; first | exact absurd rfl hc) | skip) | skip)) | (refine And.intro (by first | exact trivial | decide | omega | (dsimp only; omega) | exact fun _ _ => rfl | exact ⟨by assumption, by first | exact trivial | decide | omega | (dsimp only; omega)⟩) ?_) | (apply And.intro) | (intro s hs; skip) | (refine Exists.intro _ (And.intro ⟨rfl, rfl, rfl⟩ ?_)))
    refine Done.mk (leF_tup ⟨leE_msg rfl (fun j hj => ?_) ?_ ?_ (fun j hj => ?_), leC_int rfl, trivial⟩)
    · iterate 27 (rcases j with _ | j; · first | exact leC_int rfl | exact leC_bool rfl)
      exact absurd hj (by omega)
    · exact leC_row_fin rfl rfl
    · exact leC_row_fin rfl rfl
    · iterate 19 (rcases j with _ | j; · first | exact leC_int rfl | exact leC_bool rfl)
      exact absurd hj (by omega)
end Go.Proofs.Ythbhidfohdipnaa.AX

/- Layer 20 by AX2: Decode of the program. -/
namespace Go.Proofs.Ythbhidfohdipnaa.AX
open Go.RowKit
set_option linter.unusedVariables false
set_option linter.unusedSimpArgs false
set_option maxHeartbeats 8000000 in
set_option maxRecDepth 20000 in
theorem ddec_ok (b : List Int) (src dst : Fin 16 → Int) (hb : BL b) (hs0 : byteOk src) (hd0 : byteOk dst) (hl : b.length ≤ 1099511627776) : PureOk Try.prog 21 [(cSl eB eB_sz).enc b, (cE (eA .u8 16)).enc src, (cE (eA .u8 16)).enc dst] (encMD (decDM b src dst)) := by
  obtain ⟨W, hW⟩ : ∃ W, decDM b src dst = W := ⟨_, rfl⟩
  rw [hW]
  obtain ⟨U, eU⟩ : ∃ U, uintF b 2 2 = U := ⟨_, rfl⟩
  obtain ⟨S, eS⟩ : ∃ S, sumD b src dst = S := ⟨_, rfl⟩
  obtain ⟨H, eH⟩ : ∃ H, layF (byt b 0) = H := ⟨_, rfl⟩
  obtain ⟨tb, eT⟩ : ∃ tb, decide (tyOk (byt b 0)) = tb := ⟨_, rfl⟩
  have e1 : b.length < 8 → W = (noM, 4) := fun h => by rw [← hW]; exact if_pos h
  have hU : nmL b 2 2 = U.1 := congrArg Prod.fst eU
  have wU : IntKind.u16.wrap U.1 = U.1 := by
    have := nmL_r hb 2 2
    rw [hU] at this
    exact IntWalk.u16_in _ (by omega)
  have e2 : ¬ b.length < 8 → ¬ IntKind.u16.wrap U.1 = S → W = (noM, 6) := fun h g => by
    rw [← hW]; unfold decDM
    rw [if_neg h, hU, eS, ← wU]; exact if_pos g
  have e3 : ¬ b.length < 8 → IntKind.u16.wrap U.1 = S → W = match proF b with
      | some m => if encDM m src dst = some b then (m, 0) else (noM, 5)
      | none => (noM, 5) := fun h g => by rw [← hW]; exact decDM_pro hb h (by rw [hU, eS, ← wU]; exact g)
  have ht1 : tb = true → tyOk (byt b 0) := fun h => of_decide_eq_true (eT.trans h)
  have ht0 : tb = false → ¬ tyOk (byt b 0) := fun h => of_decide_eq_false (eT.trans h)
  have hsz : tb = true → H.size = headN (byt b 0) := fun h => by rw [← eH]; exact lay_sz (ht1 h)
  have e4 : ¬ b.length < 8 → IntKind.u16.wrap U.1 = S → tb = false → W = (noM, 5) := fun h g t => by
    rw [e3 h g, show proF b = none from if_neg fun x => ht0 t x.1]
  have e5 : ¬ b.length < 8 → IntKind.u16.wrap U.1 = S → tb = true → (b.length : Int) < H.size → W = (noM, 5) := fun h g t q => by
    rw [e3 h g, show proF b = none from if_neg fun x => by have := x.2; rw [hsz t] at q; omega]
  have f1 : H.owner = true → isDup (byt b 0) ∧ headN (byt b 0) = 32 := by rw [← eH]; exact lay_f1
  have f2 : H.target = true → H.owner = false → isNb (byt b 0) ∧ headN (byt b 0) = 24 := by rw [← eH]; exact lay_f2
  have f3 : H.router = true → byt b 0 = 134 ∧ headN (byt b 0) = 16 := by rw [← eH]; exact lay_f3
  have f4 : H.owner = false → H.router = false → H.target = false → ¬ isDup (byt b 0) ∧ ¬ byt b 0 = 134 ∧ ¬ isNb (byt b 0) := by rw [← eH]; exact lay_f4
  have k1 : H.owner = true → H.router = true → False := by rw [← eH]; exact lay_k1
  have k2 : H.owner = true → H.target = false → False := by rw [← eH]; exact lay_k2
  have k3 : H.router = true → H.target = true → False := by rw [← eH]; exact lay_k3
  have g1 : True := trivial
  have g2 : True := trivial
  have g3 : True := trivial
  refine pure_introS tysOk Try.func21 rfl _ (by show 3 ≤ _; decide) _ ?_
  refine sem_step (wd := 1) (Q := mkQ LDd) (by decide) tysOk (q_of LDd_ok) mixed ?_
  refine sem_step (wd := 1) (Q := mkQ LDd) (by decide) tysOk (q_of LDd_ok) mixed ?_
  repeat' (first | (apply And.intro <;> intro hc <;> (first | exact Bool.noConfusion hc | (exfalso; first | exact absurd rfl hc) | (simp only [decide_eq_true_eq, decide_eq_false_iff_not, Bool.not_eq_true', Bool.not_eq_false', beq_iff_eq, beq_eq_false_iff_ne, bne_iff_ne, bne_eq_false_iff_eq, Bool.true_eq_false, Bool.false_eq_true, ne_eq, not_true_eq_false] at hc <;> first | exact absurd rfl hc | (exfalso; first | exact absurd rfl hc) | skip) | skip)) | (refine And.intro (by first | exact trivial | decide | omega | (dsimp only; omega) | exact fun _ _ => rfl | exact ⟨by assumption, by first | exact trivial | decide | omega | (dsimp only; omega)⟩) ?_) | (apply And.intro) | (intro s hs; skip))
  · rw [e1 (by omega)]
    exact Done.mk (leF_noM rfl (by intro j hj; (iterate 48 (rcases j with _ | j; exact rfl)); exact absurd hj (by omega)))
  refine sem_step (wd := 1) (Q := mkQ LDd) (by decide) tysOk (q_of LDd_ok) mixed ?_
  repeat' (first | (apply And.intro <;> intro hc <;> (first | exact Bool.noConfusion hc | (exfalso; first | exact absurd rfl hc) | (simp only [decide_eq_true_eq, decide_eq_false_iff_not, Bool.not_eq_true', Bool.not_eq_false', beq_iff_eq, beq_eq_false_iff_ne, bne_iff_ne, bne_eq_false_iff_eq, Bool.true_eq_false, Bool.false_eq_true, ne_eq, not_true_eq_false] at hc <;> first | exact absurd rfl hc | (exfalso; first | exact absurd rfl hc) | skip) | skip)) | (refine And.intro (by first | exact trivial | decide | omega | (dsimp only; omega) | exact fun _ _ => rfl | exact ⟨by assumption, by first | exact trivial | decide | omega | (dsimp only; omega)⟩) ?_) | (apply And.intro) | (intro s hs; (first | (clear g1; have q : U = s := ((uint_at (b := b) hs (toL_b b)).trans eU).symm; clear hs; subst q) | (clear g2; have q : S = s := ((sum_at (b := b) (src := src) (dst := dst) hs (toL_b b) (rd_ip src) (rd_ip dst)).trans eS).symm; clear hs; subst q) | (clear g3; have q : (H, tb) = s := lay_at hs eH eT; clear hs; subst q) | skip)))
  · show BL (toL eB b.length (rowF eB b)); rw [toL_b]; exact hb
  · show (toL eB b.length (rowF eB b)).length ≤ _; rw [toL_len]; omega
  · show BL (toL eB b.length (rowF eB b)); rw [toL_b]; exact hb
  · show byteOk ((eA .u8 16).rd fun q => (eA .u8 16).cell src (0 + q)); rw [rd_ip]; exact hs0
  · show byteOk ((eA .u8 16).rd fun q => (eA .u8 16).cell dst (0 + q)); rw [rd_ip]; exact hd0
  · show (toL eB b.length (rowF eB b)).length ≤ _; rw [toL_len]; omega
  · rw [e2 (by omega) hc]
    exact Done.mk (leF_noM rfl (by intro j hj; (iterate 48 (rcases j with _ | j; exact rfl)); exact absurd hj (by omega)))
  refine sem_step (wd := 1) (Q := mkQ LDd) (by decide) tysOk (q_of LDd_ok) mixed ?_
  repeat' (first | (apply And.intro <;> intro hc <;> (first | exact Bool.noConfusion hc | (exfalso; first | exact absurd rfl hc) | (simp only [decide_eq_true_eq, decide_eq_false_iff_not, Bool.not_eq_true', Bool.not_eq_false', beq_iff_eq, beq_eq_false_iff_ne, bne_iff_ne, bne_eq_false_iff_eq, Bool.true_eq_false, Bool.false_eq_true, ne_eq, not_true_eq_false] at hc <;> first | exact absurd rfl hc | (exfalso; first | exact absurd rfl hc) | skip) | skip)) | (refine And.intro (by first | exact trivial | decide | omega | (dsimp only; omega) | exact fun _ _ => rfl | exact ⟨by assumption, by first | exact trivial | decide | omega | (dsimp only; omega)⟩) ?_) | (apply And.intro) | (intro s hs; (first | (clear g1; have q : U = s := ((uint_at (b := b) hs (toL_b b)).trans eU).symm; clear hs; subst q) | (clear g2; have q : S = s := ((sum_at (b := b) (src := src) (dst := dst) hs (toL_b b) (rd_ip src) (rd_ip dst)).trans eS).symm; clear hs; subst q) | (clear g3; have q : (H, tb) = s := lay_at hs eH eT; clear hs; subst q) | skip)))
  refine sem_step (wd := 1) (Q := mkQ LDd) (by decide) tysOk (q_of LDd_ok) mixed ?_
  repeat' (first | (apply And.intro <;> intro hc <;> (first | exact Bool.noConfusion hc | (exfalso; first | exact absurd rfl hc) | (simp only [decide_eq_true_eq, decide_eq_false_iff_not, Bool.not_eq_true', Bool.not_eq_false', beq_iff_eq, beq_eq_false_iff_ne, bne_iff_ne, bne_eq_false_iff_eq, Bool.true_eq_false, Bool.false_eq_true, ne_eq, not_true_eq_false] at hc <;> first | exact absurd rfl hc | (exfalso; first | exact absurd rfl hc) | skip) | skip)) | (refine And.intro (by first | exact trivial | decide | omega | (dsimp only; omega) | exact fun _ _ => rfl | exact ⟨by assumption, by first | exact trivial | decide | omega | (dsimp only; omega)⟩) ?_) | (apply And.intro) | (intro s hs; skip))
  · rename_i h8 h6 ht
    rw [e4 (by omega) h6 ht]
    exact Done.mk (leF_noM rfl (by intro j hj; (iterate 48 (rcases j with _ | j; exact rfl)); exact absurd hj (by omega)))
  · rename_i h8 h6 ht
    rw [e5 (by omega) h6 ht hc]
    exact Done.mk (leF_noM rfl (by intro j hj; (iterate 48 (rcases j with _ | j; exact rfl)); exact absurd hj (by omega)))
  rename_i h8 h6 ht
  have hle : headN (byt b 0) ≤ b.length := by have := hsz ht; rw [this] at hc; omega
  refine sem_step (wd := 1) (Q := mkQ LDd) (by decide) tysOk (q_of LDd_ok) mixed ?_
  change Sem _ _ _ _ _ _ _ _; refine sem_cut (wd := 1024) (Q := mkQ LDd) (by decide) tysOk (q_of LDd_ok) (mono_of LDd_ok) mixed (HA b src dst H (headF b)) (by intro _; rfl) ?_ ?_
  · repeat' (first | (apply And.intro <;> intro hc <;> (first | exact Bool.noConfusion hc | (exfalso; first | exact absurd rfl hc | with_reducible exact k1 (by assumption) hc | with_reducible exact k2 (by assumption) hc | with_reducible exact k3 (by assumption) hc) | (simp only [decide_eq_true_eq, decide_eq_false_iff_not, Bool.not_eq_true', Bool.not_eq_false', beq_iff_eq, beq_eq_false_iff_ne, bne_iff_ne, bne_eq_false_iff_eq, Bool.true_eq_false, Bool.false_eq_true, ne_eq, not_true_eq_false] at hc <;> first | exact absurd rfl hc | (exfalso; first | exact absurd rfl hc | with_reducible exact k1 (by assumption) hc | with_reducible exact k2 (by assumption) hc | with_reducible exact k3 (by assumption) hc) | skip) | skip)) | (refine And.intro (by first | exact trivial | decide | omega | (dsimp only; omega) | exact fun _ _ => rfl | exact ⟨by assumption, by first | exact trivial | decide | omega | (dsimp only; omega)⟩) ?_) | (apply And.intro) | (intro s hs; skip))
    · exact rfl
    · show BL (toL eB b.length (rowF eB b)); rw [toL_b]; exact hb
    · show (toL eB b.length (rowF eB b)).length ≤ _; rw [toL_len]; omega
    · show BL (toL eB b.length (rowF eB b)); rw [toL_b]; exact hb
    · show (toL eB b.length (rowF eB b)).length ≤ _; rw [toL_len]; omega
    · have := hsz ht; have := f1 (by assumption); show 0 ≤ IntKind.i64.wrap (H.size - 16); rw [IntWalk.i64_in _ (by omega)]; omega
    · have := hsz ht; have := f1 (by assumption); show IntKind.i64.wrap (H.size - 16) + 16 ≤ ((toL eB b.length (rowF eB b)).length : Int); rw [toL_len, IntWalk.i64_in _ (by omega)]; omega
    · rename_i ho s1 hs1 s2 hs2 hr
      obtain ⟨hd, hh⟩ := f1 ho
      have hz := hsz ht
      have h1 : IntKind.u16.wrap s1 = nmL b 6 2 := w16_at hb (a := 6) (pn_at hs1 (toL_b b))
      have h2 : IntKind.u64.wrap s2 = nmL b 8 8 := w64_at hb (a := 8) (pn_at hs2 (toL_b b))
      have h4 : s2 = nmL b 8 8 := pn_at hs2 (toL_b b)
      have q : s = ipF b 16 := (pi_at hs (toL_b b)).trans (by show ipF b (IntKind.i64.wrap (H.size - 16)).toNat = _; rw [IntWalk.i64_in _ (by omega)]; exact congrArg (ipF b) (by omega))
      clear hs
      subst q
      have hF : headF b = { noM with a := { noA with ty := byt b 0, hasO := true, ostat := byt b 4, oseq := byt b 5, olife := nmL b 6 2, oeui := nmL b 8 8, tgt := ipF b 16 } } := if_pos hd
      refine ⟨(), [(4, some 42), (3, some 28)], rfl, ?_, ?_⟩
      · repeat' (first | exact trivial | exact rfl | exact leF_ptr rfl | exact leF_int rfl | exact leF_bool rfl | exact leF_cl (cl_slB _ _) | exact leF_cl (cl_slR _ _) | exact leF_cl (cl_ll _ _) | exact leF_c (leC_os rfl rfl) | refine leF_int ?_ | refine leF_bool ?_ | exact leN_varA (fun _ _ => (Elem.flat _ _ _).le) | exact leN_varA (fun _ _ => leC_top) | apply And.intro)
      · refine ⟨⟨rfl, ?_⟩, ⟨rfl, ?_⟩, ⟨rfl, ?_⟩, ⟨rfl, ?_⟩, ⟨rfl, ?_⟩, trivial⟩
        · exact leN_varA fun _ _ => (Elem.flat _ _ _).le
        · exact leN_varA fun _ _ => (Elem.flat _ _ _).le
        · refine leN_varA fun j hj => ?_
          iterate 48 (rcases j with _ | j; · first | exact leC_int rfl | exact leC_bool rfl | exact leC_nils)
          exact absurd hj (by show ¬ _ < 48; omega)
        · exact leN_varA fun _ _ => (Elem.flat _ _ _).le
        · refine leN_par rfl (fun j hj => ?_) (leC_cl (cl_slB eB b))
          rw [hF]
          iterate 48 (rcases j with _ | j; · first | exact leC_int rfl | exact leC_bool rfl | exact leC_nils | exact leC_int h1 | exact leC_int h2 | exact leC_int h4)
          exact absurd hj (by omega)
    · show BL (toL eB b.length (rowF eB b)); rw [toL_b]; exact hb
    · show (toL eB b.length (rowF eB b)).length ≤ _; rw [toL_len]; omega
    · rename_i ho hr
      obtain ⟨hd, hh⟩ := f3 hr
      have h1 : IntKind.u16.wrap s = nmL b 6 2 := w16_at hb (a := 6) (pn_at hs (toL_b b))
      have hF : headF b = { noM with a := { noA with ty := byt b 0, hops := byt b 4, life := nmL b 6 2 } } := by
        unfold headF
        rw [if_neg (not_dup_134 hd), if_pos hd]
      refine ⟨(), [(4, some 42), (3, some 28)], rfl, ?_, ?_⟩
      · repeat' (first | exact trivial | exact rfl | exact leF_ptr rfl | exact leF_int rfl | exact leF_bool rfl | exact leF_cl (cl_slB _ _) | exact leF_cl (cl_slR _ _) | exact leF_cl (cl_ll _ _) | exact leF_c (leC_os rfl rfl) | refine leF_int ?_ | refine leF_bool ?_ | exact leN_varA (fun _ _ => (Elem.flat _ _ _).le) | exact leN_varA (fun _ _ => leC_top) | apply And.intro)
      · refine ⟨⟨rfl, ?_⟩, ⟨rfl, ?_⟩, ⟨rfl, ?_⟩, ⟨rfl, ?_⟩, ⟨rfl, ?_⟩, trivial⟩
        · exact leN_varA fun _ _ => (Elem.flat _ _ _).le
        · exact leN_varA fun _ _ => (Elem.flat _ _ _).le
        · refine leN_varA fun j hj => ?_
          iterate 48 (rcases j with _ | j; · first | exact leC_int rfl | exact leC_bool rfl | exact leC_nils)
          exact absurd hj (by show ¬ _ < 48; omega)
        · exact leN_varA fun _ _ => (Elem.flat _ _ _).le
        · refine leN_par rfl (fun j hj => ?_) (leC_cl (cl_slB eB b))
          rw [hF]
          iterate 48 (rcases j with _ | j; · first | exact leC_int rfl | exact leC_bool rfl | exact leC_nils | exact leC_int h1)
          exact absurd hj (by omega)
    · have := hsz ht; have := f2 (by assumption) (by assumption); show 0 ≤ IntKind.i64.wrap (H.size - 16); rw [IntWalk.i64_in _ (by omega)]; omega
    · have := hsz ht; have := f2 (by assumption) (by assumption); show IntKind.i64.wrap (H.size - 16) + 16 ≤ ((toL eB b.length (rowF eB b)).length : Int); rw [toL_len, IntWalk.i64_in _ (by omega)]; omega
    · rename_i ho hr
      obtain ⟨hd, hh⟩ := f2 hc ho
      have hz := hsz ht
      have q : s = ipF b 8 := (pi_at hs (toL_b b)).trans (by show ipF b (IntKind.i64.wrap (H.size - 16)).toNat = _; rw [IntWalk.i64_in _ (by omega)]; exact congrArg (ipF b) (by omega))
      clear hs
      subst q
      have hF : headF b = { noM with a := { noA with ty := byt b 0, tgt := ipF b 8 } } := by
        unfold headF
        rw [if_neg (not_dup_nb hd), if_neg (fun h => not_nb_134 h hd), if_pos hd]
      refine ⟨(), [(4, some 42), (3, some 28)], rfl, ?_, ?_⟩
      · repeat' (first | exact trivial | exact rfl | exact leF_ptr rfl | exact leF_int rfl | exact leF_bool rfl | exact leF_cl (cl_slB _ _) | exact leF_cl (cl_slR _ _) | exact leF_cl (cl_ll _ _) | exact leF_c (leC_os rfl rfl) | refine leF_int ?_ | refine leF_bool ?_ | exact leN_varA (fun _ _ => (Elem.flat _ _ _).le) | exact leN_varA (fun _ _ => leC_top) | apply And.intro)
      · refine ⟨⟨rfl, ?_⟩, ⟨rfl, ?_⟩, ⟨rfl, ?_⟩, ⟨rfl, ?_⟩, ⟨rfl, ?_⟩, trivial⟩
        · exact leN_varA fun _ _ => (Elem.flat _ _ _).le
        · exact leN_varA fun _ _ => (Elem.flat _ _ _).le
        · refine leN_varA fun j hj => ?_
          iterate 48 (rcases j with _ | j; · first | exact leC_int rfl | exact leC_bool rfl | exact leC_nils)
          exact absurd hj (by show ¬ _ < 48; omega)
        · exact leN_varA fun _ _ => (Elem.flat _ _ _).le
        · refine leN_par rfl (fun j hj => ?_) (leC_cl (cl_slB eB b))
          rw [hF]
          iterate 48 (rcases j with _ | j; · first | exact leC_int rfl | exact leC_bool rfl | exact leC_nils)
          exact absurd hj (by omega)
    · rename_i ho hr
      obtain ⟨n1, n2, n3⟩ := f4 ho hr hc
      have hF : headF b = { noM with a := { noA with ty := byt b 0 } } := by
        unfold headF
        rw [if_neg n1, if_neg n2, if_neg n3]
      refine ⟨(), [(4, some 42), (3, some 28)], rfl, ?_, ?_⟩
      · repeat' (first | exact trivial | exact rfl | exact leF_ptr rfl | exact leF_int rfl | exact leF_bool rfl | exact leF_cl (cl_slB _ _) | exact leF_cl (cl_slR _ _) | exact leF_cl (cl_ll _ _) | exact leF_c (leC_os rfl rfl) | refine leF_int ?_ | refine leF_bool ?_ | exact leN_varA (fun _ _ => (Elem.flat _ _ _).le) | exact leN_varA (fun _ _ => leC_top) | apply And.intro)
      · refine ⟨⟨rfl, ?_⟩, ⟨rfl, ?_⟩, ⟨rfl, ?_⟩, ⟨rfl, ?_⟩, ⟨rfl, ?_⟩, trivial⟩
        · exact leN_varA fun _ _ => (Elem.flat _ _ _).le
        · exact leN_varA fun _ _ => (Elem.flat _ _ _).le
        · refine leN_varA fun j hj => ?_
          iterate 48 (rcases j with _ | j; · first | exact leC_int rfl | exact leC_bool rfl | exact leC_nils)
          exact absurd hj (by show ¬ _ < 48; omega)
        · exact leN_varA fun _ _ => (Elem.flat _ _ _).le
        · refine leN_par rfl (fun j hj => ?_) (leC_cl (cl_slB eB b))
          rw [hF]
          iterate 48 (rcases j with _ | j; · first | exact leC_int rfl | exact leC_bool rfl | exact leC_nils)
          exact absurd hj (by omega)
  intro _
  exact dd2 b src dst H W hb hs0 hd0 hl (hsz ht) hle (if_pos ⟨ht1 ht, hle⟩) (e3 (by omega) h6)
abbrev ddecE : Entry := pureE (AC.cons (cSl eB eB_sz) (AC.cons (cE (eA .u8 16)) (AC.cons (cE (eA .u8 16)) AC.nil))) (fun a => BL a.1 ∧ byteOk a.2.1 ∧ byteOk a.2.2.1 ∧ a.1.length ≤ 1099511627776) (fun a => decDM a.1 a.2.1 a.2.2.1) encMD
theorem ddecE_ok : EntOk Try.prog 21 ddecE := pureE_ok ⟨_, Try.func21, rfl, by kernel_rfl⟩ fun a h => ddec_ok a.1 a.2.1 a.2.2.1 h.1 h.2.1 h.2.2.1 h.2.2.2
end Go.Proofs.Ythbhidfohdipnaa.AX

/- What the makers draw from a tape: valid link addresses; contexts. -/
namespace Go.Proofs.Ythbhidfohdipnaa.AX
open Go.RowKit
set_option linter.unusedVariables false
set_option linter.unusedSimpArgs false
structure AdrW (a : Adr) : Prop where
  v : adrValid a = true
  short : 0 ≤ a.short ∧ a.short < 65536
  eui : 0 ≤ a.eui ∧ a.eui < 18446744073709551616
structure DevW (a : Adr) : Prop where
  s : adrSome a = true
  w : AdrW a
theorem wr16 (z : Int) : 0 ≤ IntKind.u16.wrap z ∧ IntKind.u16.wrap z < 65536 := by
  simp only [IntKind.wrap, IntKind.signed, IntKind.bits]
  constructor
  · exact Int.emod_nonneg _ (by decide)
  · exact Int.emod_lt_of_pos _ (by decide)
theorem wr64 (z : Int) : 0 ≤ IntKind.u64.wrap z ∧ IntKind.u64.wrap z < 18446744073709551616 := by
  simp only [IntKind.wrap, IntKind.signed, IntKind.bits]
  constructor
  · exact Int.emod_nonneg _ (by decide)
  · exact Int.emod_lt_of_pos _ (by decide)
theorem z16 : (0 : Int) ≤ 0 ∧ (0 : Int) < 65536 := by decide
theorem z64 : (0 : Int) ≤ 0 ∧ (0 : Int) < 18446744073709551616 := by decide
theorem dev_3 {e : Int} (h : 0 ≤ e ∧ e < 18446744073709551616) : DevW ⟨3, 0, e⟩ := ⟨rfl, rfl, z16, h⟩
theorem dev_2 {e : Int} (h : 0 ≤ e ∧ e < 65536) : DevW ⟨2, e, 0⟩ := ⟨rfl, rfl, h, z64⟩
set_option maxRecDepth 10000 in
theorem device2_ok (n : Nat) (l : List Int) (q : Int) (ht : TapeOk n (rI l) q) :
    ∃ (r : Adr) (q' : Int), DevW r ∧ TapeOk n (rI l) q' ∧ MethOk Try.prog 51 [] (tapeN n (rI l) q) ((cE eAdr).enc r) (tapeN n (rI l) q') := by
  refine tape_intro (wd := 1) (Q := mkQ LT1) (by decide) tysOk (q_of LT1_ok) mixed Try.func51 rfl _ (by show 0 + 1 ≤ _; decide) (nff_elem eAdr) ?_
  repeat' (first | (apply And.intro <;> intro hc <;> (first | exact Bool.noConfusion hc | (simp only [decide_eq_true_eq, decide_eq_false_iff_not, Bool.not_eq_true', Bool.not_eq_false', beq_iff_eq, beq_eq_false_iff_ne, bne_iff_ne, bne_eq_false_iff_eq, Bool.true_eq_false, Bool.false_eq_true] at hc) | skip)) | (refine And.intro (by first | exact trivial | decide | omega | (dsimp only; omega) | exact fun _ _ => rfl | exact ⟨by assumption, by first | exact trivial | decide | omega | (dsimp only; omega)⟩) ?_) | (apply And.intro) | (intro s hs))
  · exact ⟨(⟨3, 0, _⟩, _), ⟨dev_3 (wr64 _), by assumption⟩, ⟨leF_e (leE_all ⟨⟨⟨trivial, leC_int rfl⟩, leC_int rfl⟩, leC_int rfl⟩), tapeN_le⟩⟩
  · exact ⟨(⟨2, _, 0⟩, _), ⟨dev_2 (wr16 _), by assumption⟩, ⟨leF_e (leE_all ⟨⟨⟨trivial, leC_int rfl⟩, leC_int rfl⟩, leC_int rfl⟩), tapeN_le⟩⟩
abbrev dev2E : Entry := tapeE AC.nil (fun _ => True) (fun a (r : Adr) => DevW r) (cE eAdr).enc
def LT3 : CsL := (51, some dev2E) :: LT2
theorem LT3_ok : AllOk Try.prog LT3 := ⟨tapeE_ok ⟨_, Try.func51, rfl, by kernel_rfl⟩ fun n l q a ht hp => device2_ok n l q ht, LT2_ok⟩
theorem addr2_ok (n : Nat) (l : List Int) (q : Int) (ht : TapeOk n (rI l) q) :
    ∃ (r : Adr) (q' : Int), AdrW r ∧ TapeOk n (rI l) q' ∧ MethOk Try.prog 25 [] (tapeN n (rI l) q) ((cE eAdr).enc r) (tapeN n (rI l) q') := by
  refine tape_intro (wd := 1) (Q := mkQ LT3) (by decide) tysOk (q_of LT3_ok) mixed Try.func25 rfl _ (by show 0 + 1 ≤ _; decide) (nff_elem eAdr) ?_
  repeat' (first | (apply And.intro <;> intro hc <;> (first | exact Bool.noConfusion hc | (simp only [decide_eq_true_eq, decide_eq_false_iff_not, Bool.not_eq_true', Bool.not_eq_false', beq_iff_eq, beq_eq_false_iff_ne, bne_iff_ne, bne_eq_false_iff_eq, Bool.true_eq_false, Bool.false_eq_true] at hc) | skip)) | (refine And.intro (by first | exact trivial | decide | omega | (dsimp only; omega) | exact fun _ _ => rfl | exact ⟨by assumption, by first | exact trivial | decide | omega | (dsimp only; omega)⟩) ?_) | (apply And.intro) | (intro s hs))
  · exact ⟨(⟨2, 65535, 0⟩, _), ⟨(dev_2 (e := 65535) (by decide)).w, by assumption⟩, ⟨leF_e (leE_all ⟨⟨⟨trivial, leC_int rfl⟩, leC_int rfl⟩, leC_int rfl⟩), tapeN_le⟩⟩
  · exact ⟨(⟨0, 0, 0⟩, _), ⟨⟨rfl, z16, z64⟩, by assumption⟩, ⟨leF_e (leE_all ⟨⟨⟨trivial, leC_int rfl⟩, leC_int rfl⟩, leC_int rfl⟩), tapeN_le⟩⟩
  · rename_i r hr
    exact ⟨(r, _), ⟨hr.w, by assumption⟩, ⟨leF_e (leE_all ⟨⟨⟨trivial, leC_int rfl⟩, leC_int rfl⟩, leC_int rfl⟩), tapeN_le⟩⟩
abbrev addr2E : Entry := tapeE AC.nil (fun _ => True) (fun a (r : Adr) => AdrW r) (cE eAdr).enc
structure madeL (L : List Ctx) : Prop where
  v : validT L = true
  n : L.length ≤ 16
  b : ∀ c ∈ L, byteOk c.ip
structure CtxS (n : Nat) (l : List Int) where
  i : Nat
  L : List Ctx
  q : Int
  hi : i ≤ 16
  hv : validT L = true
  hid : ∀ c ∈ L, c.id < i
  hn : L.length ≤ i
  hb : ∀ c ∈ L, byteOk c.ip
  ht : TapeOk n (rI l) q
def LT4 : CsL := (25, some addr2E) :: LT3
theorem LT4_ok : AllOk Try.prog LT4 := ⟨tapeE_ok ⟨_, Try.func25, rfl, by kernel_rfl⟩ fun n l q a ht hp => addr2_ok n l q ht, LT3_ok⟩
end Go.Proofs.Ythbhidfohdipnaa.AX

/- What the makers draw from a tape: messages of layer 20. (Printed by gen/gmsg.py, gen/gm134.py.) -/
namespace Go.Proofs.Ythbhidfohdipnaa.AX
open Go.RowKit
set_option linter.unusedVariables false
set_option linter.unusedSimpArgs false
theorem wm4 (z : Int) : 0 ≤ (IntKind.u64.wrap z).tmod 4 ∧ (IntKind.u64.wrap z).tmod 4 < 18446744073709551616 := by
  have h := (wr64 z).1
  rw [Int.tmod_eq_emod_of_nonneg h]; omega
theorem wr8 (z : Int) : 0 ≤ IntKind.u8.wrap z ∧ IntKind.u8.wrap z < 256 := by
  simp only [IntKind.wrap, IntKind.signed, IntKind.bits]
  constructor
  · exact Int.emod_nonneg _ (by decide)
  · exact Int.emod_lt_of_pos _ (by decide)
theorem wr32 (z : Int) : 0 ≤ IntKind.u32.wrap z ∧ IntKind.u32.wrap z < 4294967296 := by
  simp only [IntKind.wrap, IntKind.signed, IntKind.bits]
  constructor
  · exact Int.emod_nonneg _ (by decide)
  · exact Int.emod_lt_of_pos _ (by decide)
theorem word2_ok (n : Nat) (l : List Int) (q : Int) (ht : TapeOk n (rI l) q) :
    ∃ (r q' : Int), (0 ≤ r ∧ r < 18446744073709551616) ∧ TapeOk n (rI l) q' ∧ MethOk Try.prog 24 [] (tapeN n (rI l) q) ((cI .u64).enc r) (tapeN n (rI l) q') := by
  refine tape_intro (wd := 1) (Q := mkQ LT0) (by decide) tysOk (q_of LT0_ok) mixed Try.func24 rfl _ (by show 0 + 1 ≤ _; decide) (fun _ => nff_int) ?_
  repeat' (first | (apply And.intro <;> intro hc <;> (first | exact Bool.noConfusion hc | (simp only [decide_eq_true_eq, decide_eq_false_iff_not, Bool.not_eq_true', Bool.not_eq_false', beq_iff_eq, beq_eq_false_iff_ne, bne_iff_ne, bne_eq_false_iff_eq, Bool.true_eq_false, Bool.false_eq_true] at hc) | skip)) | (refine And.intro (by first | exact trivial | decide | omega | (dsimp only; omega) | exact fun _ _ => rfl | exact ⟨by assumption, by first | exact trivial | decide | omega | (dsimp only; omega)⟩) ?_) | (apply And.intro) | (intro s hs))
  all_goals
    refine ⟨(_, _), ⟨?_, by assumption⟩, ⟨leF_int rfl, tapeN_le⟩⟩
    first | exact wr64 _ | exact wm4 _
set_option maxRecDepth 10000 in
theorem ipT_ok (n : Nat) (l : List Int) (q : Int) (a : Adr) (ht : TapeOk n (rI l) q) :
    ∃ (r : Fin 16 → Int) (q' : Int), byteOk r ∧ TapeOk n (rI l) q' ∧ MethOk Try.prog 29 [(cE eAdr).enc a] (tapeN n (rI l) q) ((cE (eA .u8 16)).enc r) (tapeN n (rI l) q') := by
  refine tape_intro (wd := 1) (Q := mkQ LT2) (by decide) tysOk (q_of LT2_ok) mixed Try.func29 rfl _ (by show 1 + 1 ≤ _; decide) (nff_elem (eA .u8 16)) ?_
  repeat' (first | (apply And.intro <;> intro hc <;> (first | exact Bool.noConfusion hc | (simp only [decide_eq_true_eq, decide_eq_false_iff_not, Bool.not_eq_true', Bool.not_eq_false', beq_iff_eq, beq_eq_false_iff_ne, bne_iff_ne, bne_eq_false_iff_eq, Bool.true_eq_false, Bool.false_eq_true] at hc) | skip)) | (refine And.intro (by first | exact trivial | decide | omega | (dsimp only; omega) | exact fun _ _ => rfl | exact ⟨by assumption, by first | exact trivial | decide | omega | (dsimp only; omega)⟩) ?_) | (apply And.intro) | (intro s hs))
  all_goals first
    | exact ⟨(s, _), ⟨by rw [hs]; exact of_byteOk _ _, by assumption⟩, ⟨leF_e (leE_all (by repeat' (first | exact trivial | exact rfl | exact leC_int rfl | exact leC_bool rfl | refine leE_all ?_ | exact leC_bool (by assumption) | apply And.intro))), tapeN_le⟩⟩
    | (rename_i r hr; exact ⟨(r, _), ⟨hr, by assumption⟩, ⟨leF_e (leE_all (by repeat' (first | exact trivial | exact rfl | exact leC_int rfl | exact leC_bool rfl | refine leE_all ?_ | exact leC_bool (by assumption) | apply And.intro))), tapeN_le⟩⟩)
    | exact ⟨(fun _ => 0, _), ⟨⟨fun q => show (0 : Int) ≤ 0 ∧ (0 : Int) < 256 from ⟨by decide, by decide⟩⟩, by assumption⟩, ⟨leF_e (leE_all (by repeat' (first | exact trivial | exact rfl | exact leC_int rfl | exact leC_bool rfl | refine leE_all ?_ | exact leC_bool (by assumption) | apply And.intro))), tapeN_le⟩⟩
abbrev word2E : Entry := tapeE AC.nil (fun _ => True) (fun a (r : Int) => 0 ≤ r ∧ r < 18446744073709551616) (cI .u64).enc
abbrev ipE1 : Entry := tapeE (AC.cons (cE eAdr) AC.nil) (fun _ => True) (fun a (r : Fin 16 → Int) => byteOk r) (cE (eA .u8 16)).enc
def LM : CsL := (24, some word2E) :: (29, some ipE1) :: (26, some bcE) :: LT4
theorem LM_ok : AllOk Try.prog LM := ⟨tapeE_ok ⟨_, Try.func24, rfl, by kernel_rfl⟩ fun n l q a ht _ => word2_ok n l q ht, tapeE_ok ⟨_, Try.func29, rfl, by kernel_rfl⟩ fun n l q a ht _ => ipT_ok n l q a.1 ht, pureE_ok ⟨_, Try.func26, rfl, by kernel_rfl⟩ fun a _ => rabc_ok a.1, LT4_ok⟩
structure MsgV (m : Msg) : Prop where
  r : MsgR m
  v : ValM m
structure AdrG (A : Adr) : Prop where
  w : AdrW A
  b : bcast A = false
def mkMA (ty : Int) (A : Adr) : MA := { noA with ty := ty, mode := A.mode, short := A.short, eui := A.eui }
theorem adr0 : AdrG ⟨0, 0, 0⟩ := ⟨⟨rfl, z16, z64⟩, rfl⟩
theorem n_dup {t : Int} (h : t = 133 ∨ t = 134) : ¬ isDup t := by unfold isDup; omega
theorem mv_133 {A : Adr} (h : AdrG A) : MsgV ⟨mkMA 133 A, [], [], noZ⟩ :=
  ⟨⟨⟨⟨(by decide : (0 : Int) ≤ 133), (by decide : (133 : Int) < 256)⟩, zr8, zr16, zA_r, h.w.short, h.w.eui, zr64, zr8, zr8, zr16⟩, (fun x hx => by cases hx), (fun x hx => by cases hx), noZ_r⟩,
   ⟨.inl rfl, h.w.v, h.b, Nat.zero_le _, Nat.zero_le _, (fun x hx => by cases hx), (fun x hx => by cases hx), .inr rfl, .inr rfl, .inr ⟨rfl, rfl, rfl, rfl, rfl⟩, .inr (.inr ⟨rfl, rfl⟩), .inl (n_dup (t := 133) (.inl rfl))⟩⟩
def ownW (a : MA) (x y z w : Int) : MA := { a with hasO := true, ostat := IntKind.u8.wrap x, oseq := IntKind.u8.wrap y, olife := IntKind.u16.wrap z, oeui := w }
theorem ty_r {t : Int} (h : isNb t ∨ isDup t) : 0 ≤ t ∧ t < 256 := by unfold isNb isDup at h; omega
theorem mv_nb {ty : Int} {A : Adr} {T : Fin 16 → Int} (ht : isNb ty) (h : AdrG A) (hT : byteOk T) : MsgV ⟨{ mkMA ty A with tgt := T }, [], [], noZ⟩ :=
  ⟨⟨⟨ty_r (.inl ht), zr8, zr16, hT, h.w.short, h.w.eui, zr64, zr8, zr8, zr16⟩, (fun x hx => by cases hx), (fun x hx => by cases hx), noZ_r⟩,
   ⟨.inr (.inr (.inl ht)), h.w.v, h.b, Nat.zero_le _, Nat.zero_le _, (fun x hx => by cases hx), (fun x hx => by cases hx), .inr rfl, .inr rfl, .inr ⟨rfl, rfl, rfl, rfl, rfl⟩, .inl ht, .inl (not_dup_nb ht)⟩⟩
theorem mv_nbo {ty x y z w : Int} {A : Adr} {T : Fin 16 → Int} (ht : isNb ty) (h : AdrG A) (hT : byteOk T) (hw : 0 ≤ w ∧ w < 18446744073709551616) : MsgV ⟨ownW { mkMA ty A with tgt := T } x y z w, [], [], noZ⟩ :=
  ⟨⟨⟨ty_r (.inl ht), zr8, zr16, hT, h.w.short, h.w.eui, hw, wr8 _, wr8 _, wr16 _⟩, (fun x hx => by cases hx), (fun x hx => by cases hx), noZ_r⟩,
   ⟨.inr (.inr (.inl ht)), h.w.v, h.b, Nat.zero_le _, Nat.zero_le _, (fun x hx => by cases hx), (fun x hx => by cases hx), .inl rfl, .inr rfl, .inr ⟨rfl, rfl, rfl, rfl, rfl⟩, .inl ht, .inl (not_dup_nb ht)⟩⟩
theorem mv_dup {ty x y z w : Int} {T : Fin 16 → Int} (ht : isDup ty) (hT : byteOk T) (hw : 0 ≤ w ∧ w < 18446744073709551616) : MsgV ⟨ownW { mkMA ty ⟨0, 0, 0⟩ with tgt := T } x y z w, [], [], noZ⟩ :=
  ⟨⟨⟨ty_r (.inr ht), zr8, zr16, hT, z16, z64, hw, wr8 _, wr8 _, wr16 _⟩, (fun x hx => by cases hx), (fun x hx => by cases hx), noZ_r⟩,
   ⟨.inr (.inr (.inr ht)), rfl, rfl, Nat.zero_le _, Nat.zero_le _, (fun x hx => by cases hx), (fun x hx => by cases hx), .inl rfl, .inr rfl, .inr ⟨rfl, rfl, rfl, rfl, rfl⟩, .inr (.inl ht), .inr ⟨rfl, rfl⟩⟩⟩
structure PG (L : List PI) : Prop where
  r : ∀ x ∈ L, PIr x
  v : ∀ x ∈ L, vpf (pfxP x) = true
structure CG (L : List CI) : Prop where
  r : ∀ x ∈ L, CIr x
  v : ∀ x ∈ L, okC x = true
structure ZG (z : MZ) : Prop where
  r : MZr z
  v : z.hasB = true ∨ borZ z = true
theorem PG.snoc {L : List PI} (h : PG L) {p : PI} (hr : PIr p) (hv : vpf (pfxP p) = true) : PG (L ++ [p]) :=
  ⟨fun x hx => (List.mem_append.1 hx).elim (h.r x) fun h => by rw [List.mem_singleton.1 h]; exact hr, fun x hx => (List.mem_append.1 hx).elim (h.v x) fun h => by rw [List.mem_singleton.1 h]; exact hv⟩
theorem CG.snoc {L : List CI} (h : CG L) {p : CI} (hr : CIr p) (hv : okC p = true) : CG (L ++ [p]) :=
  ⟨fun x hx => (List.mem_append.1 hx).elim (h.r x) fun h => by rw [List.mem_singleton.1 h]; exact hr, fun x hx => (List.mem_append.1 hx).elim (h.v x) fun h => by rw [List.mem_singleton.1 h]; exact hv⟩
theorem mv_134 {x y : Int} {A : Adr} {P : List PI} {C : List CI} {Z : MZ} (h : AdrG A) (hP : PG P) (hC : CG C) (hZ : ZG Z) (np : P.length ≤ 16) (nc : C.length ≤ 16) : MsgV ⟨{ mkMA 134 A with hops := IntKind.u8.wrap x, life := IntKind.u16.wrap y }, P, C, Z⟩ :=
  ⟨⟨⟨⟨(by decide : (0 : Int) ≤ 134), (by decide : (134 : Int) < 256)⟩, wr8 _, wr16 _, zA_r, h.w.short, h.w.eui, zr64, zr8, zr8, zr16⟩, hP.r, hC.r, hZ.r⟩,
   ⟨.inr (.inl rfl), h.w.v, h.b, np, nc, hP.v, hC.v, .inr rfl, hZ.v, .inl rfl, .inr (.inr ⟨rfl, rfl⟩), .inl (n_dup (t := 134) (.inr rfl))⟩⟩
theorem pfP_mk {p : Pfx} {v : Int} {b1 b2 : Bool} (h : vpf p = true) : vpf (pfxP ⟨p.ip, p.bits, b1, b2, v⟩) = true := h
theorem okC_mk {p : Pfx} {d v : Int} {b : Bool} (h : vpf p = true) (hd : 0 ≤ d ∧ d < 16) : okC ⟨d, p.ip, p.bits, b, v⟩ = true := by
  unfold okC
  rw [show vpf (pfxC ⟨d, p.ip, p.bits, b, v⟩) = true from h, decide_eq_true hd.1, decide_eq_true hd.2]; rfl
structure M1 (n : Nat) (l : List Int) where
  P : List PI
  i : Int
  q : Int
  h0 : 0 ≤ i
  hi : i + P.length ≤ 2
  hP : PG P
  ht : TapeOk n (rI l) q
structure M2 (n : Nat) (l : List Int) where
  C : List CI
  i : Int
  q : Int
  h0 : 0 ≤ i
  hi : i + C.length ≤ 2
  hC : CG C
  ht : TapeOk n (rI l) q
def mE38 (a : MA) (P C : CV) : Ent := ⟨38, 1, 48, true, fun _ => msgC a P C noZ⟩
set_option maxHeartbeats 8000000 in
set_option maxRecDepth 20000 in
theorem message_ok (n : Nat) (l : List Int) (q : Int) (ht : TapeOk n (rI l) q) :
    ∃ (r : Msg) (q' : Int), MsgV r ∧ TapeOk n (rI l) q' ∧ MethOk Try.prog 9 [] (tapeN n (rI l) q) (.e (msgR r)) (tapeN n (rI l) q') := by
  refine tape_intro (enc := fun m => .e (msgR m)) (S := MsgV) (wd := 1) (Q := mkQ LM) (by decide) tysOk (q_of LM_ok) mixed Try.func9 rfl _ (by show 0 + 1 ≤ _; decide) (fun _ => nfE_msg) ?_
  refine And.intro ⟨ht, by decide, by decide⟩ ?_
  intro t htt q1 hq1
  have htt : 0 ≤ t ∧ t < 6 := htt
  obtain h | h | h | h | h | h : t = 0 ∨ t = 1 ∨ t = 2 ∨ t = 3 ∨ t = 4 ∨ t = 5 := by omega
  · subst h
    refine And.intro (by decide) ?_
    refine And.intro (by decide) ?_
    refine And.intro (by exact ⟨by assumption, trivial⟩) ?_
    intro w hw q2 hq2
    refine And.intro (by exact ⟨by assumption, by decide, by decide⟩) ?_
    intro y hy q3 hq3
    refine And.intro (by exact ⟨by assumption, by decide, by decide⟩) ?_
    intro x hx q4 hq4
    refine And.intro (by exact ⟨by assumption, by decide, by decide⟩) ?_
    intro z hz q5 hq5
    repeat' (first | (apply And.intro <;> intro hc <;> (first | exact Bool.noConfusion hc | (simp only [decide_eq_true_eq, decide_eq_false_iff_not, Bool.not_eq_true', Bool.not_eq_false', beq_iff_eq, beq_eq_false_iff_ne, bne_iff_ne, bne_eq_false_iff_eq, Bool.true_eq_false, Bool.false_eq_true] at hc) | skip)) | (refine And.intro (by first | exact trivial | decide | omega | (dsimp only; omega) | exact fun _ _ => rfl | exact ⟨by assumption, by first | exact trivial | decide | omega | (dsimp only; omega)⟩) ?_) | (apply And.intro) | (intro s hs))
    · refine ⟨(⟨mkMA 133 ⟨0, 0, 0⟩, [], [], noZ⟩, _), ⟨mv_133 adr0, by assumption⟩, ⟨leF_e (leE_msg rfl (fun j hj => ?_) (leC_nils_sl rfl) (leC_nils_sl rfl) (fun j hj => ?_)), tapeN_le⟩⟩
      · iterate 27 (rcases j with _ | j; · first | exact leC_int rfl | exact leC_bool rfl)
        exact absurd hj (by omega)
      · iterate 19 (rcases j with _ | j; · first | exact leC_int rfl | exact leC_bool rfl)
        exact absurd hj (by omega)
    · rename Adr => A
      rename AdrW _ => hA
      have hA' : AdrG A := ⟨hA, by have h : s = bcast A := hs
                                   rw [← h]; assumption⟩
      refine ⟨(⟨mkMA 133 A, [], [], noZ⟩, _), ⟨mv_133 hA', by assumption⟩, ⟨leF_e (leE_msg rfl (fun j hj => ?_) (leC_nils_sl rfl) (leC_nils_sl rfl) (fun j hj => ?_)), tapeN_le⟩⟩
      · iterate 27 (rcases j with _ | j; · first | exact leC_int rfl | exact leC_bool rfl)
        exact absurd hj (by omega)
      · iterate 19 (rcases j with _ | j; · first | exact leC_int rfl | exact leC_bool rfl)
        exact absurd hj (by omega)
  · subst h
    refine And.intro (by decide) ?_
    refine And.intro (by decide) ?_
    refine And.intro (by exact ⟨by assumption, trivial⟩) ?_
    intro w hw q2 hq2
    refine And.intro (by exact ⟨by assumption, by decide, by decide⟩) ?_
    intro y hy q3 hq3
    refine And.intro (by exact ⟨by assumption, by decide, by decide⟩) ?_
    intro x hx q4 hq4
    refine And.intro (by exact ⟨by assumption, by decide, by decide⟩) ?_
    intro z hz q5 hq5
    repeat' (first | (apply And.intro <;> intro hc <;> (first | exact Bool.noConfusion hc | (simp only [decide_eq_true_eq, decide_eq_false_iff_not, Bool.not_eq_true', Bool.not_eq_false', beq_iff_eq, beq_eq_false_iff_ne, bne_iff_ne, bne_eq_false_iff_eq, Bool.true_eq_false, Bool.false_eq_true] at hc) | skip)) | (refine And.intro (by first | exact trivial | decide | omega | (dsimp only; omega) | exact fun _ _ => rfl | exact ⟨by assumption, by first | exact trivial | decide | omega | (dsimp only; omega)⟩) ?_) | (apply And.intro) | (intro s hs))
    · rename_i A hA q6 hq6 bc hbc c1 a ha q7 hq7 b hb q8 hq8 k hk
      have hk : 0 ≤ k ∧ k < 3 := hk
      have hk3 : k + ([] : List PI).length ≤ 2 := by have := hk.2; simp only [List.length_nil]; omega
      refine loop_intro (mono_of LM_ok) (fun s : M1 n l => (⟨[(0, one (.ptr 0 0 0 false)), (2, one (.ptr 1 0 0 false)), (3, one (.ptr 8 0 0 false)), (5, one (.int .i64 s.i))], [(0, some (tapeN n (rI l) s.q)), (1, some zEnt), (8, some (mE38 { mkMA 134 ⟨0, 0, 0⟩ with hops := IntKind.u8.wrap a, life := IntKind.u16.wrap b } (.os 9001 0 s.P.length) .nils)), (9001, some (enP s.P))], 9002⟩ : Hd)) (fun s => s.i.toNat) (fun _ => rfl) ?_ ⟨[], k, s, hk.1, hk3, ⟨(fun x hx => by cases hx), (fun x hx => by cases hx)⟩, hs⟩ [(9001, none)] ?_
      · rintro ⟨P, i, q6, h0, hi, hP, ht6⟩
        dsimp only at h0 hi hP ht6 ⊢
        repeat' (first | (apply And.intro <;> intro hc <;> (first | exact Bool.noConfusion hc | (simp only [decide_eq_true_eq, decide_eq_false_iff_not, Bool.not_eq_true', Bool.not_eq_false', beq_iff_eq, beq_eq_false_iff_ne, bne_iff_ne, bne_eq_false_iff_eq, Bool.true_eq_false, Bool.false_eq_true] at hc) | skip)) | (refine And.intro (by first | exact trivial | decide | omega | (dsimp only; omega) | exact fun _ _ => rfl | exact ⟨by assumption, by first | exact trivial | decide | omega | (dsimp only; omega)⟩) ?_) | (apply And.intro) | (intro s hs))
        · rename_i p hp q9 hq9 b1 hb1 q10 hq10 b2 hb2 q11 hq11 v hv
          have w1 : IntKind.i64.wrap (i - 1) = i - 1 := IntWalk.i64_in _ (by omega)
          refine ⟨⟨P ++ [⟨p.ip, p.bits, b1, b2, IntKind.u32.wrap v⟩], IntKind.i64.wrap (i - 1), s, by omega, by rw [List.length_append]; simp only [List.length_cons, List.length_nil]; omega, hP.snoc ⟨hp.2, wr32 _⟩ (pfP_mk hp.1), hs⟩, [(9001, some 9017)], by dsimp only; omega, rfl, ⟨leF_ptr rfl, leF_ptr rfl, leF_ptr rfl, leF_int rfl, trivial⟩, ⟨rfl, tapeN_le⟩, ⟨rfl, leN_zE⟩, ⟨rfl, ?_⟩, ⟨rfl, ?_⟩, trivial⟩
          · refine leN_varA fun j hj => ?_
            iterate 48 (rcases j with _ | j; · first | exact leC_int rfl | exact leC_bool rfl | exact leC_nils | exact leC_nils_os rfl | exact leC_os rfl rfl | exact leC_os rfl (by rw [List.length_append]; rfl))
            exact absurd hj (by omega)
          · change LeN _ _ _
            refine leN_snoc (E := ePI) (L := P) (x := ⟨p.ip, p.bits, b1, b2, IntKind.u32.wrap v⟩) rfl (fun i hi j hj => selC_in (Nat.ble_eq_true_of_le hi) (Elem.flat _ _ _).le) ?_
            repeat' (first | exact trivial | (refine selC_out (blt_self _) ?_; rw [Nat.sub_self]; first | exact leC_int rfl | exact leC_bool rfl) | apply And.intro)
        · rename_i k2 hk2
          have hk2 : 0 ≤ k2 ∧ k2 < 3 := hk2
          have hk4 : k2 + ([] : List CI).length ≤ 2 := by have := hk2.2; simp only [List.length_nil]; omega
          refine loop_intro (mono_of LM_ok) (fun s : M2 n l => (⟨[(0, one (.ptr 0 0 0 false)), (2, one (.ptr 1 0 0 false)), (3, one (.ptr 8 0 0 false)), (6, one (.int .i64 s.i))], [(0, some (tapeN n (rI l) s.q)), (1, some zEnt), (8, some (mE38 { mkMA 134 ⟨0, 0, 0⟩ with hops := IntKind.u8.wrap a, life := IntKind.u16.wrap b } (.os 9001 0 P.length) (.os 9102 0 s.C.length))), (9001, some (enP P)), (9102, some (enC s.C))], 9103⟩ : Hd)) (fun s => s.i.toNat) (fun _ => rfl) ?_ ⟨[], k2, s, hk2.1, hk4, ⟨(fun x hx => by cases hx), (fun x hx => by cases hx)⟩, hs⟩ [(9102, none)] ⟨rfl, ⟨leF_ptr rfl, leF_ptr rfl, leF_ptr rfl, leF_int rfl, trivial⟩, ⟨rfl, tapeN_le⟩, ⟨rfl, leN_zE⟩, ⟨rfl, ?_⟩, ⟨rfl, leN_ents⟩, ⟨rfl, rfl, rfl, Nat.le_of_ble_eq_true rfl⟩, trivial⟩
          · clear hk2 hk4 hs
            rintro ⟨C, i2, q16, h02, hi2, hC, ht16⟩
            dsimp only at h02 hi2 hC ht16 ⊢
            repeat' (first | (apply And.intro <;> intro hc <;> (first | exact Bool.noConfusion hc | (simp only [decide_eq_true_eq, decide_eq_false_iff_not, Bool.not_eq_true', Bool.not_eq_false', beq_iff_eq, beq_eq_false_iff_ne, bne_iff_ne, bne_eq_false_iff_eq, Bool.true_eq_false, Bool.false_eq_true] at hc) | skip)) | (refine And.intro (by first | exact trivial | decide | omega | (dsimp only; omega) | exact fun _ _ => rfl | exact ⟨by assumption, by first | exact trivial | decide | omega | (dsimp only; omega)⟩) ?_) | (apply And.intro) | (intro s hs))
            · rename_i d hd q9 hq9 p hp q10 hq10 b1 hb1 q11 hq11 v hv
              have hd : 0 ≤ d ∧ d < 16 := hd
              have w1 : IntKind.i64.wrap (i2 - 1) = i2 - 1 := IntWalk.i64_in _ (by omega)
              refine ⟨⟨C ++ [⟨d, p.ip, p.bits, b1, IntKind.u16.wrap v⟩], IntKind.i64.wrap (i2 - 1), s, by omega, by rw [List.length_append]; simp only [List.length_cons, List.length_nil]; omega, hC.snoc ⟨hp.2, wr16 _⟩ (okC_mk hp.1 hd), hs⟩, [(9102, some 9118)], by dsimp only; omega, rfl, ⟨leF_ptr rfl, leF_ptr rfl, leF_ptr rfl, leF_int rfl, trivial⟩, ⟨rfl, tapeN_le⟩, ⟨rfl, leN_zE⟩, ⟨rfl, ?_⟩, ⟨rfl, leN_ents⟩, ⟨rfl, ?_⟩, trivial⟩
              · refine leN_varA fun j hj => ?_
                iterate 48 (rcases j with _ | j; · first | exact leC_int rfl | exact leC_bool rfl | exact leC_nils | exact leC_nils_os rfl | exact leC_os rfl rfl | exact leC_os rfl (by rw [List.length_append]; rfl))
                exact absurd hj (by omega)
              · change LeN _ _ _
                refine leN_snoc (E := eCI) (L := C) (x := ⟨d, p.ip, p.bits, b1, IntKind.u16.wrap v⟩) rfl (fun i hi j hj => selC_in (Nat.ble_eq_true_of_le hi) (Elem.flat _ _ _).le) ?_
                repeat' (first | exact trivial | (refine selC_out (blt_self _) ?_; rw [Nat.sub_self]; first | exact leC_int rfl | exact leC_bool rfl) | apply And.intro)
            · rename_i b5 hb5 q15 hq15 c9 v1 hv1 q17 hq17 v2 hv2 q18 hq18 T hT
              refine ⟨(⟨{ mkMA 134 ⟨0, 0, 0⟩ with hops := IntKind.u8.wrap a, life := IntKind.u16.wrap b }, P, C, ⟨IntKind.u32.wrap v1, IntKind.u16.wrap v2, T, true⟩⟩, s), ⟨mv_134 adr0 hP hC ⟨⟨wr32 _, wr16 _, hT⟩, .inl rfl⟩ (by omega) (by omega), hs⟩, ⟨leF_e (leE_msg rfl (fun j hj => ?_) (leC_row_fin rfl rfl) (leC_row_fin rfl rfl) (fun j hj => ?_)), tapeN_le⟩⟩
              · iterate 27 (rcases j with _ | j; · first | exact leC_int rfl | exact leC_bool rfl)
                exact absurd hj (by omega)
              · iterate 19 (rcases j with _ | j; · first | exact leC_int rfl | exact leC_bool rfl)
                exact absurd hj (by omega)
            · refine ⟨(⟨{ mkMA 134 ⟨0, 0, 0⟩ with hops := IntKind.u8.wrap a, life := IntKind.u16.wrap b }, P, C, noZ⟩, s), ⟨mv_134 adr0 hP hC ⟨noZ_r, .inr rfl⟩ (by omega) (by omega), hs⟩, ⟨leF_e (leE_msg rfl (fun j hj => ?_) (leC_row_fin rfl rfl) (leC_row_fin rfl rfl) (fun j hj => ?_)), tapeN_le⟩⟩
              · iterate 27 (rcases j with _ | j; · first | exact leC_int rfl | exact leC_bool rfl)
                exact absurd hj (by omega)
              · iterate 19 (rcases j with _ | j; · first | exact leC_int rfl | exact leC_bool rfl)
                exact absurd hj (by omega)
          · refine leN_varA fun j hj => ?_
            iterate 48 (rcases j with _ | j; · first | exact leC_int rfl | exact leC_bool rfl | exact leC_nils | exact leC_nils_os rfl | exact leC_os rfl rfl | exact leC_os rfl (by rw [List.length_append]; rfl))
            exact absurd hj (by omega)
      · refine ⟨rfl, ⟨leF_ptr rfl, leF_ptr rfl, leF_ptr rfl, leF_int rfl, trivial⟩, ⟨rfl, tapeN_le⟩, ⟨rfl, ?_⟩, ⟨rfl, ?_⟩, ⟨rfl, rfl, rfl, Nat.le_of_ble_eq_true rfl⟩, trivial⟩
        · exact leN_zE
        · refine leN_varA fun j hj => ?_
          iterate 48 (rcases j with _ | j; · first | exact leC_int rfl | exact leC_bool rfl | exact leC_nils | exact leC_nils_os rfl | exact leC_os rfl rfl | exact leC_os rfl (by rw [List.length_append]; rfl))
          exact absurd hj (by show ¬ _ < 48; omega)
    · rename_i A hA q6 hq6 bc hbc c1 a ha q7 hq7 b hb q8 hq8 k hk
      have hA' : AdrG A := ⟨hA, by have h : bc = bcast A := hbc
                                   rw [← h]; exact c1⟩
      have hk : 0 ≤ k ∧ k < 3 := hk
      have hk3 : k + ([] : List PI).length ≤ 2 := by have := hk.2; simp only [List.length_nil]; omega
      refine loop_intro (mono_of LM_ok) (fun s : M1 n l => (⟨[(0, one (.ptr 0 0 0 false)), (2, one (.ptr 1 0 0 false)), (3, one (.ptr 8 0 0 false)), (5, one (.int .i64 s.i))], [(0, some (tapeN n (rI l) s.q)), (1, some zEnt), (8, some (mE38 { mkMA 134 A with hops := IntKind.u8.wrap a, life := IntKind.u16.wrap b } (.os 9001 0 s.P.length) .nils)), (9001, some (enP s.P))], 9002⟩ : Hd)) (fun s => s.i.toNat) (fun _ => rfl) ?_ ⟨[], k, s, hk.1, hk3, ⟨(fun x hx => by cases hx), (fun x hx => by cases hx)⟩, hs⟩ [(9001, none)] ?_
      · rintro ⟨P, i, q6, h0, hi, hP, ht6⟩
        dsimp only at h0 hi hP ht6 ⊢
        repeat' (first | (apply And.intro <;> intro hc <;> (first | exact Bool.noConfusion hc | (simp only [decide_eq_true_eq, decide_eq_false_iff_not, Bool.not_eq_true', Bool.not_eq_false', beq_iff_eq, beq_eq_false_iff_ne, bne_iff_ne, bne_eq_false_iff_eq, Bool.true_eq_false, Bool.false_eq_true] at hc) | skip)) | (refine And.intro (by first | exact trivial | decide | omega | (dsimp only; omega) | exact fun _ _ => rfl | exact ⟨by assumption, by first | exact trivial | decide | omega | (dsimp only; omega)⟩) ?_) | (apply And.intro) | (intro s hs))
        · rename_i p hp q9 hq9 b1 hb1 q10 hq10 b2 hb2 q11 hq11 v hv
          have w1 : IntKind.i64.wrap (i - 1) = i - 1 := IntWalk.i64_in _ (by omega)
          refine ⟨⟨P ++ [⟨p.ip, p.bits, b1, b2, IntKind.u32.wrap v⟩], IntKind.i64.wrap (i - 1), s, by omega, by rw [List.length_append]; simp only [List.length_cons, List.length_nil]; omega, hP.snoc ⟨hp.2, wr32 _⟩ (pfP_mk hp.1), hs⟩, [(9001, some 9017)], by dsimp only; omega, rfl, ⟨leF_ptr rfl, leF_ptr rfl, leF_ptr rfl, leF_int rfl, trivial⟩, ⟨rfl, tapeN_le⟩, ⟨rfl, leN_zE⟩, ⟨rfl, ?_⟩, ⟨rfl, ?_⟩, trivial⟩
          · refine leN_varA fun j hj => ?_
            iterate 48 (rcases j with _ | j; · first | exact leC_int rfl | exact leC_bool rfl | exact leC_nils | exact leC_nils_os rfl | exact leC_os rfl rfl | exact leC_os rfl (by rw [List.length_append]; rfl))
            exact absurd hj (by omega)
          · change LeN _ _ _
            refine leN_snoc (E := ePI) (L := P) (x := ⟨p.ip, p.bits, b1, b2, IntKind.u32.wrap v⟩) rfl (fun i hi j hj => selC_in (Nat.ble_eq_true_of_le hi) (Elem.flat _ _ _).le) ?_
            repeat' (first | exact trivial | (refine selC_out (blt_self _) ?_; rw [Nat.sub_self]; first | exact leC_int rfl | exact leC_bool rfl) | apply And.intro)
        · rename_i k2 hk2
          have hk2 : 0 ≤ k2 ∧ k2 < 3 := hk2
          have hk4 : k2 + ([] : List CI).length ≤ 2 := by have := hk2.2; simp only [List.length_nil]; omega
          refine loop_intro (mono_of LM_ok) (fun s : M2 n l => (⟨[(0, one (.ptr 0 0 0 false)), (2, one (.ptr 1 0 0 false)), (3, one (.ptr 8 0 0 false)), (6, one (.int .i64 s.i))], [(0, some (tapeN n (rI l) s.q)), (1, some zEnt), (8, some (mE38 { mkMA 134 A with hops := IntKind.u8.wrap a, life := IntKind.u16.wrap b } (.os 9001 0 P.length) (.os 9102 0 s.C.length))), (9001, some (enP P)), (9102, some (enC s.C))], 9103⟩ : Hd)) (fun s => s.i.toNat) (fun _ => rfl) ?_ ⟨[], k2, s, hk2.1, hk4, ⟨(fun x hx => by cases hx), (fun x hx => by cases hx)⟩, hs⟩ [(9102, none)] ⟨rfl, ⟨leF_ptr rfl, leF_ptr rfl, leF_ptr rfl, leF_int rfl, trivial⟩, ⟨rfl, tapeN_le⟩, ⟨rfl, leN_zE⟩, ⟨rfl, ?_⟩, ⟨rfl, leN_ents⟩, ⟨rfl, rfl, rfl, Nat.le_of_ble_eq_true rfl⟩, trivial⟩
          · clear hk2 hk4 hs
            rintro ⟨C, i2, q16, h02, hi2, hC, ht16⟩
            dsimp only at h02 hi2 hC ht16 ⊢
            repeat' (first | (apply And.intro <;> intro hc <;> (first | exact Bool.noConfusion hc | (simp only [decide_eq_true_eq, decide_eq_false_iff_not, Bool.not_eq_true', Bool.not_eq_false', beq_iff_eq, beq_eq_false_iff_ne, bne_iff_ne, bne_eq_false_iff_eq, Bool.true_eq_false, Bool.false_eq_true] at hc) | skip)) | (refine And.intro (by first | exact trivial | decide | omega | (dsimp only; omega) | exact fun _ _ => rfl | exact ⟨by assumption, by first | exact trivial | decide | omega | (dsimp only; omega)⟩) ?_) | (apply And.intro) | (intro s hs))
            · rename_i d hd q9 hq9 p hp q10 hq10 b1 hb1 q11 hq11 v hv
              have hd : 0 ≤ d ∧ d < 16 := hd
              have w1 : IntKind.i64.wrap (i2 - 1) = i2 - 1 := IntWalk.i64_in _ (by omega)
              refine ⟨⟨C ++ [⟨d, p.ip, p.bits, b1, IntKind.u16.wrap v⟩], IntKind.i64.wrap (i2 - 1), s, by omega, by rw [List.length_append]; simp only [List.length_cons, List.length_nil]; omega, hC.snoc ⟨hp.2, wr16 _⟩ (okC_mk hp.1 hd), hs⟩, [(9102, some 9118)], by dsimp only; omega, rfl, ⟨leF_ptr rfl, leF_ptr rfl, leF_ptr rfl, leF_int rfl, trivial⟩, ⟨rfl, tapeN_le⟩, ⟨rfl, leN_zE⟩, ⟨rfl, ?_⟩, ⟨rfl, leN_ents⟩, ⟨rfl, ?_⟩, trivial⟩
              · refine leN_varA fun j hj => ?_
                iterate 48 (rcases j with _ | j; · first | exact leC_int rfl | exact leC_bool rfl | exact leC_nils | exact leC_nils_os rfl | exact leC_os rfl rfl | exact leC_os rfl (by rw [List.length_append]; rfl))
                exact absurd hj (by omega)
              · change LeN _ _ _
                refine leN_snoc (E := eCI) (L := C) (x := ⟨d, p.ip, p.bits, b1, IntKind.u16.wrap v⟩) rfl (fun i hi j hj => selC_in (Nat.ble_eq_true_of_le hi) (Elem.flat _ _ _).le) ?_
                repeat' (first | exact trivial | (refine selC_out (blt_self _) ?_; rw [Nat.sub_self]; first | exact leC_int rfl | exact leC_bool rfl) | apply And.intro)
            · rename_i b5 hb5 q15 hq15 c9 v1 hv1 q17 hq17 v2 hv2 q18 hq18 T hT
              refine ⟨(⟨{ mkMA 134 A with hops := IntKind.u8.wrap a, life := IntKind.u16.wrap b }, P, C, ⟨IntKind.u32.wrap v1, IntKind.u16.wrap v2, T, true⟩⟩, s), ⟨mv_134 hA' hP hC ⟨⟨wr32 _, wr16 _, hT⟩, .inl rfl⟩ (by omega) (by omega), hs⟩, ⟨leF_e (leE_msg rfl (fun j hj => ?_) (leC_row_fin rfl rfl) (leC_row_fin rfl rfl) (fun j hj => ?_)), tapeN_le⟩⟩
              · iterate 27 (rcases j with _ | j; · first | exact leC_int rfl | exact leC_bool rfl)
                exact absurd hj (by omega)
              · iterate 19 (rcases j with _ | j; · first | exact leC_int rfl | exact leC_bool rfl)
                exact absurd hj (by omega)
            · refine ⟨(⟨{ mkMA 134 A with hops := IntKind.u8.wrap a, life := IntKind.u16.wrap b }, P, C, noZ⟩, s), ⟨mv_134 hA' hP hC ⟨noZ_r, .inr rfl⟩ (by omega) (by omega), hs⟩, ⟨leF_e (leE_msg rfl (fun j hj => ?_) (leC_row_fin rfl rfl) (leC_row_fin rfl rfl) (fun j hj => ?_)), tapeN_le⟩⟩
              · iterate 27 (rcases j with _ | j; · first | exact leC_int rfl | exact leC_bool rfl)
                exact absurd hj (by omega)
              · iterate 19 (rcases j with _ | j; · first | exact leC_int rfl | exact leC_bool rfl)
                exact absurd hj (by omega)
          · refine leN_varA fun j hj => ?_
            iterate 48 (rcases j with _ | j; · first | exact leC_int rfl | exact leC_bool rfl | exact leC_nils | exact leC_nils_os rfl | exact leC_os rfl rfl | exact leC_os rfl (by rw [List.length_append]; rfl))
            exact absurd hj (by omega)
      · refine ⟨rfl, ⟨leF_ptr rfl, leF_ptr rfl, leF_ptr rfl, leF_int rfl, trivial⟩, ⟨rfl, tapeN_le⟩, ⟨rfl, ?_⟩, ⟨rfl, ?_⟩, ⟨rfl, rfl, rfl, Nat.le_of_ble_eq_true rfl⟩, trivial⟩
        · exact leN_zE
        · refine leN_varA fun j hj => ?_
          iterate 48 (rcases j with _ | j; · first | exact leC_int rfl | exact leC_bool rfl | exact leC_nils | exact leC_nils_os rfl | exact leC_os rfl rfl | exact leC_os rfl (by rw [List.length_append]; rfl))
          exact absurd hj (by show ¬ _ < 48; omega)
  · subst h
    refine And.intro (by decide) ?_
    refine And.intro (by decide) ?_
    refine And.intro (by exact ⟨by assumption, trivial⟩) ?_
    intro w hw q2 hq2
    refine And.intro (by exact ⟨by assumption, by decide, by decide⟩) ?_
    intro y hy q3 hq3
    refine And.intro (by exact ⟨by assumption, by decide, by decide⟩) ?_
    intro x hx q4 hq4
    refine And.intro (by exact ⟨by assumption, by decide, by decide⟩) ?_
    intro z hz q5 hq5
    repeat' (first | (apply And.intro <;> intro hc <;> (first | exact Bool.noConfusion hc | (simp only [decide_eq_true_eq, decide_eq_false_iff_not, Bool.not_eq_true', Bool.not_eq_false', beq_iff_eq, beq_eq_false_iff_ne, bne_iff_ne, bne_eq_false_iff_eq, Bool.true_eq_false, Bool.false_eq_true] at hc) | skip)) | (refine And.intro (by first | exact trivial | decide | omega | (dsimp only; omega) | exact fun _ _ => rfl | exact ⟨by assumption, by first | exact trivial | decide | omega | (dsimp only; omega)⟩) ?_) | (apply And.intro) | (intro s hs))
    · rename (Fin 16 → Int) => T
      rename byteOk _ => hT
      refine ⟨(⟨ownW { mkMA 135 ⟨0, 0, 0⟩ with tgt := T } x y z w, [], [], noZ⟩, _), ⟨mv_nbo (.inl rfl) adr0 hT hw, by assumption⟩, ⟨leF_e (leE_msg rfl (fun j hj => ?_) (leC_nils_sl rfl) (leC_nils_sl rfl) (fun j hj => ?_)), tapeN_le⟩⟩
      · iterate 27 (rcases j with _ | j; · first | exact leC_int rfl | exact leC_bool rfl)
        exact absurd hj (by omega)
      · iterate 19 (rcases j with _ | j; · first | exact leC_int rfl | exact leC_bool rfl)
        exact absurd hj (by omega)
    · rename (Fin 16 → Int) => T
      rename byteOk _ => hT
      refine ⟨(⟨{ mkMA 135 ⟨0, 0, 0⟩ with tgt := T }, [], [], noZ⟩, _), ⟨mv_nb (.inl rfl) adr0 hT, by assumption⟩, ⟨leF_e (leE_msg rfl (fun j hj => ?_) (leC_nils_sl rfl) (leC_nils_sl rfl) (fun j hj => ?_)), tapeN_le⟩⟩
      · iterate 27 (rcases j with _ | j; · first | exact leC_int rfl | exact leC_bool rfl)
        exact absurd hj (by omega)
      · iterate 19 (rcases j with _ | j; · first | exact leC_int rfl | exact leC_bool rfl)
        exact absurd hj (by omega)
    · rename (Fin 16 → Int) => T
      rename byteOk _ => hT
      rename Adr => A
      rename AdrW _ => hA
      have hA' : AdrG A := ⟨hA, by
        rename_i b1 e1 c0 T1 hT1 q6 hq6 b2 hb2 c1
        have h : b1 = bcast A := e1
        rw [← h]; assumption⟩
      refine ⟨(⟨ownW { mkMA 135 A with tgt := T } x y z w, [], [], noZ⟩, _), ⟨mv_nbo (.inl rfl) hA' hT hw, by assumption⟩, ⟨leF_e (leE_msg rfl (fun j hj => ?_) (leC_nils_sl rfl) (leC_nils_sl rfl) (fun j hj => ?_)), tapeN_le⟩⟩
      · iterate 27 (rcases j with _ | j; · first | exact leC_int rfl | exact leC_bool rfl)
        exact absurd hj (by omega)
      · iterate 19 (rcases j with _ | j; · first | exact leC_int rfl | exact leC_bool rfl)
        exact absurd hj (by omega)
    · rename (Fin 16 → Int) => T
      rename byteOk _ => hT
      rename Adr => A
      rename AdrW _ => hA
      have hA' : AdrG A := ⟨hA, by
        rename_i b1 e1 c0 T1 hT1 q6 hq6 b2 hb2 c1
        have h : b1 = bcast A := e1
        rw [← h]; assumption⟩
      refine ⟨(⟨{ mkMA 135 A with tgt := T }, [], [], noZ⟩, _), ⟨mv_nb (.inl rfl) hA' hT, by assumption⟩, ⟨leF_e (leE_msg rfl (fun j hj => ?_) (leC_nils_sl rfl) (leC_nils_sl rfl) (fun j hj => ?_)), tapeN_le⟩⟩
      · iterate 27 (rcases j with _ | j; · first | exact leC_int rfl | exact leC_bool rfl)
        exact absurd hj (by omega)
      · iterate 19 (rcases j with _ | j; · first | exact leC_int rfl | exact leC_bool rfl)
        exact absurd hj (by omega)
  · subst h
    refine And.intro (by decide) ?_
    refine And.intro (by decide) ?_
    refine And.intro (by exact ⟨by assumption, trivial⟩) ?_
    intro w hw q2 hq2
    refine And.intro (by exact ⟨by assumption, by decide, by decide⟩) ?_
    intro y hy q3 hq3
    refine And.intro (by exact ⟨by assumption, by decide, by decide⟩) ?_
    intro x hx q4 hq4
    refine And.intro (by exact ⟨by assumption, by decide, by decide⟩) ?_
    intro z hz q5 hq5
    repeat' (first | (apply And.intro <;> intro hc <;> (first | exact Bool.noConfusion hc | (simp only [decide_eq_true_eq, decide_eq_false_iff_not, Bool.not_eq_true', Bool.not_eq_false', beq_iff_eq, beq_eq_false_iff_ne, bne_iff_ne, bne_eq_false_iff_eq, Bool.true_eq_false, Bool.false_eq_true] at hc) | skip)) | (refine And.intro (by first | exact trivial | decide | omega | (dsimp only; omega) | exact fun _ _ => rfl | exact ⟨by assumption, by first | exact trivial | decide | omega | (dsimp only; omega)⟩) ?_) | (apply And.intro) | (intro s hs))
    · rename (Fin 16 → Int) => T
      rename byteOk _ => hT
      refine ⟨(⟨ownW { mkMA 136 ⟨0, 0, 0⟩ with tgt := T } x y z w, [], [], noZ⟩, _), ⟨mv_nbo (.inr rfl) adr0 hT hw, by assumption⟩, ⟨leF_e (leE_msg rfl (fun j hj => ?_) (leC_nils_sl rfl) (leC_nils_sl rfl) (fun j hj => ?_)), tapeN_le⟩⟩
      · iterate 27 (rcases j with _ | j; · first | exact leC_int rfl | exact leC_bool rfl)
        exact absurd hj (by omega)
      · iterate 19 (rcases j with _ | j; · first | exact leC_int rfl | exact leC_bool rfl)
        exact absurd hj (by omega)
    · rename (Fin 16 → Int) => T
      rename byteOk _ => hT
      refine ⟨(⟨{ mkMA 136 ⟨0, 0, 0⟩ with tgt := T }, [], [], noZ⟩, _), ⟨mv_nb (.inr rfl) adr0 hT, by assumption⟩, ⟨leF_e (leE_msg rfl (fun j hj => ?_) (leC_nils_sl rfl) (leC_nils_sl rfl) (fun j hj => ?_)), tapeN_le⟩⟩
      · iterate 27 (rcases j with _ | j; · first | exact leC_int rfl | exact leC_bool rfl)
        exact absurd hj (by omega)
      · iterate 19 (rcases j with _ | j; · first | exact leC_int rfl | exact leC_bool rfl)
        exact absurd hj (by omega)
    · rename (Fin 16 → Int) => T
      rename byteOk _ => hT
      rename Adr => A
      rename AdrW _ => hA
      have hA' : AdrG A := ⟨hA, by
        rename_i b1 e1 c0 T1 hT1 q6 hq6 b2 hb2 c1
        have h : b1 = bcast A := e1
        rw [← h]; assumption⟩
      refine ⟨(⟨ownW { mkMA 136 A with tgt := T } x y z w, [], [], noZ⟩, _), ⟨mv_nbo (.inr rfl) hA' hT hw, by assumption⟩, ⟨leF_e (leE_msg rfl (fun j hj => ?_) (leC_nils_sl rfl) (leC_nils_sl rfl) (fun j hj => ?_)), tapeN_le⟩⟩
      · iterate 27 (rcases j with _ | j; · first | exact leC_int rfl | exact leC_bool rfl)
        exact absurd hj (by omega)
      · iterate 19 (rcases j with _ | j; · first | exact leC_int rfl | exact leC_bool rfl)
        exact absurd hj (by omega)
    · rename (Fin 16 → Int) => T
      rename byteOk _ => hT
      rename Adr => A
      rename AdrW _ => hA
      have hA' : AdrG A := ⟨hA, by
        rename_i b1 e1 c0 T1 hT1 q6 hq6 b2 hb2 c1
        have h : b1 = bcast A := e1
        rw [← h]; assumption⟩
      refine ⟨(⟨{ mkMA 136 A with tgt := T }, [], [], noZ⟩, _), ⟨mv_nb (.inr rfl) hA' hT, by assumption⟩, ⟨leF_e (leE_msg rfl (fun j hj => ?_) (leC_nils_sl rfl) (leC_nils_sl rfl) (fun j hj => ?_)), tapeN_le⟩⟩
      · iterate 27 (rcases j with _ | j; · first | exact leC_int rfl | exact leC_bool rfl)
        exact absurd hj (by omega)
      · iterate 19 (rcases j with _ | j; · first | exact leC_int rfl | exact leC_bool rfl)
        exact absurd hj (by omega)
  · subst h
    refine And.intro (by decide) ?_
    refine And.intro (by decide) ?_
    refine And.intro (by exact ⟨by assumption, trivial⟩) ?_
    intro w hw q2 hq2
    refine And.intro (by exact ⟨by assumption, by decide, by decide⟩) ?_
    intro y hy q3 hq3
    refine And.intro (by exact ⟨by assumption, by decide, by decide⟩) ?_
    intro x hx q4 hq4
    refine And.intro (by exact ⟨by assumption, by decide, by decide⟩) ?_
    intro z hz q5 hq5
    repeat' (first | (apply And.intro <;> intro hc <;> (first | exact Bool.noConfusion hc | (simp only [decide_eq_true_eq, decide_eq_false_iff_not, Bool.not_eq_true', Bool.not_eq_false', beq_iff_eq, beq_eq_false_iff_ne, bne_iff_ne, bne_eq_false_iff_eq, Bool.true_eq_false, Bool.false_eq_true] at hc) | skip)) | (refine And.intro (by first | exact trivial | decide | omega | (dsimp only; omega) | exact fun _ _ => rfl | exact ⟨by assumption, by first | exact trivial | decide | omega | (dsimp only; omega)⟩) ?_) | (apply And.intro) | (intro s hs))
    · rename (Fin 16 → Int) => T
      rename byteOk _ => hT
      refine ⟨(⟨ownW { mkMA 157 ⟨0, 0, 0⟩ with tgt := T } x y z w, [], [], noZ⟩, _), ⟨mv_dup (.inl rfl) hT hw, by assumption⟩, ⟨leF_e (leE_msg rfl (fun j hj => ?_) (leC_nils_sl rfl) (leC_nils_sl rfl) (fun j hj => ?_)), tapeN_le⟩⟩
      · iterate 27 (rcases j with _ | j; · first | exact leC_int rfl | exact leC_bool rfl)
        exact absurd hj (by omega)
      · iterate 19 (rcases j with _ | j; · first | exact leC_int rfl | exact leC_bool rfl)
        exact absurd hj (by omega)
  · subst h
    refine And.intro (by decide) ?_
    refine And.intro (by decide) ?_
    refine And.intro (by exact ⟨by assumption, trivial⟩) ?_
    intro w hw q2 hq2
    refine And.intro (by exact ⟨by assumption, by decide, by decide⟩) ?_
    intro y hy q3 hq3
    refine And.intro (by exact ⟨by assumption, by decide, by decide⟩) ?_
    intro x hx q4 hq4
    refine And.intro (by exact ⟨by assumption, by decide, by decide⟩) ?_
    intro z hz q5 hq5
    repeat' (first | (apply And.intro <;> intro hc <;> (first | exact Bool.noConfusion hc | (simp only [decide_eq_true_eq, decide_eq_false_iff_not, Bool.not_eq_true', Bool.not_eq_false', beq_iff_eq, beq_eq_false_iff_ne, bne_iff_ne, bne_eq_false_iff_eq, Bool.true_eq_false, Bool.false_eq_true] at hc) | skip)) | (refine And.intro (by first | exact trivial | decide | omega | (dsimp only; omega) | exact fun _ _ => rfl | exact ⟨by assumption, by first | exact trivial | decide | omega | (dsimp only; omega)⟩) ?_) | (apply And.intro) | (intro s hs))
    · rename (Fin 16 → Int) => T
      rename byteOk _ => hT
      refine ⟨(⟨ownW { mkMA 158 ⟨0, 0, 0⟩ with tgt := T } x y z w, [], [], noZ⟩, _), ⟨mv_dup (.inr rfl) hT hw, by assumption⟩, ⟨leF_e (leE_msg rfl (fun j hj => ?_) (leC_nils_sl rfl) (leC_nils_sl rfl) (fun j hj => ?_)), tapeN_le⟩⟩
      · iterate 27 (rcases j with _ | j; · first | exact leC_int rfl | exact leC_bool rfl)
        exact absurd hj (by omega)
      · iterate 19 (rcases j with _ | j; · first | exact leC_int rfl | exact leC_bool rfl)
        exact absurd hj (by omega)
abbrev msgE : Entry := tapeE AC.nil (fun _ => True) (fun a (m : Msg) => MsgV m) (fun m => .e (msgR m))
theorem msgE_ok : EntOk Try.prog 9 msgE := tapeE_ok ⟨_, Try.func9, rfl, by kernel_rfl⟩ fun n l q a ht _ => message_ok n l q ht
end Go.Proofs.Ythbhidfohdipnaa.AX

/- Layer 20 by AX2: Same of the reference. -/
namespace Go.Proofs.Ythbhidfohdipnaa.AX
open Go.RowKit
set_option linter.unusedVariables false
set_option linter.unusedSimpArgs false
def isIB : CV → Bool
  | .int _ _ => true
  | .bool _ => true
  | _ => false
theorem eqC_self {x : CV} (h : isIB x = true) : eqCell x x = true := by
  cases x with
  | int k a => show (a == a) = true; exact beq_self_eq_true _
  | bool a => show (a == a) = true; exact beq_self_eq_true _
  | _ => cases h
theorem eqF_self (f : Nat → CV) (n : Nat) (h : ∀ i, i < n → isIB (f i) = true) : eqFrom f f n 0 = true :=
  eqFrom_iff.2 fun i hi => by rw [Nat.zero_add]; exact eqC_self (h i hi)
theorem msgF {m : Msg} {P C : CV} {j : Nat} (hj : j < 48) (h : j ≠ 27) (h2 : j ≠ 28) : isIB (msgC m.a P C m.z j) = true := by
  iterate 48 (rcases j with _ | j; · first | exact rfl | exact absurd rfl h | exact absurd rfl h2)
  exact absurd hj (by omega)
theorem piF {x : PI} {j : Nat} (hj : j < 20) : isIB (ePI.cell x j) = true := by
  iterate 20 (rcases j with _ | j; · exact rfl)
  exact absurd hj (by omega)
theorem ciF {x : CI} {j : Nat} (hj : j < 20) : isIB (eCI.cell x j) = true := by
  iterate 20 (rcases j with _ | j; · exact rfl)
  exact absurd hj (by omega)
theorem msgS (m : Msg) (P C : CV) (k n : Nat) (h : k + n ≤ 27 ∨ (29 ≤ k ∧ k + n ≤ 48)) : eqFrom (fun q => msgC m.a P C m.z (0 + k + q)) (fun q => msgC m.a P C m.z (0 + k + q)) n 0 = true :=
  eqF_self _ n fun i hi => msgF (by omega) (by omega) (by omega)
set_option maxHeartbeats 8000000 in
set_option maxRecDepth 20000 in
theorem dsame_ok (m : Msg) (hp : m.p.length ≤ 9223372036854775807) (hn : m.c.length ≤ 9223372036854775807) : PureOk Try.prog 22 [cMsg.enc m, cMsg.enc m] (cB.enc true) := by
  have s1 := msgS m (slP m.p) (slC m.c) 3 16 (.inl (by omega))
  have s2 := msgS m (slP m.p) (slC m.c) 19 3 (.inl (by omega))
  have s3 := msgS m (slP m.p) (slC m.c) 22 4 (.inl (by omega))
  have s4 := msgS m (slP m.p) (slC m.c) 29 18 (.inr (by omega))
  refine pure_intro (wd := 1) (Q := mkQ LE0) (by decide) tysOk (q_of LE0_ok) mixed Try.func22 rfl _ (by show 2 ≤ _; decide) _ ?_
  repeat' (first | (apply And.intro <;> intro hc <;> (first | exact Bool.noConfusion hc | (exfalso; first | exact absurd rfl hc | exact absurd (beq_self_eq_true _) (by rw [hc]; decide) | exact Bool.noConfusion (s1.symm.trans hc) | exact Bool.noConfusion (s2.symm.trans hc) | exact Bool.noConfusion (s3.symm.trans hc) | exact Bool.noConfusion (s4.symm.trans hc)) | (simp only [decide_eq_true_eq, decide_eq_false_iff_not, Bool.not_eq_true', Bool.not_eq_false', beq_iff_eq, beq_eq_false_iff_ne, bne_iff_ne, bne_eq_false_iff_eq, Bool.true_eq_false, Bool.false_eq_true, ne_eq, not_true_eq_false] at hc <;> first | exact absurd rfl hc | (exfalso; first | exact absurd rfl hc | exact absurd (beq_self_eq_true _) (by rw [hc]; decide) | exact Bool.noConfusion (s1.symm.trans hc) | exact Bool.noConfusion (s2.symm.trans hc) | exact Bool.noConfusion (s3.symm.trans hc) | exact Bool.noConfusion (s4.symm.trans hc)) | skip) | skip)) | (refine And.intro (by first | exact trivial | decide | omega | (dsimp only; omega) | exact fun _ _ => rfl | exact ⟨by assumption, by first | exact trivial | decide | omega | (dsimp only; omega)⟩) ?_) | (apply And.intro) | (intro s hs; skip))
  refine loop_intro (mono_of LE0_ok) (fun s : {i : Nat // i ≤ m.p.length} => (⟨[(2, one (.ptr 0 0 0 false)), (3, one (.ptr 1 0 0 false)), (5, one (.int .i64 (s.1 : Int)))], [(0, some (mEnt m)), (1, some (mEnt m))], 2⟩ : Hd)) (fun s => m.p.length - s.1) (fun _ => rfl) ?_ ⟨0, Nat.zero_le _⟩ [] ⟨rfl, ⟨leF_ptr rfl, leF_ptr rfl, leF_int rfl, trivial⟩, ⟨rfl, leN_msg⟩, ⟨rfl, leN_msg⟩, trivial⟩
  · rintro ⟨i, hi⟩
    dsimp only at hi ⊢
    have sP := eqF_self (ePI.cell (m.p.getD i default)) 20 fun j hj => piF hj
    repeat' (first | (apply And.intro <;> intro hc <;> (first | exact Bool.noConfusion hc | (exfalso; first | exact absurd rfl hc | exact absurd (beq_self_eq_true _) (by rw [hc]; decide) | exact Bool.noConfusion (sP.symm.trans hc)) | (simp only [decide_eq_true_eq, decide_eq_false_iff_not, Bool.not_eq_true', Bool.not_eq_false', beq_iff_eq, beq_eq_false_iff_ne, bne_iff_ne, bne_eq_false_iff_eq, Bool.true_eq_false, Bool.false_eq_true, ne_eq, not_true_eq_false] at hc <;> first | exact absurd rfl hc | (exfalso; first | exact absurd rfl hc | exact absurd (beq_self_eq_true _) (by rw [hc]; decide) | exact Bool.noConfusion (sP.symm.trans hc)) | skip) | skip)) | (refine And.intro (by first | exact trivial | decide | omega | (dsimp only; omega) | exact fun _ _ => rfl | exact ⟨by assumption, by first | exact trivial | decide | omega | (dsimp only; omega)⟩) ?_) | (apply And.intro) | (intro s hs; skip))
    · have w1 : IntKind.i64.wrap ((i : Int) + 1) = ((i + 1 : Nat) : Int) := (IntWalk.i64_in _ (by omega)).trans (by omega)
      refine ⟨⟨i + 1, by omega⟩, [], by dsimp only; omega, rfl, ⟨leF_ptr rfl, leF_ptr rfl, leF_int w1, trivial⟩, ⟨rfl, leN_msg⟩, ⟨rfl, leN_msg⟩, trivial⟩
    · refine loop_intro (mono_of LE0_ok) (fun s : {i : Nat // i ≤ m.c.length} => (⟨[(2, one (.ptr 0 0 0 false)), (3, one (.ptr 1 0 0 false)), (6, one (.int .i64 (s.1 : Int)))], [(0, some (mEnt m)), (1, some (mEnt m))], 2⟩ : Hd)) (fun s => m.c.length - s.1) (fun _ => rfl) ?_ ⟨0, Nat.zero_le _⟩ [] ⟨rfl, ⟨leF_ptr rfl, leF_ptr rfl, leF_int rfl, trivial⟩, ⟨rfl, leN_msg⟩, ⟨rfl, leN_msg⟩, trivial⟩
      rintro ⟨i2, hi2⟩
      dsimp only at hi2 ⊢
      have sC := eqF_self (eCI.cell (m.c.getD i2 default)) 20 fun j hj => ciF hj
      repeat' (first | (apply And.intro <;> intro hc <;> (first | exact Bool.noConfusion hc | (exfalso; first | exact absurd rfl hc | exact absurd (beq_self_eq_true _) (by rw [hc]; decide) | exact Bool.noConfusion (sC.symm.trans hc)) | (simp only [decide_eq_true_eq, decide_eq_false_iff_not, Bool.not_eq_true', Bool.not_eq_false', beq_iff_eq, beq_eq_false_iff_ne, bne_iff_ne, bne_eq_false_iff_eq, Bool.true_eq_false, Bool.false_eq_true, ne_eq, not_true_eq_false] at hc <;> first | exact absurd rfl hc | (exfalso; first | exact absurd rfl hc | exact absurd (beq_self_eq_true _) (by rw [hc]; decide) | exact Bool.noConfusion (sC.symm.trans hc)) | skip) | skip)) | (refine And.intro (by first | exact trivial | decide | omega | (dsimp only; omega) | exact fun _ _ => rfl | exact ⟨by assumption, by first | exact trivial | decide | omega | (dsimp only; omega)⟩) ?_) | (apply And.intro) | (intro s hs; skip))
      · have w1 : IntKind.i64.wrap ((i2 : Int) + 1) = ((i2 + 1 : Nat) : Int) := (IntWalk.i64_in _ (by omega)).trans (by omega)
        refine ⟨⟨i2 + 1, by omega⟩, [], by dsimp only; omega, rfl, ⟨leF_ptr rfl, leF_ptr rfl, leF_int w1, trivial⟩, ⟨rfl, leN_msg⟩, ⟨rfl, leN_msg⟩, trivial⟩
      · exact Done.mk (leF_bool rfl)
abbrev dsameE : Entry := pureE (AC.cons cMsg (AC.cons cMsg AC.nil)) (fun a => a.1 = a.2.1 ∧ a.1.p.length ≤ 9223372036854775807 ∧ a.1.c.length ≤ 9223372036854775807) (fun a => true) cB.enc
theorem dsameE_ok : EntOk Try.prog 22 dsameE := pureE_ok ⟨_, Try.func22, rfl, by kernel_rfl⟩ fun a h => by
  obtain ⟨p, q, u⟩ := a
  obtain ⟨h1, h2, h3⟩ := h
  dsimp only at h1 h2 h3
  subst h1
  exact dsame_ok p h2 h3
end Go.Proofs.Ythbhidfohdipnaa.AX

/- Layer 20 by AX2: the sanity check of the laws. -/
namespace Go.Proofs.Ythbhidfohdipnaa.AX
open Go.RowKit
set_option linter.unusedVariables false
set_option linter.unusedSimpArgs false
def LK0 : CsL := (11, some dencE) :: (21, some ddecE) :: []
theorem LK0_ok : AllOk Try.prog LK0 := ⟨dencE_ok, ddecE_ok, trivial⟩
def kM : Msg := ⟨mkMA 133 ⟨2, 5, 0⟩, [], [], noZ⟩
def kD : Fin 16 → Int := fun i => if i.1 = 0 then 1 else 0
theorem ipx_fun {S a : Fin 16 → Int} (h : ∀ i (hi : i < 16), S ⟨i, hi⟩ = a ⟨i, hi⟩) : S = a := funext fun q => h q.1 q.2
theorem kD_r : byteOk kD := ⟨fun i => by unfold kD; split <;> decide⟩
theorem kM_v : validM kM = true := rfl
theorem kM_r : MsgR kM := ⟨⟨by decide, zr8, zr16, zA_r, by decide, zr64, zr64, zr8, zr8, zr16⟩, (fun x hx => by cases hx), (fun x hx => by cases hx), noZ_r⟩
theorem kM_e : encDM kM zA kD = some (encX kM (sumM kM zA kD)) := if_pos kM_v
theorem k_msg {M : Msg} (h1 : M.a.ty = 133) (h2 : M.a.hops = 0) (h3 : M.a.life = 0) (h4 : ∀ i (hi : i < 16), M.a.tgt ⟨i, hi⟩ = zA ⟨i, hi⟩) (h5 : M.a.mode = 2) (h6 : M.a.short = 5) (h7 : M.a.eui = 0) (h8 : M.a.oeui = 0) (h9 : M.a.oseq = 0) (h10 : M.a.ostat = 0) (h11 : M.a.olife = 0) (h12 : M.a.hasO = false) (h13 : M.p = []) (h14 : M.c = []) (h15 : M.z.bver = 0) (h16 : M.z.blife = 0) (h17 : ∀ i (hi : i < 16), M.z.brt ⟨i, hi⟩ = zA ⟨i, hi⟩) (h18 : M.z.hasB = false) : M = kM := by
  have e4 := ipx_fun h4
  have e17 := ipx_fun h17
  obtain ⟨⟨a1, a2, a3, a4, a5, a6, a7, a8, a9, a10, a11, a12⟩, p, c, ⟨b1, b2, b3, b4⟩⟩ := M
  dsimp only at h1 h2 h3 e4 h5 h6 h7 h8 h9 h10 h11 h12 h13 h14 h15 h16 e17 h18
  subst h1 h2 h3 e4 h5 h6 h7 h8 h9 h10 h11 h12 h13 h14 h15 h16 e17 h18
  rfl
theorem dec_at {s : Msg × Int} {B b : List Int} {S D src dst : Fin 16 → Int} (hs : s = decDM B S D) (h1 : B = b) (h2 : S = src) (h3 : D = dst) : s = decDM b src dst := by rw [hs, h1, h2, h3]
set_option maxHeartbeats 8000000 in
set_option maxRecDepth 20000 in
theorem dknown_ok : PureOk Try.prog 16 [] (cB.enc true) := by
  have hl : (encX kM (sumM kM zA kD)).length = 16 := by rw [encX_len]; rfl
  have hb := encX_BL kM_r (valM_iff.1 kM_v) (sumM kM zA kD)
  have h8 : (encX kM (sumM kM zA kD)).getD 8 default = 1 := rfl
  have hE := kM_e
  have hD := dec_enc kM_r kM_v zA kD
  obtain ⟨B, eB'⟩ : ∃ B, encX kM (sumM kM zA kD) = B := ⟨_, rfl⟩
  rw [eB'] at hl hb h8 hE hD
  clear eB'
  have hl2 : (B.length : Int) = 16 := by omega
  have g1 : True := trivial
  have g2 : True := trivial
  refine pure_intro (wd := 1) (Q := mkQ LK0) (by decide) tysOk (q_of LK0_ok) mixed Try.func16 rfl _ (by show 0 ≤ _; decide) _ ?_
  repeat' (first | (apply And.intro <;> intro hc <;> (first | exact Bool.noConfusion hc | (exfalso; first | exact absurd rfl hc | exact absurd hl2 hc | exact absurd h8 hc) | (simp only [decide_eq_true_eq, decide_eq_false_iff_not, Bool.not_eq_true', Bool.not_eq_false', beq_iff_eq, beq_eq_false_iff_ne, bne_iff_ne, bne_eq_false_iff_eq, Bool.true_eq_false, Bool.false_eq_true, ne_eq, not_true_eq_false] at hc <;> first | exact absurd rfl hc | (exfalso; first | exact absurd rfl hc | exact absurd hl2 hc | exact absurd h8 hc) | skip) | skip)) | (refine And.intro (by first | exact trivial | decide | omega | (dsimp only; omega) | exact fun _ _ => rfl | exact ⟨by assumption, by first | exact trivial | decide | omega | (dsimp only; omega)⟩) ?_) | (apply And.intro) | (intro s hs; (first | (clear g1; have q : s = some B := (enc_at (m := kM) (src := zA) (dst := kD) hs (k_msg rfl rfl rfl (fun i hi => by (iterate 16 (rcases i with _ | i; · exact rfl)); exact absurd hi (by omega)) rfl rfl rfl rfl rfl rfl rfl rfl rfl rfl rfl rfl (fun i hi => by (iterate 16 (rcases i with _ | i; · exact rfl)); exact absurd hi (by omega)) rfl) (ipx_fun fun i hi => by (iterate 16 (rcases i with _ | i; · exact rfl)); exact absurd hi (by omega)) (ipx_fun fun i hi => by (iterate 16 (rcases i with _ | i; · exact rfl)); exact absurd hi (by omega))).trans hE; clear hs; subst q) | (clear g2; have q : s = (kM, 0) := (dec_at hs (toL_b0 _) (ipx_fun fun i hi => by (iterate 16 (rcases i with _ | i; · exact rfl)); exact absurd hi (by omega)) (ipx_fun fun i hi => by (iterate 16 (rcases i with _ | i; · exact rfl)); exact absurd hi (by omega))).trans hD; clear hs; subst q) | skip)) | (refine Exists.intro _ (And.intro ⟨rfl, rfl, rfl⟩ ?_)))
  · exact encP_at (m := kM) (src := zA) (dst := kD) (k_msg rfl rfl rfl (fun i hi => by (iterate 16 (rcases i with _ | i; · exact rfl)); exact absurd hi (by omega)) rfl rfl rfl rfl rfl rfl rfl rfl rfl rfl rfl rfl (fun i hi => by (iterate 16 (rcases i with _ | i; · exact rfl)); exact absurd hi (by omega)) rfl) (ipx_fun fun i hi => by (iterate 16 (rcases i with _ | i; · exact rfl)); exact absurd hi (by omega)) (ipx_fun fun i hi => by (iterate 16 (rcases i with _ | i; · exact rfl)); exact absurd hi (by omega)) ⟨kM_r, zA_r, kD_r, by decide, by decide⟩
  · exact rfl
  · show BL (toL eB B.length fun k j => rowF eB B (0 + k) j); rw [toL_b0]; exact hb
  · exact Eq.mpr (congrArg byteOk (ipx_fun (a := zA) (fun i hi => by (iterate 16 (rcases i with _ | i; · exact rfl)); exact absurd hi (by omega)))) zA_r
  · exact Eq.mpr (congrArg byteOk (ipx_fun (a := kD) (fun i hi => by (iterate 16 (rcases i with _ | i; · exact rfl)); exact absurd hi (by omega)))) kD_r
  · show (toL eB B.length fun k j => rowF eB B (0 + k) j).length ≤ _; rw [toL_len]; omega
  · exact Done.mk (leF_bool rfl)
abbrev dknownE : Entry := pureE AC.nil (fun _ => True) (fun _ => true) cB.enc
theorem dknownE_ok : EntOk Try.prog 16 dknownE := pureE_ok ⟨_, Try.func16, rfl, by kernel_rfl⟩ fun a _ => dknown_ok
end Go.Proofs.Ythbhidfohdipnaa.AX

/- Addresses as arguments of laws: kinds of cells. -/
namespace Go.Proofs.Ythbhidfohdipnaa
open Go.RowKit AX
set_option linter.unusedVariables false
theorem wf_u8d {n : Int} (h : (Lit.int .u8 n).wf = true) : 0 ≤ n ∧ n < 256 := by
  simp [Lit.wf, IntKind.min, IntKind.max, IntKind.bits, IntKind.signed] at h
  omega
abbrev ksIP : List (Option IntKind) := [some .u8, some .u8, some .u8, some .u8, some .u8, some .u8, some .u8, some .u8, some .u8, some .u8, some .u8, some .u8, some .u8, some .u8, some .u8, some .u8]
theorem ksIP_at : ∀ i, i < 16 → ksIP[0 + i]? = some (some .u8) := by decide
theorem ok_ip (g : Nat → CV) (h : MtC ksIP g) : (eA .u8 16).ok g = true := okA_of fun i hi => h.k (ksIP_at i hi)
theorem by_ip {c : Fin 16 → Int} (h : ∃ g, MtC ksIP g ∧ c = (eA .u8 16).rd g) : byteOk c := by
  obtain ⟨g, hg, rfl⟩ := h
  exact ⟨fun q => wf_u8d (by have := hg.wf (ksIP_at q.1 q.2); rw [Nat.zero_add] at this; exact this)⟩
end Go.Proofs.Ythbhidfohdipnaa

/- Layer 20 by AX2: Valid of the reference, cut between its statements. -/
namespace Go.Proofs.Ythbhidfohdipnaa.AX
open Go.RowKit
set_option linter.unusedVariables false
set_option linter.unusedSimpArgs false
def LDrv : CsL := (26, some bcE) :: (LA0 ++ LDr1)
theorem LDrv_ok : AllOk Try.prog LDrv := ⟨pureE_ok ⟨_, Try.func26, rfl, by kernel_rfl⟩ fun a _ => rabc_ok a.1, append_ok LA0_ok LDr1_ok⟩
structure U2 (m : Msg) : Prop where
  ty : tyOk m.a.ty
  adr : adrValid (adrOf m.a) = true
  bc : bcast (adrOf m.a) = false
  np : m.p.length ≤ 16
  nc : m.c.length ≤ 16
structure U3 (m : Msg) : Prop extends U2 m where
  own : m.a.hasO = true ∨ ownZ m.a = true
  bor : m.z.hasB = true ∨ borZ m.z = true
structure U4 (m : Msg) : Prop extends U3 m where
  router : m.a.ty = 134 ∨ (m.a.hops = 0 ∧ m.a.life = 0 ∧ m.p = [] ∧ m.c = [] ∧ m.z.hasB = false)
structure U5 (m : Msg) : Prop extends U4 m where
  target : isNb m.a.ty ∨ isDup m.a.ty ∨ (m.a.hasO = false ∧ m.a.tgt = zA)
  dup : ¬ isDup m.a.ty ∨ (m.a.hasO = true ∧ srcZ m.a = true)
def HU (m : Msg) (F : Prop) (_ : {_u : Unit // F}) : Hd := ⟨[(1, one (.ptr 0 0 0 false)), (3, one (.bool (decide (m.a.ty = 134))))], [(0, some (mEnt m))], 1⟩
def wiB (m : Msg) : Bool := decide (isNb m.a.ty) || decide (isDup m.a.ty)
def HUw (m : Msg) (F : Prop) (_ : {_u : Unit // F}) : Hd := ⟨[(1, one (.ptr 0 0 0 false)), (4, one (.bool (wiB m)))], [(0, some (mEnt m))], 1⟩
theorem len_nz {α : Type} {l : List α} (h : (0 : Int) < l.length) : ¬ l = [] := by rintro rfl; simp at h
theorem len_z {α : Type} {l : List α} (h : ¬ (0 : Int) < l.length) : l = [] := by
  cases l with
  | nil => rfl
  | cons => simp at h
theorem n16 {α : Type} {l : List α} (h : (16 : Int) < l.length) : ¬ l.length ≤ 16 := by omega
theorem n16' {α : Type} {l : List α} (h : ¬ (16 : Int) < l.length) : l.length ≤ 16 := by omega
theorem wi_no {m : Msg} (h : wiB m = false) : ¬ isNb m.a.ty ∧ ¬ isDup m.a.ty := by
  unfold wiB at h
  simpa using h
theorem wi_yes {m : Msg} (h : wiB m = true) : isNb m.a.ty ∨ isDup m.a.ty := by
  unfold wiB at h
  simpa using h
theorem wi_own {m : Msg} (h : wiB m = false) (ho : m.a.hasO = true) : ¬ ValM m := fun hv => by
  obtain ⟨h1, h2⟩ := wi_no h
  rcases hv.target with g | g | g
  · exact h1 g
  · exact h2 g
  · rw [ho] at g; exact Bool.noConfusion g.1
theorem wi_dup {m : Msg} (h : isDup m.a.ty) (ho : m.a.hasO = false) : ¬ ValM m := fun hv => by
  rcases hv.dup with g | g
  · exact g h
  · rw [ho] at g; exact Bool.noConfusion g.1
theorem getD_all {α : Type} [Inhabited α] (f : α → Prop) (l : List α) (i : Nat) (h : i < l.length) (hf : ∀ x ∈ l, f x) : f (l.getD i default) := by
  rw [List.getD_eq_getElem?_getD, List.getElem?_eq_getElem h]
  exact hf _ (List.getElem_mem h)
theorem okc_f {c : CI} (h : vpf (pfxC c) = false) (hc : okC c = true) : False := by
  unfold okC at hc
  rw [h] at hc; cases hc
theorem wi_tgt {m : Msg} (h : wiB m = false) (hz : ipEq m.a.tgt zA = false) : ¬ ValM m := fun hv => by
  obtain ⟨h1, h2⟩ := wi_no h
  rcases hv.target with g | g | g
  · exact h1 g
  · exact h2 g
  · rw [ipEq_iff.2 g.2] at hz; cases hz
theorem wi_src {m : Msg} (h : isDup m.a.ty) (hz : srcZ m.a = false) : ¬ ValM m := fun hv => by
  rcases hv.dup with g | g
  · exact g h
  · rw [g.2] at hz; cases hz
set_option maxRecDepth 20000 in
set_option maxHeartbeats 8000000 in
theorem rvalid_ok2 (m : Msg) (hm : MsgR m) (hp : m.p.length ≤ 9223372036854775807) (hn : m.c.length ≤ 9223372036854775807) : PureOk Try.prog 14 [cMsg.enc m] (cB.enc (validM m)) := by
  refine pure_introS tysOk Try.func14 rfl _ (by show 1 ≤ _; decide) _ ?_
  refine sem_step (wd := 1) (Q := mkQ LDrv) (by decide) tysOk (q_of LDrv_ok) mixed ?_
  repeat' (first | (apply And.intro <;> intro hc <;> (first | exact Bool.noConfusion hc | (simp only [decide_eq_true_eq, decide_eq_false_iff_not, Bool.not_eq_true', Bool.not_eq_false', beq_iff_eq, beq_eq_false_iff_ne, bne_iff_ne, bne_eq_false_iff_eq, Bool.true_eq_false, Bool.false_eq_true] at hc) | skip)) | (refine And.intro (by first | exact trivial | decide | omega | (dsimp only; omega) | exact fun _ _ => rfl) ?_) | (apply And.intro) | (intro s hs))
  refine sem_step (wd := 1) (Q := mkQ LDrv) (by decide) tysOk (q_of LDrv_ok) mixed ?_
  repeat' (first | (apply And.intro <;> intro hc <;> (first | exact Bool.noConfusion hc | (simp only [decide_eq_true_eq, decide_eq_false_iff_not, Bool.not_eq_true', Bool.not_eq_false', beq_iff_eq, beq_eq_false_iff_ne, bne_iff_ne, bne_eq_false_iff_eq, Bool.true_eq_false, Bool.false_eq_true] at hc) | skip)) | (refine And.intro (by first | exact trivial | decide | omega | (dsimp only; omega) | exact fun _ _ => rfl) ?_) | (apply And.intro) | (intro s hs))
  refine sem_cut (wd := 1) (Q := mkQ LDrv) (by decide) tysOk (q_of LDrv_ok) (mono_of LDrv_ok) mixed (HU m (tyOk m.a.ty)) (fun _ => rfl) ?_ ?_
  · have g1 : True := trivial
    repeat' (first | (apply And.intro <;> intro hc <;> (first | exact Bool.noConfusion hc | (simp only [decide_eq_true_eq, decide_eq_false_iff_not, Bool.not_eq_true', Bool.not_eq_false', beq_iff_eq, beq_eq_false_iff_ne, bne_iff_ne, bne_eq_false_iff_eq, Bool.true_eq_false, Bool.false_eq_true, ne_eq, not_true_eq_false] at hc <;> first | exact absurd rfl hc | skip) | skip)) | (refine And.intro (by first | exact trivial | decide | omega | (dsimp only; omega) | exact fun _ _ => rfl | exact ⟨by assumption, by first | exact trivial | decide | omega | (dsimp only; omega)⟩) ?_) | (apply And.intro) | (intro s hs; (first | (clear g1; have q : s = decide (isNb m.a.ty) := hs; clear hs; subst q) | (have q : s = decide (isDup m.a.ty) := hs; clear hs; subst q))))
    · exact Done.mk (leF_bool (val_no fun h => by rcases h.ty with g | g | g | g <;> contradiction))
    all_goals
      refine ⟨⟨(), by first | exact .inl (by assumption) | exact .inr (.inl (by assumption)) | exact .inr (.inr (.inl (by assumption))) | exact .inr (.inr (.inr (by assumption)))⟩, [], rfl, ?_, ?_⟩
      · repeat' (first | exact trivial | exact rfl | exact leF_ptr rfl | exact leF_int rfl | exact leF_bool rfl | exact leF_cl (cl_slB _ _) | exact leF_cl (cl_slR _ _) | exact leF_cl (cl_ll _ _) | exact leF_c (leC_os rfl rfl) | refine leF_int ?_ | refine leF_bool ?_ | exact leN_varA (fun _ _ => (Elem.flat _ _ _).le) | exact leN_varA (fun _ _ => leC_top) | apply And.intro)
        all_goals (rw [Bool.eq_iff_iff]; simp)
      · repeat' (first | exact trivial | exact rfl | exact leF_ptr rfl | exact leF_int rfl | exact leF_bool rfl | exact leF_cl (cl_slB _ _) | exact leF_cl (cl_slR _ _) | exact leF_cl (cl_ll _ _) | exact leF_c (leC_os rfl rfl) | refine leF_int ?_ | refine leF_bool ?_ | exact leN_varA (fun _ _ => (Elem.flat _ _ _).le) | exact leN_varA (fun _ _ => leC_top) | apply And.intro)
        exact leN_msg
  · rintro ⟨⟨⟩, v⟩
    refine sem_cut (wd := 1) (Q := mkQ LDrv) (by decide) tysOk (q_of LDrv_ok) (mono_of LDrv_ok) mixed (HU m (U2 m)) (fun _ => rfl) ?_ ?_
    · unfold HU
      dsimp only
      have g1 : True := trivial
      repeat' (first | (apply And.intro <;> intro hc <;> (first | exact Bool.noConfusion hc | (simp only [decide_eq_true_eq, decide_eq_false_iff_not, Bool.not_eq_true', Bool.not_eq_false', beq_iff_eq, beq_eq_false_iff_ne, bne_iff_ne, bne_eq_false_iff_eq, Bool.true_eq_false, Bool.false_eq_true, ne_eq, not_true_eq_false] at hc <;> first | exact absurd rfl hc | skip) | skip)) | (refine And.intro (by first | exact trivial | decide | omega | (dsimp only; omega) | exact fun _ _ => rfl | exact ⟨by assumption, by first | exact trivial | decide | omega | (dsimp only; omega)⟩) ?_) | (apply And.intro) | (intro s hs; (first | (clear g1; have q : s = adrValid (adrOf m.a) := hs.trans (congrArg adrValid adr_M); clear hs; subst q) | (have q : s = bcast (adrOf m.a) := hs.trans (congrArg bcast adr_M); clear hs; subst q))))
      · exact Done.mk (leF_bool (val_no fun h => Bool.noConfusion (h.adr.symm.trans (by assumption))))
      · exact Done.mk (leF_bool (val_no fun h => Bool.noConfusion (h.bc.symm.trans (by assumption))))
      · exact Done.mk (leF_bool (val_no fun h => n16 (by assumption) h.np))
      · exact Done.mk (leF_bool (val_no fun h => n16 (by assumption) h.nc))
      · refine ⟨⟨(), ⟨v, by assumption, by assumption, n16' (by assumption), n16' (by assumption)⟩⟩, [], rfl, ?_, ?_⟩
        · repeat' (first | exact trivial | exact rfl | exact leF_ptr rfl | exact leF_int rfl | exact leF_bool rfl | exact leF_cl (cl_slB _ _) | exact leF_cl (cl_slR _ _) | exact leF_cl (cl_ll _ _) | exact leF_c (leC_os rfl rfl) | refine leF_int ?_ | refine leF_bool ?_ | exact leN_varA (fun _ _ => (Elem.flat _ _ _).le) | exact leN_varA (fun _ _ => leC_top) | apply And.intro)
        · repeat' (first | exact trivial | exact rfl | exact leF_ptr rfl | exact leF_int rfl | exact leF_bool rfl | exact leF_cl (cl_slB _ _) | exact leF_cl (cl_slR _ _) | exact leF_cl (cl_ll _ _) | exact leF_c (leC_os rfl rfl) | refine leF_int ?_ | refine leF_bool ?_ | exact leN_varA (fun _ _ => (Elem.flat _ _ _).le) | exact leN_varA (fun _ _ => leC_top) | apply And.intro)
          exact leN_msg
    · rintro ⟨⟨⟩, v⟩
      refine sem_cut (wd := 1) (Q := mkQ LDrv) (by decide) tysOk (q_of LDrv_ok) (mono_of LDrv_ok) mixed (HU m (U3 m)) (fun _ => rfl) ?_ ?_
      · unfold HU
        dsimp only
        repeat' (first | (apply And.intro <;> intro hc <;> (first | exact Bool.noConfusion hc | (simp only [decide_eq_true_eq, decide_eq_false_iff_not, Bool.not_eq_true', Bool.not_eq_false', beq_iff_eq, beq_eq_false_iff_ne, bne_iff_ne, bne_eq_false_iff_eq, Bool.true_eq_false, Bool.false_eq_true] at hc) | skip)) | (refine And.intro (by first | exact trivial | decide | omega | (dsimp only; omega) | exact fun _ _ => rfl) ?_) | (apply And.intro) | (intro s hs))
        all_goals first
          | exact Done.mk (leF_bool (val_no fun h => by
              have g1 := h.own
              have g2 : ownZ m.a = false := own_z (by assumption)
              simp_all; done))
          | exact Done.mk (leF_bool (val_no fun h => by
              have g1 := h.bor
              have g2 : borZ m.z = false := bor_z (by assumption)
              simp_all; done))
          | skip
        all_goals
          refine ⟨⟨(), ⟨v, ?_, ?_⟩⟩, [], rfl, ?_, ?_⟩
          · first | exact .inl (by assumption) | exact .inr (own_z (by assumption))
          · first | exact .inl (by assumption) | exact .inr (bor_z (by assumption))
          · repeat' (first | exact trivial | exact rfl | exact leF_ptr rfl | exact leF_int rfl | exact leF_bool rfl | exact leF_cl (cl_slB _ _) | exact leF_cl (cl_slR _ _) | exact leF_cl (cl_ll _ _) | exact leF_c (leC_os rfl rfl) | refine leF_int ?_ | refine leF_bool ?_ | exact leN_varA (fun _ _ => (Elem.flat _ _ _).le) | exact leN_varA (fun _ _ => leC_top) | apply And.intro)
          · repeat' (first | exact trivial | exact rfl | exact leF_ptr rfl | exact leF_int rfl | exact leF_bool rfl | exact leF_cl (cl_slB _ _) | exact leF_cl (cl_slR _ _) | exact leF_cl (cl_ll _ _) | exact leF_c (leC_os rfl rfl) | refine leF_int ?_ | refine leF_bool ?_ | exact leN_varA (fun _ _ => (Elem.flat _ _ _).le) | exact leN_varA (fun _ _ => leC_top) | apply And.intro)
            exact leN_msg
      · rintro ⟨⟨⟩, v⟩
        refine sem_cut (wd := 1) (Q := mkQ LDrv) (by decide) tysOk (q_of LDrv_ok) (mono_of LDrv_ok) mixed (HU m (U4 m)) (fun _ => rfl) ?_ ?_
        · unfold HU
          dsimp only
          repeat' (first | (apply And.intro <;> intro hc <;> (first | exact Bool.noConfusion hc | (simp only [decide_eq_true_eq, decide_eq_false_iff_not, Bool.not_eq_true', Bool.not_eq_false', beq_iff_eq, beq_eq_false_iff_ne, bne_iff_ne, bne_eq_false_iff_eq, Bool.true_eq_false, Bool.false_eq_true] at hc) | skip)) | (refine And.intro (by first | exact trivial | decide | omega | (dsimp only; omega) | exact fun _ _ => rfl) ?_) | (apply And.intro) | (intro s hs))
          all_goals first
            | exact Done.mk (leF_bool (val_no fun h => by
                have g1 := h.router
                have g2 := @len_nz _ m.p
                have g3 := @len_nz _ m.c
                simp_all; done))
            | skip
          all_goals
            first
              | refine ⟨⟨(), ⟨v, .inl (by assumption)⟩⟩, [], rfl, ?_, ?_⟩
              | refine ⟨⟨(), ⟨v, .inr ⟨by assumption, by assumption, len_z (by assumption), len_z (by assumption), by assumption⟩⟩⟩, [], rfl, ?_, ?_⟩
            · repeat' (first | exact trivial | exact rfl | exact leF_ptr rfl | exact leF_int rfl | exact leF_bool rfl | exact leF_cl (cl_slB _ _) | exact leF_cl (cl_slR _ _) | exact leF_cl (cl_ll _ _) | exact leF_c (leC_os rfl rfl) | refine leF_int ?_ | refine leF_bool ?_ | exact leN_varA (fun _ _ => (Elem.flat _ _ _).le) | exact leN_varA (fun _ _ => leC_top) | apply And.intro)
            · repeat' (first | exact trivial | exact rfl | exact leF_ptr rfl | exact leF_int rfl | exact leF_bool rfl | exact leF_cl (cl_slB _ _) | exact leF_cl (cl_slR _ _) | exact leF_cl (cl_ll _ _) | exact leF_c (leC_os rfl rfl) | refine leF_int ?_ | refine leF_bool ?_ | exact leN_varA (fun _ _ => (Elem.flat _ _ _).le) | exact leN_varA (fun _ _ => leC_top) | apply And.intro)
              exact leN_msg
        · rintro ⟨⟨⟩, v⟩
          refine sem_cut (wd := 1) (Q := mkQ LDrv) (by decide) tysOk (q_of LDrv_ok) (mono_of LDrv_ok) mixed (HUw m (U4 m)) (fun _ => rfl) ?_ ?_
          · unfold HU
            dsimp only
            have g1 : True := trivial
            repeat' (first | (apply And.intro <;> intro hc <;> (first | exact Bool.noConfusion hc | (simp only [decide_eq_true_eq, decide_eq_false_iff_not, Bool.not_eq_true', Bool.not_eq_false', beq_iff_eq, beq_eq_false_iff_ne, bne_iff_ne, bne_eq_false_iff_eq, Bool.true_eq_false, Bool.false_eq_true, ne_eq, not_true_eq_false] at hc <;> first | exact absurd rfl hc | skip) | skip)) | (refine And.intro (by first | exact trivial | decide | omega | (dsimp only; omega) | exact fun _ _ => rfl | exact ⟨by assumption, by first | exact trivial | decide | omega | (dsimp only; omega)⟩) ?_) | (apply And.intro) | (intro s hs; (first | (clear g1; have q : s = decide (isNb m.a.ty) := hs; clear hs; subst q) | (have q : s = decide (isDup m.a.ty) := hs; clear hs; subst q))))
            all_goals
              refine ⟨⟨(), v⟩, [], rfl, ?_, ?_⟩
              · repeat' (first | exact trivial | exact rfl | exact leF_ptr rfl | exact leF_int rfl | exact leF_bool rfl | exact leF_cl (cl_slB _ _) | exact leF_cl (cl_slR _ _) | exact leF_cl (cl_ll _ _) | exact leF_c (leC_os rfl rfl) | refine leF_int ?_ | refine leF_bool ?_ | exact leN_varA (fun _ _ => (Elem.flat _ _ _).le) | exact leN_varA (fun _ _ => leC_top) | apply And.intro)
                all_goals (unfold wiB; first | (rw [decide_eq_true (p := isNb m.a.ty) (by assumption)]; rfl) | (rw [decide_eq_false (p := isNb m.a.ty) (by assumption)]; rfl) | simp_all)
              · repeat' (first | exact trivial | exact rfl | exact leF_ptr rfl | exact leF_int rfl | exact leF_bool rfl | exact leF_cl (cl_slB _ _) | exact leF_cl (cl_slR _ _) | exact leF_cl (cl_ll _ _) | exact leF_c (leC_os rfl rfl) | refine leF_int ?_ | refine leF_bool ?_ | exact leN_varA (fun _ _ => (Elem.flat _ _ _).le) | exact leN_varA (fun _ _ => leC_top) | apply And.intro)
                exact leN_msg
          · rintro ⟨⟨⟩, v⟩
            refine sem_cut (wd := 1) (Q := mkQ LDrv) (by decide) tysOk (q_of LDrv_ok) (mono_of LDrv_ok) mixed (fun s : {_u : Unit // U5 m} => (⟨[(1, one (.ptr 0 0 0 false))], [(0, some (mEnt m))], 1⟩ : Hd)) (fun _ => rfl) ?_ ?_
            · unfold HUw
              dsimp only
              repeat' (first | (apply And.intro <;> intro hc <;> (first | exact Bool.noConfusion hc | (simp only [decide_eq_true_eq, decide_eq_false_iff_not, Bool.not_eq_true', Bool.not_eq_false', beq_iff_eq, beq_eq_false_iff_ne, bne_iff_ne, bne_eq_false_iff_eq, Bool.true_eq_false, Bool.false_eq_true, ne_eq, not_true_eq_false] at hc <;> first | exact absurd rfl hc | skip) | skip)) | (refine And.intro (by first | exact trivial | decide | omega | (dsimp only; omega) | exact fun _ _ => rfl | exact ⟨by assumption, by first | exact trivial | decide | omega | (dsimp only; omega)⟩) ?_) | (apply And.intro) | (intro s hs; (have q : s = decide (isDup m.a.ty) := hs; clear hs; subst q)))
              all_goals first
                | (exfalso; have g1 := @wi_no m; simp_all; done)
                | exact Done.mk (leF_bool (val_no (wi_own (by assumption) (by assumption))))
                | exact Done.mk (leF_bool (val_no (wi_dup (by assumption) (by assumption))))
                | exact Done.mk (leF_bool (val_no (wi_tgt (by assumption) (tgt_z (by assumption)))))
                | exact Done.mk (leF_bool (val_no (wi_src (by assumption) (src_z (by assumption)))))
                | skip
              all_goals
                first
                  | refine ⟨⟨(), ⟨v, (wi_yes (by assumption)).imp id .inl, .inl (by assumption)⟩⟩, [], rfl, ?_, ?_⟩
                  | refine ⟨⟨(), ⟨v, (wi_yes (by assumption)).imp id .inl, .inr ⟨by assumption, src_z (by assumption)⟩⟩⟩, [], rfl, ?_, ?_⟩
                  | refine ⟨⟨(), ⟨v, .inr (.inr ⟨by assumption, ipEq_iff.1 (tgt_z (by assumption))⟩), .inl (by assumption)⟩⟩, [], rfl, ?_, ?_⟩
                · repeat' (first | exact trivial | exact rfl | exact leF_ptr rfl | exact leF_int rfl | exact leF_bool rfl | exact leF_cl (cl_slB _ _) | exact leF_cl (cl_slR _ _) | exact leF_cl (cl_ll _ _) | exact leF_c (leC_os rfl rfl) | refine leF_int ?_ | refine leF_bool ?_ | exact leN_varA (fun _ _ => (Elem.flat _ _ _).le) | exact leN_varA (fun _ _ => leC_top) | apply And.intro)
                · repeat' (first | exact trivial | exact rfl | exact leF_ptr rfl | exact leF_int rfl | exact leF_bool rfl | exact leF_cl (cl_slB _ _) | exact leF_cl (cl_slR _ _) | exact leF_cl (cl_ll _ _) | exact leF_c (leC_os rfl rfl) | refine leF_int ?_ | refine leF_bool ?_ | exact leN_varA (fun _ _ => (Elem.flat _ _ _).le) | exact leN_varA (fun _ _ => leC_top) | apply And.intro)
                  exact leN_msg
            · rintro ⟨⟨⟩, v⟩
              dsimp only
              refine sem_exec (wd := 1) (Q := mkQ LDrv) (by decide) tysOk (q_of LDrv_ok) mixed ?_
              repeat' (first | (apply And.intro <;> intro hc <;> (first | exact Bool.noConfusion hc | (simp only [decide_eq_true_eq, decide_eq_false_iff_not, Bool.not_eq_true', Bool.not_eq_false', beq_iff_eq, beq_eq_false_iff_ne, bne_iff_ne, bne_eq_false_iff_eq, Bool.true_eq_false, Bool.false_eq_true] at hc) | skip)) | (refine And.intro (by first | exact trivial | decide | omega | (dsimp only; omega) | exact fun _ _ => rfl) ?_) | (apply And.intro) | (intro s hs))
              refine loop_intro (mono_of LDrv_ok) (fun s : {i : Nat // i ≤ m.p.length ∧ (m.p.take i).all (fun p => vpf (pfxP p)) = true} => (⟨[(1, one (.ptr 0 0 0 false)), (5, one (.int .i64 (s.1 : Int)))],
                [(0, some (mEnt m))], 1⟩ : Hd)) (fun s => m.p.length - s.1) (fun _ => rfl) ?_ ⟨0, by omega, rfl⟩ [] ?_
              · rintro ⟨i, hi, hv⟩
                dsimp only at hi hv ⊢
                repeat' (first | (apply And.intro <;> intro hc <;> (first | exact Bool.noConfusion hc | (simp only [decide_eq_true_eq, decide_eq_false_iff_not, Bool.not_eq_true', Bool.not_eq_false', beq_iff_eq, beq_eq_false_iff_ne, bne_iff_ne, bne_eq_false_iff_eq, Bool.true_eq_false, Bool.false_eq_true, ne_eq, not_true_eq_false] at hc <;> first | exact absurd rfl hc | skip) | skip)) | (refine And.intro (by first | exact trivial | decide | omega | (dsimp only; omega) | exact fun _ _ => rfl | exact ⟨by assumption, by first | exact trivial | decide | omega | (dsimp only; omega)⟩) ?_) | (apply And.intro) | (intro s hs; (have q : s = vpf (pfxP (m.p.getD i default)) := hs.trans (congrArg vpf (by rw [← pfx_P]; rfl)); clear hs)))
                · have hb : byteOk (pfxP (m.p.getD i default)).ip := getD_all (fun p : PI => byteOk p.ip) m.p i (by omega) fun x hx => (hm.p x hx).ip
                  rw [← pfx_P] at hb
                  exact hb
                · refine Done.mk (leF_bool (val_no fun h => ?_))
                  have hf : vpf (pfxP (m.p.getD i default)) = true := getD_all (fun p => vpf (pfxP p) = true) m.p i (by omega) h.p
                  exact Bool.noConfusion ((q.symm.trans (by assumption)).symm.trans hf)
                · have hlt : i < m.p.length := by omega
                  refine ⟨⟨i + 1, by omega, all_step hlt hv (q.symm.trans (by assumption))⟩, [], by dsimp only <;> omega, rfl, ?_, ?_⟩
                  · repeat' (first | exact trivial | exact rfl | exact leF_ptr rfl | exact leF_int rfl | exact leF_bool rfl | exact leF_cl (cl_slB _ _) | exact leF_cl (cl_slR _ _) | exact leF_cl (cl_ll _ _) | exact leF_c (leC_os rfl rfl) | refine leF_int ?_ | refine leF_bool ?_ | exact leN_varA (fun _ _ => (Elem.flat _ _ _).le) | exact leN_varA (fun _ _ => leC_top) | apply And.intro)
                    first | (dsimp only; rw [IntWalk.i64_in _ (by omega)]; omega) | (dsimp only; rw [IntWalk.i64_in _ (by omega)]; done) | (dsimp only; exact IntWalk.i64_in _ (by omega)) | exact IntWalk.i64_in _ (by omega) | (rw [IntWalk.i64_in _ (by omega)]; omega)
                  · repeat' (first | exact trivial | exact rfl | exact leF_ptr rfl | exact leF_int rfl | exact leF_bool rfl | exact leF_cl (cl_slB _ _) | exact leF_cl (cl_slR _ _) | exact leF_cl (cl_ll _ _) | exact leF_c (leC_os rfl rfl) | refine leF_int ?_ | refine leF_bool ?_ | exact leN_varA (fun _ _ => (Elem.flat _ _ _).le) | exact leN_varA (fun _ _ => leC_top) | apply And.intro)
                    exact leN_msg
                · have hpa : m.p.all (fun p => vpf (pfxP p)) = true := by rw [List.take_of_length_le (by omega)] at hv; exact hv
                  refine loop_intro (mono_of LDrv_ok) (fun s : {i : Nat // i ≤ m.c.length ∧ (m.c.take i).all okC = true} => (⟨[(1, one (.ptr 0 0 0 false)), (6, one (.int .i64 (s.1 : Int)))],
                    [(0, some (mEnt m))], 1⟩ : Hd)) (fun s => m.c.length - s.1) (fun _ => rfl) ?_ ⟨0, by omega, rfl⟩ [] ?_
                  · rintro ⟨i, hi, hw⟩
                    dsimp only at hi hw ⊢
                    repeat' (first | (apply And.intro <;> intro hc <;> (first | exact Bool.noConfusion hc | (simp only [decide_eq_true_eq, decide_eq_false_iff_not, Bool.not_eq_true', Bool.not_eq_false', beq_iff_eq, beq_eq_false_iff_ne, bne_iff_ne, bne_eq_false_iff_eq, Bool.true_eq_false, Bool.false_eq_true, ne_eq, not_true_eq_false] at hc <;> first | exact absurd rfl hc | skip) | skip)) | (refine And.intro (by first | exact trivial | decide | omega | (dsimp only; omega) | exact fun _ _ => rfl | exact ⟨by assumption, by first | exact trivial | decide | omega | (dsimp only; omega)⟩) ?_) | (apply And.intro) | (intro s hs; (have q : s = vpf (pfxC (m.c.getD i default)) := hs.trans (congrArg vpf (by rw [← pfx_C]; rfl)); clear hs)))
                    · have hb : byteOk (pfxC (m.c.getD i default)).ip := getD_all (fun p : CI => byteOk p.ip) m.c i (by omega) fun x hx => (hm.c x hx).ip
                      rw [← pfx_C] at hb
                      exact hb
                    · refine Done.mk (leF_bool (val_no fun h => ?_))
                      have hf := getD_all (fun p => okC p = true) m.c i (by omega) h.c
                      exact okc_f (q.symm.trans (by assumption)) hf
                    · refine Done.mk (leF_bool (val_no fun h => ?_))
                      have hf := okC_id (getD_all (fun p => okC p = true) m.c i (by omega) h.c)
                      have hx : (m.c.getD i default).id < 0 := by assumption
                      omega
                    · refine Done.mk (leF_bool (val_no fun h => ?_))
                      have hf := okC_id (getD_all (fun p => okC p = true) m.c i (by omega) h.c)
                      have hx : 16 ≤ (m.c.getD i default).id := by assumption
                      omega
                    · have hlt : i < m.c.length := by omega
                      have ht : vpf (pfxC (m.c.getD i default)) = true := q.symm.trans (by assumption)
                      have h1 : ¬ (m.c.getD i default).id < 0 := by assumption
                      have h2 : ¬ 16 ≤ (m.c.getD i default).id := by assumption
                      refine ⟨⟨i + 1, by omega, all_step hlt hw (by unfold okC; rw [ht, decide_eq_true (p := 0 ≤ (m.c.getD i default).id) (by omega), decide_eq_true (p := (m.c.getD i default).id < 16) (by omega)]; rfl)⟩, [], by dsimp only <;> omega, rfl, ?_, ?_⟩
                      · repeat' (first | exact trivial | exact rfl | exact leF_ptr rfl | exact leF_int rfl | exact leF_bool rfl | exact leF_cl (cl_slB _ _) | exact leF_cl (cl_slR _ _) | exact leF_cl (cl_ll _ _) | exact leF_c (leC_os rfl rfl) | refine leF_int ?_ | refine leF_bool ?_ | exact leN_varA (fun _ _ => (Elem.flat _ _ _).le) | exact leN_varA (fun _ _ => leC_top) | apply And.intro)
                        first | (dsimp only; rw [IntWalk.i64_in _ (by omega)]; omega) | (dsimp only; rw [IntWalk.i64_in _ (by omega)]; done) | (dsimp only; exact IntWalk.i64_in _ (by omega)) | exact IntWalk.i64_in _ (by omega) | (rw [IntWalk.i64_in _ (by omega)]; omega)
                      · repeat' (first | exact trivial | exact rfl | exact leF_ptr rfl | exact leF_int rfl | exact leF_bool rfl | exact leF_cl (cl_slB _ _) | exact leF_cl (cl_slR _ _) | exact leF_cl (cl_ll _ _) | exact leF_c (leC_os rfl rfl) | refine leF_int ?_ | refine leF_bool ?_ | exact leN_varA (fun _ _ => (Elem.flat _ _ _).le) | exact leN_varA (fun _ _ => leC_top) | apply And.intro)
                        exact leN_msg
                    · have hca : m.c.all okC = true := by rw [List.take_of_length_le (by omega)] at hw; exact hw
                      exact Done.mk (leF_bool (val_yes ⟨v.ty, v.adr, v.bc, v.np, v.nc, List.all_eq_true.1 hpa, List.all_eq_true.1 hca, v.own, v.bor, v.router, v.target, v.dup⟩))
                  · refine ⟨rfl, ?_, ?_⟩
                    · repeat' (first | exact trivial | exact rfl | exact leF_ptr rfl | exact leF_int rfl | exact leF_bool rfl | exact leF_cl (cl_slB _ _) | exact leF_cl (cl_slR _ _) | exact leF_cl (cl_ll _ _) | exact leF_c (leC_os rfl rfl) | refine leF_int ?_ | refine leF_bool ?_ | exact leN_varA (fun _ _ => (Elem.flat _ _ _).le) | exact leN_varA (fun _ _ => leC_top) | apply And.intro)
                    · repeat' (first | exact trivial | exact rfl | exact leF_ptr rfl | exact leF_int rfl | exact leF_bool rfl | exact leF_cl (cl_slB _ _) | exact leF_cl (cl_slR _ _) | exact leF_cl (cl_ll _ _) | exact leF_c (leC_os rfl rfl) | refine leF_int ?_ | refine leF_bool ?_ | exact leN_varA (fun _ _ => (Elem.flat _ _ _).le) | exact leN_varA (fun _ _ => leC_top) | apply And.intro)
                      exact leN_msg
              · refine ⟨rfl, ?_, ?_⟩
                · repeat' (first | exact trivial | exact rfl | exact leF_ptr rfl | exact leF_int rfl | exact leF_bool rfl | exact leF_cl (cl_slB _ _) | exact leF_cl (cl_slR _ _) | exact leF_cl (cl_ll _ _) | exact leF_c (leC_os rfl rfl) | refine leF_int ?_ | refine leF_bool ?_ | exact leN_varA (fun _ _ => (Elem.flat _ _ _).le) | exact leN_varA (fun _ _ => leC_top) | apply And.intro)
                · repeat' (first | exact trivial | exact rfl | exact leF_ptr rfl | exact leF_int rfl | exact leF_bool rfl | exact leF_cl (cl_slB _ _) | exact leF_cl (cl_slR _ _) | exact leF_cl (cl_ll _ _) | exact leF_c (leC_os rfl rfl) | refine leF_int ?_ | refine leF_bool ?_ | exact leN_varA (fun _ _ => (Elem.flat _ _ _).le) | exact leN_varA (fun _ _ => leC_top) | apply And.intro)
                  exact leN_msg
abbrev rvalE2 : Entry := pureE mA (fun a => MsgR a.1 ∧ a.1.p.length ≤ 9223372036854775807 ∧ a.1.c.length ≤ 9223372036854775807) (fun a => validM a.1) cB.enc
end Go.Proofs.Ythbhidfohdipnaa.AX

/- The reference of layer 20: body (by AX2). -/
namespace Go.Proofs.Ythbhidfohdipnaa.AX
open Go.RowKit
set_option linter.unusedVariables false
set_option linter.unusedSimpArgs false
theorem rb_app {s A B : List Int} {v w : Int} {n : Int} (hs : s = A ++ beB v n) (h1 : A = B) (h2 : v = w) : s = B ++ beB w n := by rw [hs, h1, h2]
set_option maxHeartbeats 8000000 in
set_option maxRecDepth 20000 in
theorem rbody_ok (m : Msg) (hm : MAr m.a) (ht : tyOk m.a.ty) : NewOk Try.prog 34 [cMsg.enc m] (some (bodyB m.a).length) none (entB (bodyB m.a)) := by
  have wl : IntKind.u64.wrap m.a.life = m.a.life := IntWalk.u64_in _ (by have := hm.life; omega)
  have wo : IntKind.u64.wrap m.a.olife = m.a.olife := IntWalk.u64_in _ (by have := hm.olife; omega)
  have g1 : True := trivial
  have g2 : True := trivial
  have g3 : True := trivial
  refine new_intro (wd := 1) (Q := mkQ LDrv) (by decide) tysOk (q_of LDrv_ok) mixed Try.func34 rfl _ (by show 1 ≤ _; decide) (fun i _ j _ => row_nf eB _ i j) ?_
  repeat' (first | (apply And.intro <;> intro hc <;> (first | exact Bool.noConfusion hc | (exfalso; first | exact absurd rfl hc) | (simp only [decide_eq_true_eq, decide_eq_false_iff_not, Bool.not_eq_true', Bool.not_eq_false', beq_iff_eq, beq_eq_false_iff_ne, bne_iff_ne, bne_eq_false_iff_eq, Bool.true_eq_false, Bool.false_eq_true, ne_eq, not_true_eq_false] at hc <;> first | exact absurd rfl hc | (exfalso; first | exact absurd rfl hc) | skip) | skip)) | (refine And.intro (by first | exact trivial | decide | omega | (dsimp only; omega) | exact fun _ _ => rfl | exact ⟨by assumption, by first | exact trivial | decide | omega | (dsimp only; omega)⟩) ?_) | (apply And.intro) | (intro s hs; (first | (have q : s = [m.a.hops, 0] ++ beB m.a.life 2 := rb_app hs rfl wl; clear hs; subst q) | (have q : s = [m.a.ostat, m.a.oseq] ++ beB m.a.olife 2 := rb_app hs rfl wo; clear hs; subst q) | (have q : s = ([m.a.ostat, m.a.oseq] ++ beB m.a.olife 2) ++ beB m.a.oeui 8 := rb_app hs (toL_b0 _) rfl; clear hs; subst q) | skip)) | (refine Exists.intro _ (And.intro ⟨rfl, rfl, rfl⟩ ?_)))
  · have n1 : ¬ isDup m.a.ty := by unfold isDup; omega
    have n2 : ¬ isNb m.a.ty := by unfold isNb; omega
    have e : bodyB m.a = zs 4 := by
      unfold bodyB
      rw [if_neg n1, if_neg (by omega), if_neg n2]
    rw [e]
    exact ⟨⟨some _, leF_c (leC_os rfl rfl), leN_is rfl ⟨fun k hk => by
      have hk : k < 4 := hk
      (iterate 4 (rcases k with _ | k; · exact rfl)); exact absurd hk (by omega)⟩⟩⟩
  · have hs2 : s < 2 := hs
    rcases s with _ | _ | s
    · exact rfl
    · exact rfl
    · exact absurd hs2 (by omega)
  · exact Nat.le_trans (Nat.le_of_eq (toL_len _ _ _)) (by decide)
  · exact Nat.le_of_ble_eq_true rfl
  · exact Nat.le_of_ble_eq_true rfl
  · have n1 : ¬ isDup m.a.ty := by unfold isDup; omega
    have e : bodyB m.a = [m.a.hops, 0] ++ (beN m.a.life 2 ++ zs 8) := by
      unfold bodyB
      rw [if_neg n1, if_pos hc]
    rw [e]
    exact ⟨⟨some _, leF_c (leC_os rfl rfl), leN_is rfl ⟨fun k hk => by
      have hk : k < 12 := hk
      (iterate 12 (rcases k with _ | k; · exact rfl)); exact absurd hk (by omega)⟩⟩⟩
  · have hn : isNb m.a.ty := of_decide_eq_true ((show s = decide (isNb m.a.ty) from hs).symm.trans hc)
    have e : bodyB m.a = zs 4 ++ ipL m.a.tgt := by
      unfold bodyB
      rw [if_neg (not_dup_nb hn), if_neg (by unfold isNb at hn; omega), if_pos hn]
    rw [e]
    exact ⟨⟨some _, leF_c (leC_os rfl rfl), leN_is rfl ⟨fun k hk => by
      have hk : k < 20 := hk
      (iterate 20 (rcases k with _ | k; · exact rfl)); exact absurd hk (by omega)⟩⟩⟩
  · have hs2 : s < 2 := hs
    rcases s with _ | _ | s
    · exact rfl
    · exact rfl
    · exact absurd hs2 (by omega)
  · exact Nat.le_trans (Nat.le_of_eq (toL_len _ _ _)) (by decide)
  · exact rfl
  · exact Nat.le_trans (Nat.le_of_eq (toL_len _ _ _)) (Nat.le_of_ble_eq_true rfl)
  · exact Nat.le_of_ble_eq_true rfl
  · exact Nat.le_of_ble_eq_true rfl
  · have hd : isDup m.a.ty := by
      have hn := of_decide_eq_false ((show s = decide (isNb m.a.ty) from hs).symm.trans hc)
      unfold tyOk at ht
      rcases ht with h | h | h | h <;> first | exact h | contradiction
    have e : bodyB m.a = [m.a.ostat, m.a.oseq] ++ (beN m.a.olife 2 ++ (beN m.a.oeui 8 ++ ipL m.a.tgt)) := if_pos hd
    rw [e]
    exact ⟨⟨some _, leF_c (leC_os rfl rfl), leN_is rfl ⟨fun k hk => by
      have hk : k < 28 := hk
      (iterate 28 (rcases k with _ | k; · exact rfl)); exact absurd hk (by omega)⟩⟩⟩
abbrev rbodyE : Entry := newE mA (fun a => MAr a.1.a ∧ tyOk a.1.a.ty) (fun a => bodyB a.1.a) (fun L => some L.length) (fun _ => none) (fun L => entB L)
theorem rbodyE_ok : EntOk Try.prog 34 rbodyE := newE_ok ⟨_, Try.func34, rfl, by kernel_rfl⟩ (fun s l h => by cases h) fun a h => rbody_ok a.1 h.1 h.2
end Go.Proofs.Ythbhidfohdipnaa.AX

/- A function that hands back a new block, with cuts (XBJ). -/
namespace Go.Proofs.Ythbhidfohdipnaa.AX
open Go.RowKit
set_option linter.unusedVariables false
set_option linter.unusedSimpArgs false
section
variable {P : Program} {T : Tys}
theorem new_introS (hT : TysOk P T) {f : FuncId} {fn : Func} {c : Code} (hf : P.funcs[f]? = some fn) (hb : fn.body = some c) (args : List FV) (hn : args.length ≤ fn.ntmps) {kd : Option Nat} {rest : Option (List EV)} {e' : Ent}
    (hnf : ∀ i, i < e'.n → ∀ j, j < e'.sz → NF (e'.f i j)) (h : Sem P fn.ntmps 0 c (argFr args 0) [] 0 (endH T fn.results.toList fun x H _ => FinN kd rest e' x H)) : NewOk P f args kd rest e' := by
  intro X w vals hrel hX
  have hrel' : RelL (fun _ => none) X (wr (fun _ => none) []) w args vals := by rw [wr_nil]; exact hrel
  refine (fn_runS hT hf hb hn h (fun _ _ h => by cases h) (st_start hX) hrel' (fun _ _ => ⟨rfl, rfl⟩)).mono fun e w' he => ?_
  obtain ⟨v, r', x, Hf, nf, rfl, ⟨rho, hfin, hent⟩, st, _, hx, _⟩ := he
  have hsrc : ∀ k, Wc.src ⟨Hf, [(0, some e')], [(0, rho)], 1, true⟩ k = if k = 0 then rho else none := fun k => by
    unfold Wc.src
    simp only [lookR]
    by_cases hk : k = 0
    · subst hk; simp
    · have h1 : Nat.beq k 0 = false := by
        cases hb : Nat.beq k 0 with
        | false => rfl
        | true => exact absurd (Nat.eq_of_beq_eq_true hb) hk
      have h2 : Nat.blt k 1 = false := by
        cases hb : Nat.blt k 1 with
        | false => rfl
        | true => have := Nat.le_of_ble_eq_true hb; omega
      simp [h1, h2, hk]
  have hren : Wc.ren ⟨Hf, [(0, some e')], [(0, rho)], 1, true⟩ r' = at0 (rho.bind r') := by
    funext k
    unfold Wc.ren at0
    rw [hsrc]
    by_cases hk : k = 0
    · rw [if_pos hk, if_pos hk]; cases rho <;> rfl
    · rw [if_neg hk, if_neg hk]
  have hlive : Wc.Live ⟨Hf, [(0, some e')], [(0, rho)], 1, true⟩ := fun k e1 he1 k0 hk0 => by
    rw [hsrc] at hk0
    split at hk0
    · subst hk0
      unfold WkE at hent
      simp only at hent
      split at hent
      · rename_i e2 hh; exact ⟨e2, hh⟩
      · exact hent.elim
    · cases hk0
  have hwr : ∀ b, orB X (rho.bind r') b → Wc.wr ⟨Hf, [(0, some e')], [(0, rho)], 1, true⟩ ⟨w, fun _ => False, fun _ => False, X, fun _ => none⟩ r' b := fun b hb => by
    rcases hb with hb | ⟨y, hy, hyb⟩
    · exact .inr ⟨rfl, hb⟩
    · refine .inl ⟨0, e', y, look_cons_eq _ _ _ _, ?_, hyb⟩
      rw [hren]; show (if 0 = 0 then _ else _) = _; rw [if_pos rfl]; exact hy
  refine ⟨v, rho.bind r', rfl, ⟨st.os, st.tape, st.output, st.size, fun b hb => st.kept b hb id⟩, fun y hy => ?_, ?_, ?_⟩
  · cases rho with
    | none => cases hy
    | some j =>
      have hy' : r' j = some y := hy
      obtain ⟨d1, d2, _⟩ := st.dom j y hy'
      exact ⟨d2.resolve_right id, d1⟩
  · cases rho with
    | none =>
      obtain ⟨g1, g2, g3⟩ := hent
      exact ⟨g3, (fun h => by rw [g2] at h; cases h), .inl ⟨rfl, g1⟩⟩
    | some j =>
      unfold WkE at hent
      simp only at hent
      split at hent
      · rename_i e2 hh
        exact (st.blk j e2 hh).map hent.t hent.n hent.sz hent.v rfl (fun _ _ => rfl) fun i hi j' hj u hu => by
          have h1 := hent.f i hi j' hj hlive _ r' w' u st hu
          exact CV.rel_w hwr _ _ (hnf i (by rw [← hent.n]; exact hi) j' (by rw [← hent.sz]; exact hj) _ _ _ _ _ _ h1)
      · exact hent.elim
  · have h1 := hfin hlive _ r' w' v st hx
    rw [hren] at h1
    exact FV.rel_w hwr _ _ h1
end
end Go.Proofs.Ythbhidfohdipnaa.AX

/- The reference of layer 20: options (by AX2). -/
namespace Go.Proofs.Ythbhidfohdipnaa.AX
open Go.RowKit
set_option linter.unusedVariables false
set_option linter.unusedSimpArgs false
theorem isRow_appD {A C : Nat → Nat → CV} {l1 l2 : List Int} {n : Nat} (hn : n = l1.length) (h1 : IsRow A l1) (h2 : IsRow C l2) : IsRow (fun k j => selC (Nat.blt k n) (A k j) (C (k - n) j)) (l1 ++ l2) := ⟨fun k hk => by
  subst hn
  rw [List.length_append] at hk
  show selC (Nat.blt k l1.length) (A k 0) (C (k - l1.length) 0) = _
  by_cases h : k < l1.length
  · rw [blt_lt h, selC_true, h1.at_ k h, List.getD_eq_getElem?_getD, List.getD_eq_getElem?_getD, List.getElem?_append_left h]
  · have e : Nat.blt k l1.length = false := by
      cases hb : Nat.blt k l1.length with
      | false => rfl
      | true => exact absurd (Nat.le_of_ble_eq_true hb) h
    rw [e, selC_false, h2.at_ (k - l1.length) (by omega), List.getD_eq_getElem?_getD, List.getD_eq_getElem?_getD, List.getElem?_append_right (by omega)]⟩
theorem eB_ofK {g : Nat → CV} (h : isK .u8 (g 0) = true) : eB.ok g = true := h
theorem blt_noD {a b : Nat} (h : b ≤ a) : Nat.blt a b = false := by
  cases hb : Nat.blt a b with
  | false => rfl
  | true => exact absurd (Nat.le_of_ble_eq_true hb) (by omega)
theorem toL_ptX {X l : List Int} {N : Nat} {A : Nat → Nat → CV} (hN : N = X.length + l.length) (h1 : ∀ k, k < X.length → A k 0 = .int .u8 (X.getD k default)) (h2 : ∀ q, q < l.length → A (X.length + q) 0 = .int .u8 (l.getD q default)) : toL eB N A = X ++ l := by
  refine toL_is (by rw [List.length_append]; exact hN) ⟨fun k hk => ?_⟩
  rw [List.length_append] at hk
  by_cases h : k < X.length
  · rw [h1 k h, List.getD_eq_getElem?_getD, List.getD_eq_getElem?_getD, List.getElem?_append_left h]
  · obtain ⟨q, rfl⟩ : ∃ q, k = X.length + q := ⟨k - X.length, by omega⟩
    rw [h2 q (by omega), List.getD_eq_getElem?_getD, List.getD_eq_getElem?_getD, List.getElem?_append_right (by omega), Nat.add_sub_cancel_left]
theorem beN2_len (v : Int) : (beB v 2).length = 2 := by unfold beB; rw [if_pos (by decide)]; exact beN_len _ _
theorem isK_selC {k : IntKind} {c : Bool} {a b : CV} (h1 : isK k a = true) (h2 : isK k b = true) : isK k (selC c a b) = true := by
  rw [selC_eq]; cases c <;> assumption
theorem beBl2 (v : Int) : (beB v 2).length = 2 := beN2_len v
theorem beBl4 (v : Int) : (beB v 4).length = 4 := by unfold beB; rw [if_pos (by decide)]; exact beN_len _ _
theorem isRow_zs (n : Nat) : IsRow (fun _ => nth [CV.int .u8 0]) (zs n) := ⟨fun k hk => by
  show CV.int .u8 0 = _
  rw [zs_len] at hk
  unfold zs
  rw [List.getD_eq_getElem?_getD, List.getElem?_eq_getElem (by rw [List.length_replicate]; exact hk), List.getElem_replicate]; rfl⟩
theorem isRow_ip {B : Nat → Nat → CV} {a : Fin 16 → Int} (h : ∀ k, k < 16 → B k 0 = .int .u8 (vget a k)) : IsRow B (ipL a) := ⟨fun k hk => by
  rw [ipL_len] at hk
  rw [h k hk, ipL_get a hk]⟩
def HT (m : Msg) (X : List Int) (_ : Unit) : Hd := ⟨[(1, one (.ptr 0 0 0 false)), (3, one (.os 50 0 X.length))], [(0, some (mEnt m)), (50, some (entB X))], 51⟩
set_option maxHeartbeats 8000000 in
set_option maxRecDepth 20000 in
theorem ropt_ok (m : Msg) (hm : MsgR m) (hv : ValM m) : NewOk Try.prog 35 [cMsg.enc m] (some (optB m).length) none (entB (optB m)) := by
  have ws : IntKind.u64.wrap m.a.short = m.a.short := IntWalk.u64_in _ (by have := hm.a.short; omega)
  have wo : IntKind.u64.wrap m.a.olife = m.a.olife := IntWalk.u64_in _ (by have := hm.a.olife; omega)
  refine new_introS tysOk Try.func35 rfl _ (by show 1 ≤ _; decide) (fun i _ j _ => row_nf eB _ i j) ?_
  refine sem_step (wd := 1) (Q := mkQ LDrv) (by decide) tysOk (q_of LDrv_ok) mixed ?_
  refine sem_step (wd := 1) (Q := mkQ LDrv) (by decide) tysOk (q_of LDrv_ok) mixed ?_
  change Sem _ _ _ _ _ _ _ _; refine sem_cut (wd := 1) (Q := mkQ LDrv) (by decide) tysOk (q_of LDrv_ok) (mono_of LDrv_ok) mixed (HT m (srcB m.a)) (by intro _; rfl) ?_ ?_
  · repeat' (first | (apply And.intro <;> intro hc <;> (first | exact Bool.noConfusion hc | (exfalso; first | exact absurd rfl hc) | (simp only [decide_eq_true_eq, decide_eq_false_iff_not, Bool.not_eq_true', Bool.not_eq_false', beq_iff_eq, beq_eq_false_iff_ne, bne_iff_ne, bne_eq_false_iff_eq, Bool.true_eq_false, Bool.false_eq_true, ne_eq, not_true_eq_false] at hc <;> first | exact absurd rfl hc | (exfalso; first | exact absurd rfl hc) | skip) | skip)) | (refine And.intro (by first | exact trivial | decide | omega | (dsimp only; omega) | exact fun _ _ => rfl | exact ⟨by assumption, by first | exact trivial | decide | omega | (dsimp only; omega)⟩) ?_) | (apply And.intro) | (intro s hs; (first | (have q : s = [1, 1] ++ beB m.a.short 2 := rb_app hs rfl ws; clear hs; subst q) | (have q : s = [1, 2] ++ beB m.a.eui 8 := rb_app hs rfl rfl; clear hs; subst q) | skip)) | (refine Exists.intro _ (And.intro ⟨rfl, rfl, rfl⟩ ?_)))
    · exact Nat.le_trans (Nat.le_of_eq (toL_len _ _ _)) (Nat.le_of_ble_eq_true rfl)
    · exact Nat.le_of_ble_eq_true rfl
    · exact Nat.le_of_ble_eq_true rfl
    · have e : srcB m.a = [1, 1] ++ (beN m.a.short 2 ++ zs 4) := by
        unfold srcB
        rw [if_pos hc]
      rw [e]
      exact ⟨(), [(50, some 15)], rfl, ⟨leF_ptr rfl, leF_c (leC_os rfl rfl), trivial⟩, ⟨rfl, leN_msg⟩, ⟨rfl, leN_is rfl ⟨fun k hk => by
        have hk : k < 8 := hk
        (iterate 8 (rcases k with _ | k; · exact rfl)); exact absurd hk (by omega)⟩⟩, trivial⟩
    · exact Nat.le_trans (Nat.le_of_eq (toL_len _ _ _)) (Nat.le_of_ble_eq_true rfl)
    · exact Nat.le_of_ble_eq_true rfl
    · exact Nat.le_of_ble_eq_true rfl
    · have e : srcB m.a = [1, 2] ++ (beN m.a.eui 8 ++ zs 6) := by
        unfold srcB
        rw [if_neg (by omega), if_pos hc]
      rw [e]
      exact ⟨(), [(50, some 16)], rfl, ⟨leF_ptr rfl, leF_c (leC_os rfl rfl), trivial⟩, ⟨rfl, leN_msg⟩, ⟨rfl, leN_is rfl ⟨fun k hk => by
        have hk : k < 16 := hk
        (iterate 16 (rcases k with _ | k; · exact rfl)); exact absurd hk (by omega)⟩⟩, trivial⟩
    · have e : srcB m.a = [] := by
        unfold srcB
        rw [if_neg (by assumption), if_neg hc]
      rw [e]
      exact ⟨(), [(50, none)], rfl, ⟨leF_ptr rfl, leF_c (leC_nils_os rfl), trivial⟩, ⟨rfl, leN_msg⟩, ⟨rfl, rfl, rfl, Nat.le_of_ble_eq_true rfl⟩, trivial⟩
  intro _
  have hX : (srcB m.a).length ≤ 600 := Nat.le_trans (by unfold prB; rw [List.length_append]; omega) (pr_len hv.np 0)
  have hXB : BL (srcB m.a) := by
    have h := opt_BL hm hv
    unfold optB at h
    exact ⟨fun x hx => h.m x (List.mem_append_left _ hx)⟩
  obtain ⟨X, eX⟩ : ∃ X, srcB m.a = X := ⟨_, rfl⟩
  have e0 : prB m 0 = X ++ ownO m.a := by unfold prB; rw [eX, List.take_zero]; simp
  rw [eX] at hX hXB ⊢
  change Sem _ _ _ _ _ _ _ _; refine sem_cut (wd := 1) (Q := mkQ LDrv) (by decide) tysOk (q_of LDrv_ok) (mono_of LDrv_ok) mixed (HT m (prB m 0)) (by intro _; rfl) ?_ ?_
  · repeat' (first | (apply And.intro <;> intro hc <;> (first | exact Bool.noConfusion hc | (exfalso; first | exact absurd rfl hc) | (simp only [decide_eq_true_eq, decide_eq_false_iff_not, Bool.not_eq_true', Bool.not_eq_false', beq_iff_eq, beq_eq_false_iff_ne, bne_iff_ne, bne_eq_false_iff_eq, Bool.true_eq_false, Bool.false_eq_true, ne_eq, not_true_eq_false] at hc <;> first | exact absurd rfl hc | (exfalso; first | exact absurd rfl hc) | skip) | skip)) | (refine And.intro (by first | exact trivial | decide | omega | (dsimp only; omega) | exact fun _ _ => rfl | exact ⟨by assumption, by first | exact trivial | decide | omega | (dsimp only; omega)⟩) ?_) | (apply And.intro) | (intro s hs; skip) | (refine Exists.intro _ (And.intro ⟨rfl, rfl, rfl⟩ ?_)))
    · refine eB_ofK ?_
      repeat' (first | exact rfl | refine isK_selC ?_ ?_)
    · exact Nat.le_trans (Nat.le_of_eq (toL_len _ _ _)) (by omega)
    · exact rfl
    · have q := congrArg List.length (show s = _ ++ beB _ _ from hs)
      rw [List.length_append, toL_len, beN2_len] at q
      exact Nat.le_trans (Nat.le_of_eq (toL_len _ _ _)) (by omega)
    · rename_i h0 s0 hs0 s1 hs1
      have q1 : s1 = (X ++ [33, 2, m.a.ostat, 0, 0, m.a.oseq]) ++ beB m.a.olife 2 := rb_app hs1 (toL_ptX (X := X) (l := [33, 2, m.a.ostat, 0, 0, m.a.oseq]) rfl
        (fun k hk => by
          show selC (Nat.blt (0 + k) X.length) (rowF eB X (0 + k) 0) _ = _
          rw [Nat.zero_add, blt_lt hk, selC_true]; rfl)
        (fun q hq => by
          have hq : q < 6 := hq
          show selC (Nat.blt (0 + (X.length + q)) X.length) (rowF eB X (0 + (X.length + q)) 0) _ = _
          rw [Nat.zero_add, blt_noD (by omega), selC_false, Nat.add_sub_cancel_left]
          (iterate 6 (rcases q with _ | q; · exact rfl)); exact absurd hq (by omega))) wo
      have q2 : s = s1 ++ beB m.a.oeui 8 := rb_app hs (toL_b0 _) rfl
      have es : s = prB m 0 := by
        have hn := of_decide_eq_true ((show s0 = decide (isNb m.a.ty) from hs0).symm.trans hc)
        have eo : ownO m.a = ownB m.a := if_pos ⟨by assumption, hn⟩
        rw [q2, q1, e0, eo]
        unfold ownB beB
        rw [if_pos (by decide), if_pos (by decide)]
        simp only [List.append_assoc]
        rfl
      clear hs hs1 q1 q2
      subst es
      exact ⟨(), [(50, some 77)], rfl, ⟨leF_ptr rfl, leF_c (leC_os rfl rfl), trivial⟩, ⟨rfl, leN_msg⟩, ⟨rfl, leN_ents⟩, trivial⟩
    · have eo : ownO m.a = [] := if_neg fun h => (of_decide_eq_false ((show s = decide (isNb m.a.ty) from hs).symm.trans hc)) h.2
      rw [e0, eo, List.append_nil]
      exact ⟨(), [], rfl, ⟨leF_ptr rfl, leF_c (leC_os rfl rfl), trivial⟩, ⟨rfl, leN_msg⟩, ⟨rfl, leN_ents⟩, trivial⟩
    · have eo : ownO m.a = [] := if_neg fun h => by
        rename_i h0
        rw [h0] at h; exact absurd h.1 (by decide)
      rw [e0, eo, List.append_nil]
      exact ⟨(), [], rfl, ⟨leF_ptr rfl, leF_c (leC_os rfl rfl), trivial⟩, ⟨rfl, leN_msg⟩, ⟨rfl, leN_ents⟩, trivial⟩
  intro _
  have hpl : ∀ i, (prB m i).length ≤ 600 := fun i => pr_len hv.np i
  clear eX e0 hX hXB X
  change Sem _ _ _ _ _ _ _ _; refine sem_cut (wd := 1) (Q := mkQ LDrv) (by decide) tysOk (q_of LDrv_ok) (mono_of LDrv_ok) mixed (HT m (prB m m.p.length)) (by intro _; rfl) ?_ ?_
  · repeat' (first | (apply And.intro <;> intro hc <;> (first | exact Bool.noConfusion hc | (simp only [decide_eq_true_eq, decide_eq_false_iff_not, Bool.not_eq_true', Bool.not_eq_false', beq_iff_eq, beq_eq_false_iff_ne, bne_iff_ne, bne_eq_false_iff_eq, Bool.true_eq_false, Bool.false_eq_true] at hc) | skip)) | (refine And.intro (by first | exact trivial | decide | omega | (dsimp only; omega) | exact fun _ _ => rfl) ?_) | (apply And.intro) | (intro s hs))
    refine loop_intro (mono_of LDrv_ok) (fun s : {i : Nat // i ≤ m.p.length} => (⟨[(1, one (.ptr 0 0 0 false)), (3, one (.os 50 0 (prB m s.1).length)), (4, one (.int .i64 (s.1 : Int)))], [(0, some (mEnt m)), (50, some (entB (prB m s.1)))], 51⟩ : Hd)) (fun s => m.p.length - s.1) (fun _ => rfl) ?_ ⟨0, by omega⟩ [] ?_
    · rintro ⟨i, hi⟩
      dsimp only at hi ⊢
      have hx := hpl i
      obtain ⟨X, eX⟩ : ∃ X, prB m i = X := ⟨_, rfl⟩
      rw [eX] at hx ⊢
      repeat' (first | (apply And.intro <;> intro hc <;> (first | exact Bool.noConfusion hc | (exfalso; first | exact absurd rfl hc) | (simp only [decide_eq_true_eq, decide_eq_false_iff_not, Bool.not_eq_true', Bool.not_eq_false', beq_iff_eq, beq_eq_false_iff_ne, bne_iff_ne, bne_eq_false_iff_eq, Bool.true_eq_false, Bool.false_eq_true, ne_eq, not_true_eq_false] at hc <;> first | exact absurd rfl hc | (exfalso; first | exact absurd rfl hc) | skip) | skip)) | (refine And.intro (by first | exact trivial | decide | omega | (dsimp only; omega) | exact fun _ _ => rfl | exact ⟨by assumption, by first | exact trivial | decide | omega | (dsimp only; omega)⟩) ?_) | (apply And.intro) | (intro s hs; (first | (have hl := congrArg List.length (show s = _ ++ beB _ 2 from hs); rw [List.length_append, toL_len, beBl2] at hl) | (have hl := congrArg List.length (show s = _ ++ beB _ 4 from hs); rw [List.length_append, toL_len, beBl4] at hl) | skip)) | (refine Exists.intro _ (And.intro ⟨rfl, rfl, rfl⟩ ?_)))
      · refine eB_ofK ?_
        repeat' (first | exact rfl | refine isK_selC ?_ ?_)
      · exact Nat.le_trans (Nat.le_of_eq (toL_len _ _ _)) (by omega)
      · omega
      · omega
      · rename_i s0 hs0 s1 hs1
        have hlt : i < m.p.length := by omega
        have ei : IntKind.i64.wrap ((i : Int) + 1) = ((i + 1 : Nat) : Int) := by
          have := hv.np
          rw [IntWalk.i64_in _ (by omega)]; omega
        have hr := hm.p _ (mem_getD hlt)
        have hb := vpf_bits (p := pfxP (m.p.getD i default)) (hv.p _ (mem_getD hlt))
        have e3 : IntKind.u8.wrap (m.p.getD i default).bits = (m.p.getD i default).bits := IntWalk.u8_in _ ⟨hb.1, by have := hb.2; dsimp only [pfxP] at this; omega⟩
        have f1 := fB_r (m.p.getD i default).onl 128 (by decide)
        have f2 := fB_r (m.p.getD i default).aut 64 (by decide)
        have e4 : IntKind.u8.wrap (fB (m.p.getD i default).onl 128 + fB (m.p.getD i default).aut 64) = fB (m.p.getD i default).onl 128 + fB (m.p.getD i default).aut 64 := IntWalk.u8_in _ (by omega)
        have e5 := be4 hr.life
        have e0 : s0 = fB (m.p.getD i default).onl 128 := hs0
        have e1 : s1 = fB (m.p.getD i default).aut 64 := hs1
        have q : s = (X ++ [3, 4, IntKind.u8.wrap (m.p.getD i default).bits, IntKind.u8.wrap (s0 + s1)]) ++ beB (IntKind.u64.wrap (m.p.getD i default).life) 4 := rb_app hs (toL_ptX (X := X) (l := [3, 4, IntKind.u8.wrap (m.p.getD i default).bits, IntKind.u8.wrap (s0 + s1)]) rfl
          (fun k hk => by
            show selC (Nat.blt (0 + k) X.length) (rowF eB X (0 + k) 0) _ = _
            rw [Nat.zero_add, blt_lt hk, selC_true]; rfl)
          (fun q hq => by
            have hq : q < 4 := hq
            show selC (Nat.blt (0 + (X.length + q)) X.length) (rowF eB X (0 + (X.length + q)) 0) _ = _
            rw [Nat.zero_add, blt_noD (by omega), selC_false, Nat.add_sub_cancel_left]
            (iterate 4 (rcases q with _ | q; · exact rfl)); exact absurd hq (by omega))) rfl
        have es : prB m (i + 1) = s ++ zs 8 ++ ipL (m.p.getD i default).ip := by
          rw [pr_step hlt, eX, q, e0, e1, e3, e4, e5]
          unfold pfB
          simp only [List.append_assoc]
        have en : s.length + 8 + 16 = (prB m (i + 1)).length := by rw [es, List.length_append, List.length_append, zs_len, ipL_len]
        refine ⟨⟨i + 1, by omega⟩, [(50, some 87)], by dsimp only <;> omega, rfl, ⟨leF_ptr rfl, leF_c (leC_os rfl en), leF_c (leC_int ei), trivial⟩, ⟨rfl, leN_msg⟩, ⟨rfl, leN_is en ?_⟩, trivial⟩
        dsimp only
        rw [es]
        exact isRow_appD (n := s.length + 8) (A := fun k j => selC (Nat.blt k s.length) (rowF eB s k j) (nth [.int .u8 0] j)) (C := fun k j => rowF ePI m.p i (0 + 0 + 0 + 0 * 1 + (k * 1 + j))) (by rw [List.length_append, zs_len]) (isRow_appD rfl (isRow_row s) (isRow_zs 8)) (isRow_ip fun k hk => by
          show ePI.cell (m.p.getD i default) (0 + 0 + 0 + 0 * 1 + (k * 1 + 0)) = _
          rw [show 0 + 0 + 0 + 0 * 1 + (k * 1 + 0) = 0 + k by omega]
          exact ePI_ip_at _ k hk)
      · have hpe : i = m.p.length := by omega
        subst hpe
        rw [eX]
        exact ⟨(), [], rfl, ⟨leF_ptr rfl, leF_c (leC_os rfl rfl), trivial⟩, ⟨rfl, leN_msg⟩, ⟨rfl, leN_ents⟩, trivial⟩
    · exact ⟨rfl, ⟨leF_ptr rfl, leF_c (leC_os rfl rfl), leF_c (leC_int rfl), trivial⟩, ⟨rfl, leN_msg⟩, ⟨rfl, leN_ents⟩, trivial⟩
  intro _
  rw [show prB m m.p.length = coB m 0 by unfold coB; simp]
  clear hpl
  have hpl : ∀ i, (coB m i).length ≤ 1000 := fun i => co_len hv.np hv.nc i
  change Sem _ _ _ _ _ _ _ _; refine sem_cut (wd := 1) (Q := mkQ LDrv) (by decide) tysOk (q_of LDrv_ok) (mono_of LDrv_ok) mixed (HT m (coB m m.c.length)) (by intro _; rfl) ?_ ?_
  · repeat' (first | (apply And.intro <;> intro hc <;> (first | exact Bool.noConfusion hc | (simp only [decide_eq_true_eq, decide_eq_false_iff_not, Bool.not_eq_true', Bool.not_eq_false', beq_iff_eq, beq_eq_false_iff_ne, bne_iff_ne, bne_eq_false_iff_eq, Bool.true_eq_false, Bool.false_eq_true] at hc) | skip)) | (refine And.intro (by first | exact trivial | decide | omega | (dsimp only; omega) | exact fun _ _ => rfl) ?_) | (apply And.intro) | (intro s hs))
    refine loop_intro (mono_of LDrv_ok) (fun s : {i : Nat // i ≤ m.c.length} => (⟨[(1, one (.ptr 0 0 0 false)), (3, one (.os 50 0 (coB m s.1).length)), (6, one (.int .i64 (s.1 : Int)))], [(0, some (mEnt m)), (50, some (entB (coB m s.1)))], 51⟩ : Hd)) (fun s => m.c.length - s.1) (fun _ => rfl) ?_ ⟨0, by omega⟩ [] ?_
    · rintro ⟨i, hi⟩
      dsimp only at hi ⊢
      have hx := hpl i
      obtain ⟨X, eX⟩ : ∃ X, coB m i = X := ⟨_, rfl⟩
      rw [eX] at hx ⊢
      repeat' (first | (apply And.intro <;> intro hc <;> (first | exact Bool.noConfusion hc | (exfalso; first | exact absurd rfl hc) | (simp only [decide_eq_true_eq, decide_eq_false_iff_not, Bool.not_eq_true', Bool.not_eq_false', beq_iff_eq, beq_eq_false_iff_ne, bne_iff_ne, bne_eq_false_iff_eq, Bool.true_eq_false, Bool.false_eq_true, ne_eq, not_true_eq_false] at hc <;> first | exact absurd rfl hc | (exfalso; first | exact absurd rfl hc) | skip) | skip)) | (refine And.intro (by first | exact trivial | decide | omega | (dsimp only; omega) | exact fun _ _ => rfl | exact ⟨by assumption, by first | exact trivial | decide | omega | (dsimp only; omega)⟩) ?_) | (apply And.intro) | (intro s hs; (first | (have hl := congrArg List.length (show s = _ ++ beB _ 2 from hs); rw [List.length_append, toL_len, beBl2] at hl) | (have hl := congrArg List.length (show s = _ ++ beB _ 4 from hs); rw [List.length_append, toL_len, beBl4] at hl) | skip)) | (refine Exists.intro _ (And.intro ⟨rfl, rfl, rfl⟩ ?_)))
      · refine eB_ofK ?_
        repeat' (first | exact rfl | refine isK_selC ?_ ?_)
      · exact Nat.le_trans (Nat.le_of_eq (toL_len _ _ _)) (by omega)
      · omega
      · rename_i s0 hs0
        have hlt : i < m.c.length := by omega
        have ei : IntKind.i64.wrap ((i : Int) + 1) = ((i + 1 : Nat) : Int) := by
          have := hv.nc
          rw [IntWalk.i64_in _ (by omega)]; omega
        have hr := hm.c _ (mem_getD hlt)
        have ho := hv.c _ (mem_getD hlt)
        have hid := okC_id ho
        have hb := okC_bits ho
        have e3 : IntKind.u8.wrap (m.c.getD i default).bits = (m.c.getD i default).bits := IntWalk.u8_in _ (by omega)
        have f1 := fB_r (m.c.getD i default).comp 16 (by decide)
        have e2 : IntKind.u8.wrap (m.c.getD i default).id = (m.c.getD i default).id := IntWalk.u8_in _ (by omega)
        have e4 : IntKind.u8.wrap (fB (m.c.getD i default).comp 16 + (m.c.getD i default).id) = fB (m.c.getD i default).comp 16 + (m.c.getD i default).id := IntWalk.u8_in _ (by omega)
        have e5 := be2 hr.life
        have e0 : s0 = fB (m.c.getD i default).comp 16 := hs0
        have q : s = (X ++ [34, 3, IntKind.u8.wrap (m.c.getD i default).bits, IntKind.u8.wrap (s0 + IntKind.u8.wrap (m.c.getD i default).id), 0, 0]) ++ beB (IntKind.u64.wrap (m.c.getD i default).life) 2 := rb_app hs (toL_ptX (X := X) (l := [34, 3, IntKind.u8.wrap (m.c.getD i default).bits, IntKind.u8.wrap (s0 + IntKind.u8.wrap (m.c.getD i default).id), 0, 0]) rfl
          (fun k hk => by
            show selC (Nat.blt (0 + k) X.length) (rowF eB X (0 + k) 0) _ = _
            rw [Nat.zero_add, blt_lt hk, selC_true]; rfl)
          (fun q hq => by
            have hq : q < 6 := hq
            show selC (Nat.blt (0 + (X.length + q)) X.length) (rowF eB X (0 + (X.length + q)) 0) _ = _
            rw [Nat.zero_add, blt_noD (by omega), selC_false, Nat.add_sub_cancel_left]
            (iterate 6 (rcases q with _ | q; · exact rfl)); exact absurd hq (by omega))) rfl
        have es : coB m (i + 1) = s ++ ipL (m.c.getD i default).ip := by
          rw [co_step hlt, eX, q, e0, e2, e3, e4, e5]
          unfold ctB
          simp only [List.append_assoc]
        have en : s.length + 16 = (coB m (i + 1)).length := by rw [es, List.length_append, ipL_len]
        refine ⟨⟨i + 1, by omega⟩, [(50, some 86)], by dsimp only <;> omega, rfl, ⟨leF_ptr rfl, leF_c (leC_os rfl en), leF_c (leC_int ei), trivial⟩, ⟨rfl, leN_msg⟩, ⟨rfl, leN_is en ?_⟩, trivial⟩
        dsimp only
        rw [es]
        exact isRow_appD (C := fun k j => rowF eCI m.c i (0 + 1 + 0 + 0 * 1 + (k * 1 + j))) rfl (isRow_row s) (isRow_ip fun k hk => by
          show eCI.cell (m.c.getD i default) (0 + 1 + 0 + 0 * 1 + (k * 1 + 0)) = _
          rw [show 0 + 1 + 0 + 0 * 1 + (k * 1 + 0) = 1 + k by omega]
          exact eCI_ip_at _ k hk)
      · have hpe : i = m.c.length := by omega
        subst hpe
        rw [eX]
        exact ⟨(), [], rfl, ⟨leF_ptr rfl, leF_c (leC_os rfl rfl), trivial⟩, ⟨rfl, leN_msg⟩, ⟨rfl, leN_ents⟩, trivial⟩
    · exact ⟨rfl, ⟨leF_ptr rfl, leF_c (leC_os rfl rfl), leF_c (leC_int rfl), trivial⟩, ⟨rfl, leN_msg⟩, ⟨rfl, leN_ents⟩, trivial⟩
  intro _
  have hx := hpl m.c.length
  have eO : optB m = coB m m.c.length ++ borO m.z := by
    unfold optB coB prB
    rw [List.take_length, List.take_length]
    simp only [List.append_assoc]
  rw [eO]
  clear eO hpl
  obtain ⟨X, eX⟩ : ∃ X, coB m m.c.length = X := ⟨_, rfl⟩
  rw [eX] at hx ⊢
  clear eX
  refine sem_exec (wd := 1) (Q := mkQ LDrv) (by decide) tysOk (q_of LDrv_ok) mixed ?_
  repeat' (first | (apply And.intro <;> intro hc <;> (first | exact Bool.noConfusion hc | (exfalso; first | exact absurd rfl hc) | (simp only [decide_eq_true_eq, decide_eq_false_iff_not, Bool.not_eq_true', Bool.not_eq_false', beq_iff_eq, beq_eq_false_iff_ne, bne_iff_ne, bne_eq_false_iff_eq, Bool.true_eq_false, Bool.false_eq_true, ne_eq, not_true_eq_false] at hc <;> first | exact absurd rfl hc | (exfalso; first | exact absurd rfl hc) | skip) | skip)) | (refine And.intro (by first | exact trivial | decide | omega | (dsimp only; omega) | exact fun _ _ => rfl | exact ⟨by assumption, by first | exact trivial | decide | omega | (dsimp only; omega)⟩) ?_) | (apply And.intro) | (intro s hs; (first | (have hl := congrArg List.length (show s = _ ++ beB _ 2 from hs); rw [List.length_append, toL_len, beBl2] at hl) | (have hl := congrArg List.length (show s = _ ++ beB _ 4 from hs); rw [List.length_append, toL_len, beBl4] at hl) | skip)) | (refine Exists.intro _ (And.intro ⟨rfl, rfl, rfl⟩ ?_)))
  · refine eB_ofK ?_
    repeat' (first | exact rfl | refine isK_selC ?_ ?_)
  · exact Nat.le_trans (Nat.le_of_eq (toL_len _ _ _)) (by omega)
  · exact rfl
  · exact Nat.le_trans (Nat.le_of_eq (toL_len _ _ _)) (by omega)
  · rename_i s0 hs0 hl0
    have q0 : s0 = (X ++ [35, 3]) ++ beB (IntKind.u64.wrap m.z.blife) 2 := rb_app hs0 (toL_ptX (X := X) (l := [35, 3]) rfl
      (fun k hk => by
        show selC (Nat.blt (0 + k) X.length) (rowF eB X (0 + k) 0) _ = _
        rw [Nat.zero_add, blt_lt hk, selC_true]; rfl)
      (fun q hq => by
        have hq : q < 2 := hq
        show selC (Nat.blt (0 + (X.length + q)) X.length) (rowF eB X (0 + (X.length + q)) 0) _ = _
        rw [Nat.zero_add, blt_noD (by omega), selC_false, Nat.add_sub_cancel_left]
        (iterate 2 (rcases q with _ | q; · exact rfl)); exact absurd hq (by omega))) rfl
    have q : s = s0 ++ beB (IntKind.u64.wrap m.z.bver) 4 := rb_app hs (toL_b0 _) rfl
    have hB : m.z.hasB = true := hc
    have es : X ++ borO m.z = s ++ ipL m.z.brt := by
      unfold borO boB
      rw [q, q0, be2 hm.z.blife, be4 hm.z.bver, if_pos hB]
      simp only [List.append_assoc]
    have en : s.length + 16 = (X ++ borO m.z).length := by rw [es, List.length_append, ipL_len]
    refine ⟨⟨some 71, leF_c (leC_os rfl en), leN_is en ?_⟩⟩
    dsimp only
    rw [es]
    exact isRow_appD (C := fun k j => msgC m.a (slP m.p) (slC m.c) m.z (0 + 29 + 2 + 0 * 1 + (k * 1 + j))) rfl (isRow_row s) (isRow_ip fun k hk => by
      show msgC m.a (slP m.p) (slC m.c) m.z (0 + 29 + 2 + 0 * 1 + (k * 1 + 0)) = _
      rw [msgC_z (by omega), show 0 + 29 + 2 + 0 * 1 + (k * 1 + 0) - 29 = 2 + k by omega]
      exact eMZ_brt_at _ k hk)
  · have e : borO m.z = [] := by
      unfold borO
      rw [if_neg (by simp_all)]
    rw [e, List.append_nil]
    exact ⟨⟨some 50, leF_c (leC_os rfl rfl), leN_ents⟩⟩
abbrev roptE : Entry := newE mA (fun a => MsgR a.1 ∧ ValM a.1) (fun a => optB a.1) (fun L => some L.length) (fun _ => none) (fun L => entB L)
theorem roptE_ok : EntOk Try.prog 35 roptE := newE_ok ⟨_, Try.func35, rfl, by kernel_rfl⟩ (fun s l h => by cases h) fun a h => ropt_ok a.1 h.1 h.2
end Go.Proofs.Ythbhidfohdipnaa.AX

/- The reference of layer 20: Encode (by AX2). -/
namespace Go.Proofs.Ythbhidfohdipnaa.AX
open Go.RowKit
set_option linter.unusedVariables false
set_option linter.unusedSimpArgs false
def LDx : CsL := (14, some rvalE2) :: (34, some rbodyE) :: (35, some roptE) :: LDs
theorem LDx_ok : AllOk Try.prog LDx := ⟨pureE_ok ⟨_, Try.func14, rfl, by kernel_rfl⟩ fun a h => rvalid_ok2 a.1 h.1 h.2.1 h.2.2, rbodyE_ok, roptE_ok, LDs_ok⟩
theorem shr8x {x : Int} (h : 0 ≤ x ∧ x < 65536) : IntKind.u8.wrap (shrI .u16 x 8) = x / 256 ^ 1 % 256 := by
  have e : shrI .u16 x 8 = x / 256 := by
    show x.fdiv (2 ^ 8) = _
    rw [Int.fdiv_eq_ediv_of_nonneg _ (by decide)]; rfl
  rw [e, IntWalk.u8_in _ (by omega)]
  omega
theorem isRow_setX {G : Nat → Nat → CV} {L : List Int} {i : Nat} {x : Int} {g : Nat → CV} (h : IsRow G L) (hg : g 0 = .int .u8 x) : IsRow (updE false G i g) (L.set i x) := ⟨fun k hk => by
  rw [List.length_set] at hk
  show selC (Nat.beq k i) (g 0) (G k 0) = _
  rw [hg, List.getD_eq_getElem?_getD, List.getElem?_set]
  by_cases he : i = k
  · subst he
    rw [if_pos rfl, if_pos hk, show Nat.beq i i = true from Nat.beq_refl i, selC_true]; rfl
  · have hb : Nat.beq k i = false := by
      cases hb : Nat.beq k i with
      | false => rfl
      | true => exact absurd (Nat.eq_of_beq_eq_true hb).symm he
    rw [if_neg he, hb, selC_false, h.at_ k hk, List.getD_eq_getElem?_getD]⟩
theorem encX_set (m : Msg) {v : Int} (h : 0 ≤ v ∧ v < 65536) : ((encX m 0).set 2 (IntKind.u8.wrap (shrI .u16 v 8))).set 3 (IntKind.u8.wrap v) = encX m v := by
  rw [shr8x h, show IntKind.u8.wrap v = v / 256 ^ 0 % 256 by rw [IntKind.wrap_u8]; omega]
  rfl
/-- The row of an encoding without its checksum. -/
def HX (t : Int) : Nat → Nat → CV := fun k j => selC (Nat.beq k 3) (.int .u8 0) (selC (Nat.beq k 2) (.int .u8 0) (selC (Nat.beq k 1) (.int .u8 0) (selC (Nat.beq k 0) (.int .u8 t) (nth [CV.int .u8 0] j))))
def RX (m : Msg) : Nat → Nat → CV := fun k j => selC (Nat.blt k (4 + (bodyB m.a).length)) (selC (Nat.blt k 4) (HX m.a.ty k j) (rowF eB (bodyB m.a) (0 + (k - 4)) j)) (rowF eB (optB m) (0 + (k - (4 + (bodyB m.a).length))) j)
theorem isRow_HX (t : Int) : IsRow (HX t) [t, 0, 0, 0] := ⟨fun k hk => by
  have hk : k < 4 := hk
  rcases k with _ | _ | _ | _ | k
  · rfl
  · rfl
  · rfl
  · rfl
  · exact absurd hk (by omega)⟩
theorem isRow_RX (m : Msg) : IsRow (RX m) (encX m 0) := by
  rw [encX_0]
  unfold headB
  exact isRow_appD (A := fun k j => selC (Nat.blt k 4) (HX m.a.ty k j) (rowF eB (bodyB m.a) (0 + (k - 4)) j)) (C := fun k j => rowF eB (optB m) (0 + k) j) (by rw [List.length_append]; rfl) (isRow_appD (C := fun k j => rowF eB (bodyB m.a) (0 + k) j) rfl (isRow_HX _) (isRow_0 (isRow_row _))) (isRow_0 (isRow_row _))
theorem enc_lenX (m : Msg) : 4 + (bodyB m.a).length + (optB m).length = (encX m 0).length := by
  rw [encX_0]
  unfold headB
  rw [List.length_append, List.length_append]; rfl
theorem toL_RX (m : Msg) : toL eB (4 + (bodyB m.a).length + (optB m).length) (fun k j => RX m (0 + k) j) = encX m 0 := toL_is (enc_lenX m) (isRow_0 (isRow_RX m))
theorem x_at {α : Type} {s : α} {f : Msg → α} {M m : Msg} (hs : s = f M) (h : M = m) : s = f m := by rw [hs, h]
set_option maxRecDepth 20000 in
set_option maxHeartbeats 8000000 in
theorem rencode_ok (m : Msg) (src dst : Fin 16 → Int) (h : EncP m src dst) : NewOk Try.prog 12 [cMsg.enc m, (cE (eA .u8 16)).enc src, (cE (eA .u8 16)).enc dst] (some ((encDM m src dst).getD []).length) (some [erV (ecE (encDM m src dst))]) (entB ((encDM m src dst).getD [])) := by
  obtain ⟨hm, hs0, hd0, hp, hn⟩ := h
  have g1 : True := trivial
  have g2 : True := trivial
  have g3 : True := trivial
  have g4 : True := trivial
  refine new_intro (wd := 1) (Q := mkQ LDx) (by decide) tysOk (q_of LDx_ok) mixed Try.func12 rfl _ (by show 3 ≤ _; decide) (fun i _ j _ => row_nf eB _ i j) ?_
  repeat' (first | (apply And.intro <;> intro hc <;> (first | exact Bool.noConfusion hc | (exfalso; first | exact absurd hc (by decide)) | (simp only [decide_eq_true_eq, decide_eq_false_iff_not, Bool.not_eq_true', Bool.not_eq_false', beq_iff_eq, beq_eq_false_iff_ne, bne_iff_ne, bne_eq_false_iff_eq, Bool.true_eq_false, Bool.false_eq_true, ne_eq, not_true_eq_false] at hc <;> first | exact absurd rfl hc | (exfalso; first | exact absurd hc (by decide)) | skip) | skip)) | (refine And.intro (by first | exact trivial | decide | omega | (dsimp only; omega) | exact fun _ _ => rfl | exact ⟨by assumption, by first | exact trivial | decide | omega | (dsimp only; omega)⟩) ?_) | (apply And.intro) | (intro s hs; (first | (clear g1; have q : s = validM m := x_at (f := validM) hs msg_rd; clear hs; subst q) | (clear g2; have q : s = bodyB m.a := x_at (f := fun m => bodyB m.a) hs msg_rd; clear hs; subst q) | (clear g3; have q : s = optB m := x_at (f := optB) hs msg_rd; clear hs; subst q) | skip)) | (refine Exists.intro _ (And.intro ⟨rfl, rfl, rfl⟩ ?_)))
  · exact fun _ => rfl
  · exact fun _ => rfl
  · exact Eq.mp (congrArg MsgR msg_rd.symm) hm
  · exact Nat.le_trans (Nat.le_of_eq (toL_len _ _ _)) hp
  · exact Nat.le_trans (Nat.le_of_eq (toL_len _ _ _)) hn
  · have e : encDM m src dst = none := if_neg (by simp_all)
    rw [e]
    exact ⟨⟨none, leF_tup ⟨leC_nils_os rfl, leC_int rfl, trivial⟩, rfl, rfl, eB_sz⟩⟩
  all_goals
    have hv : ValM m := valM_iff.1 (by assumption)
  · exact fun _ => rfl
  · exact fun _ => rfl
  · exact Eq.mp (congrArg (fun z : Msg => MAr z.a) msg_rd.symm) hm.a
  · exact Eq.mp (congrArg (fun z : Msg => tyOk z.a.ty) msg_rd.symm) hv.ty
  all_goals
    have hel := enc_lenX m
    have hle := encX_le hv 0
  · omega
  · omega
  · exact fun _ => rfl
  · exact fun _ => rfl
  · exact Eq.mp (congrArg MsgR msg_rd.symm) hm
  · exact Eq.mp (congrArg ValM msg_rd.symm) hv
  · omega
  · omega
  · refine eB_ofK ?_
    repeat' (first | exact rfl | refine isK_selC ?_ ?_)
  · exact Eq.mp (congrArg BL (toL_RX m).symm) (encX_BL hm hv 0)
  · exact Eq.mp (congrArg byteOk (rd_ip src).symm) hs0
  · exact Eq.mp (congrArg byteOk (rd_ip dst).symm) hd0
  · exact Nat.le_trans (Nat.le_of_eq (toL_len _ _ _)) (by omega)
  · have q := e_sum hs (toL_RX m) (rd_ip src) (rd_ip dst)
    clear hs
    have hS : 0 ≤ s ∧ s < 65536 := q ▸ sumD_r (encX m 0) src dst
    have e : encDM m src dst = some (encX m s) := (if_pos (by assumption)).trans (by rw [q])
    rw [e]
    clear q e
    have hl : 4 + (bodyB m.a).length + (optB m).length = (encX m s).length := by rw [encX_len, ← encX_len m 0, hel]
    refine ⟨⟨some 16, leF_tup ⟨leC_os rfl hl, leC_int rfl, trivial⟩, leN_is hl ?_⟩⟩
    dsimp only [Option.getD_some]
    rw [← encX_set m (v := s) hS]
    exact isRow_setX (isRow_setX (isRow_RX m) rfl) rfl
abbrev rencE : Entry := newE mA3 (fun a => EncP a.1 a.2.1 a.2.2.1) (fun a => encDM a.1 a.2.1 a.2.2.1) (fun s => some (s.getD []).length) (fun s => some [erV (ecE s)]) (fun s => entB (s.getD []))
theorem rencE_ok : EntOk Try.prog 12 rencE := newE_ok ⟨_, Try.func12, rfl, by kernel_rfl⟩ (fun s l h x hx => by cases h; rcases List.mem_singleton.1 hx with rfl; exact nfE_c nf_int) fun a h => rencode_ok a.1 a.2.1 a.2.2.1 h
end Go.Proofs.Ythbhidfohdipnaa.AX

/- The reference of layer 20: head (by AX2). -/
namespace Go.Proofs.Ythbhidfohdipnaa.AX
open Go.RowKit
set_option linter.unusedVariables false
set_option linter.unusedSimpArgs false
def hdR (r : Msg × Int) : FV := .tup [.agg 48 (msgC r.1.a .nils .nils r.1.z), .c (.int .i64 r.2)]
theorem leF_hd {c : Wc} {g : Nat → CV} {m : Msg} {e : Int} {n : Nat} (hn : n = 48) (hg : ∀ j, j < 48 → LeC c (g j) (msgC m.a .nils .nils m.z j)) : LeF c (.tup [.agg n g, .c (.int .i64 e)]) (hdR (m, e)) := by
  subst hn
  exact leF_tup ⟨leE_agg rfl hg, leC_int rfl, trivial⟩
set_option maxHeartbeats 8000000 in
set_option maxRecDepth 20000 in
theorem rhead_ok (b : List Int) (hb : BL b) (h8 : 8 ≤ b.length) (hl : b.length ≤ 1099511627776) : PureOk Try.prog 68 [(cSl eB eB_sz).enc b] (hdR (headF b, (headN (byt b 0) : Int))) := by
  obtain ⟨W, eW⟩ : ∃ W, headF b = W := ⟨_, rfl⟩
  obtain ⟨N, eN⟩ : ∃ N : Nat, headN (byt b 0) = N := ⟨_, rfl⟩
  rw [eW, eN]
  have hZ : (0 : Int) < (b.length : Int) := by omega
  have h4 : (4 : Int) < (b.length : Int) := by omega
  have h5 : (5 : Int) < (b.length : Int) := by omega
  refine pure_intro (wd := 1) (Q := mkQ LDr1) (by decide) tysOk (q_of LDr1_ok) mixed Try.func68 rfl _ (by show 1 ≤ _; decide) _ ?_
  repeat' (first | (apply And.intro <;> intro hc <;> (first | exact Bool.noConfusion hc | (exfalso; first | exact absurd rfl hc) | (simp only [decide_eq_true_eq, decide_eq_false_iff_not, Bool.not_eq_true', Bool.not_eq_false', beq_iff_eq, beq_eq_false_iff_ne, bne_iff_ne, bne_eq_false_iff_eq, Bool.true_eq_false, Bool.false_eq_true, ne_eq, not_true_eq_false] at hc <;> first | exact absurd rfl hc | (exfalso; first | exact absurd rfl hc) | skip) | skip)) | (refine And.intro (by first | exact trivial | decide | omega | (dsimp only; omega) | exact fun _ _ => rfl | exact ⟨by assumption, by first | exact trivial | decide | omega | (dsimp only; omega)⟩) ?_) | (apply And.intro) | (intro s hs; skip))
  · exact Eq.mp (congrArg BL (toL_b b).symm) hb
  · exact Nat.le_trans (Nat.le_of_eq (toL_len _ _ _)) (by omega)
  · have h134 : byt b 0 = 134 := hc
    have e1 : IntKind.u16.wrap s = nmL b 6 2 := w16_at hb (a := 6) (pn_at hs (toL_b b))
    have hW : W = { noM with a := { noA with ty := byt b 0, hops := byt b 4, life := nmL b 6 2 } } := by
      rw [← eW]; unfold headF
      rw [if_neg (fun h => by unfold isDup at h; omega), if_pos h134]
    have hN : N = 16 := by rw [← eN]; unfold headN; rw [if_neg (fun h => by unfold isDup at h; omega), if_pos h134]
    subst hW hN
    refine Done.mk (leF_hd rfl fun j hj => ?_)
    iterate 48 (rcases j with _ | j; · first | exact leC_int rfl | exact leC_bool rfl | exact leC_nils | exact leC_int e1)
    exact absurd hj (by omega)
  · exact Eq.mp (congrArg BL (toL_b b).symm) hb
  · exact Nat.le_trans (Nat.le_of_eq (toL_len _ _ _)) (by omega)
  · exact (by decide : (8 : Int) ≤ 140737488355328)
  · rename_i h134 v hv
    have h134 : ¬ byt b 0 = 134 := h134
    have hn : isNb (byt b 0) := of_decide_eq_true ((show v = decide (isNb (byt b 0)) from hv).symm.trans (by assumption))
    have q : s = ipF b 8 := pi_at hs (toL_b b)
    have hW : W = { noM with a := { noA with ty := byt b 0, tgt := s } } := by
      rw [← eW, q]; unfold headF
      rw [if_neg (not_dup_nb hn), if_neg h134, if_pos hn]
    have hN : N = 24 := by rw [← eN]; unfold headN; rw [if_neg (not_dup_nb hn), if_neg h134, if_pos hn]
    subst hW hN
    clear hs q
    refine Done.mk (leF_hd rfl fun j hj => ?_)
    iterate 48 (rcases j with _ | j; · first | exact leC_int rfl | exact leC_bool rfl | exact leC_nils)
    exact absurd hj (by omega)
  · exact Eq.mp (congrArg BL (toL_b b).symm) hb
  · exact Nat.le_trans (Nat.le_of_eq (toL_len _ _ _)) (by omega)
  · exact Eq.mp (congrArg BL (toL_b b).symm) hb
  · exact Nat.le_trans (Nat.le_of_eq (toL_len _ _ _)) (by omega)
  · exact Eq.mp (congrArg BL (toL_b b).symm) hb
  · exact Nat.le_trans (Nat.le_of_eq (toL_len _ _ _)) (by omega)
  · exact (by decide : (16 : Int) ≤ 140737488355328)
  · rename_i h134 v hv hcv w hw u hu y hy
    have h134 : ¬ byt b 0 = 134 := h134
    have hd : isDup (byt b 0) := of_decide_eq_true ((show w = decide (isDup (byt b 0)) from hw).symm.trans (by assumption))
    have e1 : IntKind.u16.wrap u = nmL b 6 2 := w16_at hb (a := 6) (pn_at hu (toL_b b))
    have e2 : y = nmL b 8 8 := pn_at hy (toL_b b)
    have e3 : IntKind.u64.wrap y = nmL b 8 8 := w64_at hb (a := 8) (pn_at hy (toL_b b))
    have q : s = ipF b 16 := pi_at hs (toL_b b)
    have hW : W = { noM with a := { noA with ty := byt b 0, hasO := true, ostat := byt b 4, oseq := byt b 5, olife := nmL b 6 2, oeui := nmL b 8 8, tgt := s } } := by
      rw [← eW, q]; exact if_pos hd
    have hN : N = 32 := by rw [← eN]; exact if_pos hd
    subst hW hN
    clear hs q
    refine Done.mk (leF_hd rfl fun j hj => ?_)
    iterate 48 (rcases j with _ | j; · first | exact leC_int rfl | exact leC_bool rfl | exact leC_nils | exact leC_int e1 | exact leC_int e2 | exact leC_int e3)
    exact absurd hj (by omega)
  · rename_i h134 v hv hcv
    have h134 : ¬ byt b 0 = 134 := h134
    have hn : ¬ isNb (byt b 0) := of_decide_eq_false ((show v = decide (isNb (byt b 0)) from hv).symm.trans (by assumption))
    have hd : ¬ isDup (byt b 0) := of_decide_eq_false ((show s = decide (isDup (byt b 0)) from hs).symm.trans (by assumption))
    have hW : W = { noM with a := { noA with ty := byt b 0 } } := by
      rw [← eW]; unfold headF
      rw [if_neg hd, if_neg h134, if_neg hn]
    have hN : N = 8 := by rw [← eN]; unfold headN; rw [if_neg hd, if_neg h134, if_neg hn]
    subst hW hN
    refine Done.mk (leF_hd rfl fun j hj => ?_)
    iterate 48 (rcases j with _ | j; · first | exact leC_int rfl | exact leC_bool rfl | exact leC_nils)
    exact absurd hj (by omega)
abbrev rheadE : Entry := pureE (AC.cons (cSl eB eB_sz) AC.nil) (fun a => BL a.1 ∧ 8 ≤ a.1.length ∧ a.1.length ≤ 1099511627776) (fun a => (headF a.1, (headN (byt a.1 0) : Int))) hdR
theorem rheadE_ok : EntOk Try.prog 68 rheadE := pureE_ok ⟨_, Try.func68, rfl, by kernel_rfl⟩ fun a h => rhead_ok a.1 h.1 h.2.1 h.2.2
end Go.Proofs.Ythbhidfohdipnaa.AX

/- The reference of layer 20: one round of the loop of Decode (by AX2). -/
namespace Go.Proofs.Ythbhidfohdipnaa.AX
open Go.RowKit
set_option linter.unusedVariables false
set_option linter.unusedSimpArgs false
def LDy : CsL := (69, some (inD 1 LDr1 Try.f69)) :: (12, some rencE) :: (68, some rheadE) :: (15, some sameE) :: (18, some dsumE) :: LDr1
theorem LDy_ok : AllOk Try.prog LDy := ⟨inlE_ok (by decide) tysOk (q_of LDr1_ok) (mono_of LDr1_ok) mixed Try.func69 rfl rfl, rencE_ok, rheadE_ok, sameE_ok, (LDs_ok).2.1, LDr1_ok⟩
/-- The state at the head of the loop. -/
structure RdS (b : List Int) (M : Msg) where
  at_ : Nat
  m : Msg
  hM : refL b at_ m = M
  hm : MsgR m
  ha : at_ ≤ b.length + 32
  hn : (b.length - at_) + (m.p.length + m.c.length) ≤ 1099511627776
def HRx (b : List Int) (src dst : Fin 16 → Int) (at_ : Nat) (m : Msg) : Hd :=
  ⟨[(0, one (slY b)), (4, one (.ptr 0 0 0 false)), (5, one (.ptr 1 0 0 false)), (6, one (.ptr 2 0 0 false)), (8, one (.ptr 3 0 0 false)), (9, one (.int .i64 (at_ : Int)))],
   [(0, some (ipE src)), (1, some (ipE dst)), (2, some zEnt), (3, some ⟨38, 1, 48, true, fun _ => msgC m.a (.os 9001 0 m.p.length) (.os 9002 0 m.c.length) m.z⟩), (9001, some (enP m.p)), (9002, some (enC m.c))], 9003⟩
def HR (b : List Int) (src dst : Fin 16 → Int) {M : Msg} (s : RdS b M) : Hd := HRx b src dst s.at_ s.m
/-- The state behind the loop. -/
structure RdE (b : List Int) (M : Msg) : Prop where
  hm : MsgR M
  hn : M.p.length + M.c.length ≤ 1099511627776
def HE (b : List Int) (src dst : Fin 16 → Int) (M : Msg) (s : {_u : Unit // RdE b M}) : Hd :=
  ⟨[(0, one (slY b)), (4, one (.ptr 0 0 0 false)), (5, one (.ptr 1 0 0 false)), (6, one (.ptr 2 0 0 false)), (8, one (.ptr 3 0 0 false))],
   [(0, some (ipE src)), (1, some (ipE dst)), (2, some zEnt), (3, some ⟨38, 1, 48, true, fun _ => msgC M.a (.os 4 0 M.p.length) (.os 5 0 M.c.length) M.z⟩), (4, some (enP M.p)), (5, some (enC M.c))], 6⟩
/-! ### Parts of a row -/
theorem toL_seg (b : List Int) (a n : Nat) (h : a + n ≤ b.length) : (toL eB n fun i => rowF eB b (a + i)) = (b.drop a).take n := by
  refine toL_is (by rw [List.length_take, List.length_drop]; omega) ⟨fun k hk => ?_⟩
  rw [List.length_take, List.length_drop] at hk
  show CV.int .u8 (b.getD (a + k) default) = _
  rw [getD_dt b a n k (by omega) h]
theorem byt_seg (b : List Int) {a n : Nat} (i : Nat) (h : a + n ≤ b.length) (hi : i < n) : byt ((b.drop a).take n) i = b.getD (a + i) default := getD_dt b a n i hi h
theorem optF_short {m : Msg} {o : List Int} (h0 : byt o 0 = 1) (h1 : o.length = 8) : optF m o = { m with a := { m.a with mode := 2, short := nmL o 2 2, eui := 0 } } := by
  unfold optF; rw [if_pos ⟨h0, h1⟩]
theorem optF_long {m : Msg} {o : List Int} (h0 : byt o 0 = 1) (h1 : ¬ o.length = 8) : optF m o = { m with a := { m.a with mode := 3, short := 0, eui := nmL o 2 8 } } := by
  unfold optF; rw [if_neg (fun h => h1 h.2), if_pos h0]
theorem optF_own {m : Msg} {o : List Int} (h0 : byt o 0 = 33) : optF m o = { m with a := { m.a with hasO := true, ostat := byt o 2, oseq := byt o 5, olife := nmL o 6 2, oeui := nmL o 8 8 } } := by
  unfold optF; rw [h0, if_neg (fun h => absurd h.1 (by decide)), if_neg (by decide), if_pos rfl]
theorem optF_pre {m : Msg} {o : List Int} (h0 : byt o 0 = 3) : optF m o = { m with p := m.p ++ [rdP o] } := by
  unfold optF; rw [h0, if_neg (fun h => absurd h.1 (by decide)), if_neg (by decide), if_neg (by decide), if_pos rfl]
theorem optF_ctx {m : Msg} {o : List Int} (h0 : byt o 0 = 34) : optF m o = { m with c := m.c ++ [rdC o] } := by
  unfold optF; rw [h0, if_neg (fun h => absurd h.1 (by decide)), if_neg (by decide), if_neg (by decide), if_neg (by decide), if_pos rfl]
theorem optF_bor {m : Msg} {o : List Int} (h0 : byt o 0 = 35) : optF m o = { m with z := ⟨nmL o 4 4, nmL o 2 2, ipF o 8, true⟩ } := by
  unfold optF; rw [h0, if_neg (fun h => absurd h.1 (by decide)), if_neg (by decide), if_neg (by decide), if_neg (by decide), if_neg (by decide), if_pos rfl]
theorem optF_unk {m : Msg} {o : List Int} (h1 : ¬ byt o 0 = 1) (h2 : ¬ byt o 0 = 33) (h3 : ¬ byt o 0 = 3) (h4 : ¬ byt o 0 = 34) (h5 : ¬ byt o 0 = 35) : optF m o = m := by
  unfold optF; rw [if_neg (fun h => h1 h.1), if_neg h1, if_neg h2, if_neg h3, if_neg h4, if_neg h5]
theorem optF_n (m : Msg) (o : List Int) : (optF m o).p.length + (optF m o).c.length ≤ m.p.length + m.c.length + 1 := by
  unfold optF
  repeat' (first | split | omega | (dsimp only; omega) | (dsimp only; rw [List.length_append]; simp only [List.length_cons, List.length_nil]; omega))
theorem refL_go {b : List Int} {at_ k : Nat} {m M : Msg} (hM : refL b at_ m = M) (hk : b.getD (at_ + 1) default = (k : Int)) (h1 : at_ + 1 < b.length) (h2 : 0 < k) (h3 : at_ + 8 * k ≤ b.length) : refL b (at_ + 8 * k) (optF m ((b.drop at_).take (8 * k))) = M := by
  rw [← hM]
  conv => rhs; rw [refL]
  have e : byt b (at_ + 1) = k := hk
  rw [e, Int.toNat_natCast, dif_pos ⟨h1, by omega, h3⟩]
theorem refL_no {b : List Int} {at_ k : Nat} {m M : Msg} (hM : refL b at_ m = M) (hk : b.getD (at_ + 1) default = (k : Int)) (h : ¬ (at_ + 1 < b.length ∧ 0 < k ∧ at_ + 8 * k ≤ b.length)) : m = M := by
  rw [← hM, refL]
  have e : byt b (at_ + 1) = k := hk
  rw [e, Int.toNat_natCast, dif_neg (fun x => h ⟨x.1, by omega, x.2.2⟩)]
theorem leN_m48 {c : Wc} {t : TypeId} {g : Nat → Nat → CV} {h : Nat → CV} {n : Nat} (hn : n = 1) (hj : ∀ j, j < 48 → LeC c (g 0 j) (h j)) : LeN c ⟨t, n, 48, true, g⟩ ⟨t, 1, 48, true, fun _ => h⟩ := by
  subst hn; exact leN_varA hj
set_option maxHeartbeats 8000000 in
set_option maxRecDepth 20000 in
theorem rd_go (b : List Int) (src dst : Fin 16 → Int) (hb : BL b) (hl : b.length ≤ 1099511627776) {M : Msg} {K : Kt} (at_ k : Nat) (m : Msg) (hM : refL b at_ m = M) (hm : MsgR m) (ha : at_ ≤ b.length + 32) (hn : (b.length - at_) + (m.p.length + m.c.length) ≤ 1099511627776)
    (hk : b.getD (at_ + 1) default = (k : Int)) (hk256 : k < 256) (hg1 : at_ + 1 < b.length) (hg2 : 0 < k) (hg3 : at_ + 8 * k ≤ b.length) :
    exec T (mkQ LDy) 1024 Try.f46.ntmps 0 (loopIn (Try.f46.body.getD Code.ret)) (HRx b src dst at_ m).fr (HRx b src dst at_ m).H (HRx b src dst at_ m).nx (seqK (fun fr H' _ => Goes (HR b src dst (M := M)) (fun s => b.length - s.at_) 0 (b.length - at_) fr H') K) := by
  have w1 : IntKind.i64.wrap ((at_ : Int) + 1) = ((at_ + 1 : Nat) : Int) := (IntWalk.i64_in _ (by omega)).trans (by omega)
  have w2 : IntKind.i64.wrap (k : Int) = ((k : Nat) : Int) := (IntWalk.i64_in _ (by omega)).trans (by omega)
  have w3 : IntKind.i64.wrap (8 * (k : Int)) = ((8 * k : Nat) : Int) := (IntWalk.i64_in _ (by omega)).trans (by omega)
  have w4 : IntKind.i64.wrap ((at_ : Int) + ((8 * k : Nat) : Int)) = ((at_ + 8 * k : Nat) : Int) := (IntWalk.i64_in _ (by omega)).trans (by omega)
  have w5 : at_ + 8 * k - at_ = 8 * k := by omega
  have w6 : IntKind.i64.wrap ((at_ : Int) + IntKind.i64.wrap (8 * IntKind.i64.wrap (k : Int))) = ((at_ + 8 * k : Nat) : Int) := by rw [w2, w3, w4]
  have hT := toL_seg b at_ (8 * k) hg3
  have hB := fun i (h : i < 8) => byt_seg b (a := at_) (n := 8 * k) i hg3 (by omega)
  have hgo := refL_go hM hk hg1 hg2 hg3
  have hbo : BL ((b.drop at_).take (8 * k)) := (hb.drop _).take _
  have hol : ((b.drop at_).take (8 * k)).length = 8 * k := by rw [List.length_take, List.length_drop]; omega
  have hmr := optF_r hm hbo
  have hon := optF_n m ((b.drop at_).take (8 * k))
  obtain ⟨o, eo⟩ : ∃ o, (b.drop at_).take (8 * k) = o := ⟨_, rfl⟩
  rw [eo] at hT hB hgo hbo hol hmr hon
  clear eo hM
  have hA : at_ + 8 * k ≤ b.length + 32 := by omega
  have hnn : (b.length - (at_ + 8 * k)) + ((optF m o).p.length + (optF m o).c.length) ≤ 1099511627776 := by omega
  unfold HRx
  dsimp only
  have pB : BL (toL eB (8 * k) fun i => rowF eB b (at_ + i)) := by rw [hT]; exact hbo
  have pL : (toL eB (8 * k) fun i => rowF eB b (at_ + i)).length ≤ 140737488355328 := by rw [hT, hol]; omega
  repeat' (first | (simp only [w1, Int.toNat_natCast, hk, w2, w3, w4, w5]) | (apply And.intro <;> intro hc <;> (first | exact Bool.noConfusion hc | (exfalso; first | exact absurd rfl hc | omega) | (simp only [decide_eq_true_eq, decide_eq_false_iff_not, Bool.not_eq_true', Bool.not_eq_false', beq_iff_eq, beq_eq_false_iff_ne, bne_iff_ne, bne_eq_false_iff_eq, Bool.true_eq_false, Bool.false_eq_true, ne_eq, not_true_eq_false] at hc <;> first | exact absurd rfl hc | (exfalso; first | exact absurd rfl hc | omega) | skip) | skip)) | (refine And.intro (by first | exact trivial | decide | omega | (dsimp only; omega) | exact fun _ _ => rfl | exact ⟨by assumption, by first | exact trivial | decide | omega | (dsimp only; omega)⟩) ?_) | (apply And.intro) | (intro s hs; skip))
  all_goals first | exact pB | exact pL | exact Int.ofNat_le.2 hg3 | exact rfl | exact (by decide : (16 : Int) ≤ 140737488355328) | exact (by decide : (8 : Int) ≤ 140737488355328) | skip
  · have h1 : IntKind.u16.wrap s = nmL o 2 2 := w16_at hbo (a := 2) (pn_at hs hT)
    rw [optF_short ((hB 0 (by omega)).trans (by assumption)) (by rw [hol]; omega)] at hgo hmr hnn
    refine ⟨⟨at_ + 8 * k, _, hgo, hmr, hA, hnn⟩, [], ?_, rfl, ?_, ?_⟩
    · dsimp only; omega
    · repeat' (first | exact trivial | exact rfl | exact leF_ptr rfl | exact leF_int rfl | exact leF_bool rfl | exact leF_cl (cl_slB _ _) | exact leF_cl (cl_slR _ _) | exact leF_cl (cl_ll _ _) | exact leF_c (leC_os rfl rfl) | refine leF_int ?_ | refine leF_bool ?_ | exact leN_varA (fun _ _ => (Elem.flat _ _ _).le) | exact leN_varA (fun _ _ => leC_top) | apply And.intro)
      exact w4
    · refine ⟨⟨rfl, leN_varA fun _ _ => (Elem.flat _ _ _).le⟩, ⟨rfl, leN_varA fun _ _ => (Elem.flat _ _ _).le⟩, ⟨rfl, leN_zE⟩, ⟨rfl, leN_m48 rfl fun j hj => ?_⟩, ⟨rfl, leN_ents⟩, ⟨rfl, leN_ents⟩, trivial⟩
      · iterate 48 (rcases j with _ | j; · first | exact leC_int rfl | exact leC_bool rfl | exact leC_os rfl rfl | exact leC_int h1)
        exact absurd hj (by omega)
  · have h1 : s = nmL o 2 8 := pn_at hs hT
    rw [optF_long ((hB 0 (by omega)).trans (by assumption)) (by rw [hol]; omega)] at hgo hmr hnn
    refine ⟨⟨at_ + 8 * k, _, hgo, hmr, hA, hnn⟩, [], ?_, rfl, ?_, ?_⟩
    · dsimp only; omega
    · repeat' (first | exact trivial | exact rfl | exact leF_ptr rfl | exact leF_int rfl | exact leF_bool rfl | exact leF_cl (cl_slB _ _) | exact leF_cl (cl_slR _ _) | exact leF_cl (cl_ll _ _) | exact leF_c (leC_os rfl rfl) | refine leF_int ?_ | refine leF_bool ?_ | exact leN_varA (fun _ _ => (Elem.flat _ _ _).le) | exact leN_varA (fun _ _ => leC_top) | apply And.intro)
      exact w4
    · refine ⟨⟨rfl, leN_varA fun _ _ => (Elem.flat _ _ _).le⟩, ⟨rfl, leN_varA fun _ _ => (Elem.flat _ _ _).le⟩, ⟨rfl, leN_zE⟩, ⟨rfl, leN_m48 rfl fun j hj => ?_⟩, ⟨rfl, leN_ents⟩, ⟨rfl, leN_ents⟩, trivial⟩
      · iterate 48 (rcases j with _ | j; · first | exact leC_int rfl | exact leC_bool rfl | exact leC_os rfl rfl | exact leC_int h1)
        exact absurd hj (by omega)
  · rename_i u hu
    have h1 : IntKind.u16.wrap u = nmL o 6 2 := w16_at hbo (a := 6) (pn_at hu hT)
    have h2 : s = nmL o 8 8 := pn_at hs hT
    have b2 := hB 2 (by omega)
    have b5 := hB 5 (by omega)
    rw [optF_own ((hB 0 (by omega)).trans (by assumption))] at hgo hmr hnn
    refine ⟨⟨at_ + 8 * k, _, hgo, hmr, hA, hnn⟩, [], ?_, rfl, ?_, ?_⟩
    · dsimp only; omega
    · repeat' (first | exact trivial | exact rfl | exact leF_ptr rfl | exact leF_int rfl | exact leF_bool rfl | exact leF_cl (cl_slB _ _) | exact leF_cl (cl_slR _ _) | exact leF_cl (cl_ll _ _) | exact leF_c (leC_os rfl rfl) | refine leF_int ?_ | refine leF_bool ?_ | exact leN_varA (fun _ _ => (Elem.flat _ _ _).le) | exact leN_varA (fun _ _ => leC_top) | apply And.intro)
      exact w4
    · refine ⟨⟨rfl, leN_varA fun _ _ => (Elem.flat _ _ _).le⟩, ⟨rfl, leN_varA fun _ _ => (Elem.flat _ _ _).le⟩, ⟨rfl, leN_zE⟩, ⟨rfl, leN_m48 rfl fun j hj => ?_⟩, ⟨rfl, leN_ents⟩, ⟨rfl, leN_ents⟩, trivial⟩
      · iterate 48 (rcases j with _ | j; · first | exact leC_int rfl | exact leC_bool rfl | exact leC_os rfl rfl | exact leC_int h1 | exact leC_int h2 | exact leC_int b2.symm | exact leC_int b5.symm)
        exact absurd hj (by omega)
  · rename_i u hu
    have h1 : IntKind.u32.wrap s = nmL o 4 4 := w32_at hbo (a := 4) (pn_at hs hT)
    have q : u = ipF o 16 := pi_at hu hT
    clear hu
    subst q
    have b2 := hB 2 (by omega)
    have b3 := hB 3 (by omega)
    have r2 : 0 ≤ byt o 2 ∧ byt o 2 < 256 := bt_r hbo 2
    have e2 : IntKind.i64.wrap (b.getD (at_ + 2) default) = byt o 2 := by rw [← b2]; exact IntWalk.i64_in _ (by omega)
    have e3 : (bits .and .u8 (b.getD (at_ + 3) default) 128 != 0) = decide (bits .and .u8 (byt o 3) 128 ≠ 0) := by rw [← b3]; exact bne_dec _
    have e4 : (bits .and .u8 (b.getD (at_ + 3) default) 64 != 0) = decide (bits .and .u8 (byt o 3) 64 ≠ 0) := by rw [← b3]; exact bne_dec _
    rw [optF_pre ((hB 0 (by omega)).trans (by assumption))] at hgo hmr hnn
    refine ⟨⟨at_ + 8 * k, _, hgo, hmr, hA, hnn⟩, [(9001, some 52065)], ?_, rfl, ?_, ?_⟩
    · dsimp only; omega
    · repeat' (first | exact trivial | exact rfl | exact leF_ptr rfl | exact leF_int rfl | exact leF_bool rfl | exact leF_cl (cl_slB _ _) | exact leF_cl (cl_slR _ _) | exact leF_cl (cl_ll _ _) | exact leF_c (leC_os rfl rfl) | refine leF_int ?_ | refine leF_bool ?_ | exact leN_varA (fun _ _ => (Elem.flat _ _ _).le) | exact leN_varA (fun _ _ => leC_top) | apply And.intro)
      exact w4
    · refine ⟨⟨rfl, leN_varA fun _ _ => (Elem.flat _ _ _).le⟩, ⟨rfl, leN_varA fun _ _ => (Elem.flat _ _ _).le⟩, ⟨rfl, leN_zE⟩, ⟨rfl, leN_m48 rfl fun j hj => ?_⟩, ⟨rfl, ?_⟩, ⟨rfl, leN_ents⟩, trivial⟩
      · iterate 48 (rcases j with _ | j; · first | exact leC_int rfl | exact leC_bool rfl | exact leC_os rfl rfl | exact leC_os rfl (by rw [List.length_append]; rfl))
        exact absurd hj (by omega)
      · change LeN _ _ _
        refine leN_snoc (E := ePI) (L := m.p) (x := rdP o) rfl (fun i hi j hj => selC_in (Nat.ble_eq_true_of_le hi) (Elem.flat _ _ _).le) ?_
        repeat' (first | exact trivial | (refine selC_out (blt_self _) ?_; rw [Nat.sub_self]; first | exact leC_int rfl | exact leC_bool rfl | exact leC_int h1 | exact leC_int e2 | exact leC_bool e3 | exact leC_bool e4) | apply And.intro)
  · rename_i u hu
    have h1 : IntKind.u16.wrap s = nmL o 6 2 := w16_at hbo (a := 6) (pn_at hs hT)
    have q : u = ipF o 8 := pi_at hu hT
    clear hu
    subst q
    have b2 := hB 2 (by omega)
    have b3 := hB 3 (by omega)
    have r2 : 0 ≤ byt o 2 ∧ byt o 2 < 256 := bt_r hbo 2
    have r3 : 0 ≤ byt o 3 ∧ byt o 3 < 256 := bt_r hbo 3
    have e2 : IntKind.i64.wrap (b.getD (at_ + 2) default) = byt o 2 := by rw [← b2]; exact IntWalk.i64_in _ (by omega)
    have e3 : (bits .and .u8 (b.getD (at_ + 3) default) 16 != 0) = decide (bits .and .u8 (byt o 3) 16 ≠ 0) := by rw [← b3]; exact bne_dec _
    have e4 : IntKind.i64.wrap ((b.getD (at_ + 3) default).tmod 16) = byt o 3 % 16 := by rw [← b3, Int.tmod_eq_emod_of_nonneg r3.1]; exact IntWalk.i64_in _ (by omega)
    rw [optF_ctx ((hB 0 (by omega)).trans (by assumption))] at hgo hmr hnn
    refine ⟨⟨at_ + 8 * k, _, hgo, hmr, hA, hnn⟩, [(9002, some 52070)], ?_, rfl, ?_, ?_⟩
    · dsimp only; omega
    · repeat' (first | exact trivial | exact rfl | exact leF_ptr rfl | exact leF_int rfl | exact leF_bool rfl | exact leF_cl (cl_slB _ _) | exact leF_cl (cl_slR _ _) | exact leF_cl (cl_ll _ _) | exact leF_c (leC_os rfl rfl) | refine leF_int ?_ | refine leF_bool ?_ | exact leN_varA (fun _ _ => (Elem.flat _ _ _).le) | exact leN_varA (fun _ _ => leC_top) | apply And.intro)
      exact w4
    · refine ⟨⟨rfl, leN_varA fun _ _ => (Elem.flat _ _ _).le⟩, ⟨rfl, leN_varA fun _ _ => (Elem.flat _ _ _).le⟩, ⟨rfl, leN_zE⟩, ⟨rfl, leN_m48 rfl fun j hj => ?_⟩, ⟨rfl, leN_ents⟩, ⟨rfl, ?_⟩, trivial⟩
      · iterate 48 (rcases j with _ | j; · first | exact leC_int rfl | exact leC_bool rfl | exact leC_os rfl rfl | exact leC_os rfl (by rw [List.length_append]; rfl))
        exact absurd hj (by omega)
      · change LeN _ _ _
        refine leN_snoc (E := eCI) (L := m.c) (x := rdC o) rfl (fun i hi j hj => selC_in (Nat.ble_eq_true_of_le hi) (Elem.flat _ _ _).le) ?_
        repeat' (first | exact trivial | (refine selC_out (blt_self _) ?_; rw [Nat.sub_self]; first | exact leC_int rfl | exact leC_bool rfl | exact leC_int h1 | exact leC_int e2 | exact leC_bool e3 | exact leC_int e4) | apply And.intro)
  · rename_i u hu v hv
    have h1 : IntKind.u16.wrap u = nmL o 2 2 := w16_at hbo (a := 2) (pn_at hu hT)
    have h2 : IntKind.u32.wrap v = nmL o 4 4 := w32_at hbo (a := 4) (pn_at hv hT)
    have q : s = ipF o 8 := pi_at hs hT
    clear hs
    subst q
    rw [optF_bor ((hB 0 (by omega)).trans (by assumption))] at hgo hmr hnn
    refine ⟨⟨at_ + 8 * k, _, hgo, hmr, hA, hnn⟩, [], ?_, rfl, ?_, ?_⟩
    · dsimp only; omega
    · repeat' (first | exact trivial | exact rfl | exact leF_ptr rfl | exact leF_int rfl | exact leF_bool rfl | exact leF_cl (cl_slB _ _) | exact leF_cl (cl_slR _ _) | exact leF_cl (cl_ll _ _) | exact leF_c (leC_os rfl rfl) | refine leF_int ?_ | refine leF_bool ?_ | exact leN_varA (fun _ _ => (Elem.flat _ _ _).le) | exact leN_varA (fun _ _ => leC_top) | apply And.intro)
      exact w4
    · refine ⟨⟨rfl, leN_varA fun _ _ => (Elem.flat _ _ _).le⟩, ⟨rfl, leN_varA fun _ _ => (Elem.flat _ _ _).le⟩, ⟨rfl, leN_zE⟩, ⟨rfl, leN_m48 rfl fun j hj => ?_⟩, ⟨rfl, leN_ents⟩, ⟨rfl, leN_ents⟩, trivial⟩
      · iterate 48 (rcases j with _ | j; · first | exact leC_int rfl | exact leC_bool rfl | exact leC_os rfl rfl | exact leC_int h1 | exact leC_int h2)
        exact absurd hj (by omega)
  · have n1 : ¬ byt o 0 = 1 := by rw [hB 0 (by omega)]; assumption
    have n2 : ¬ byt o 0 = 33 := by rw [hB 0 (by omega)]; assumption
    have n3 : ¬ byt o 0 = 3 := by rw [hB 0 (by omega)]; assumption
    have n4 : ¬ byt o 0 = 34 := by rw [hB 0 (by omega)]; assumption
    have n5 : ¬ byt o 0 = 35 := by rw [hB 0 (by omega)]; assumption
    rw [optF_unk n1 n2 n3 n4 n5] at hgo hmr hnn
    refine ⟨⟨at_ + 8 * k, _, hgo, hmr, hA, hnn⟩, [], ?_, rfl, ?_, ?_⟩
    · dsimp only; omega
    · repeat' (first | exact trivial | exact rfl | exact leF_ptr rfl | exact leF_int rfl | exact leF_bool rfl | exact leF_cl (cl_slB _ _) | exact leF_cl (cl_slR _ _) | exact leF_cl (cl_ll _ _) | exact leF_c (leC_os rfl rfl) | refine leF_int ?_ | refine leF_bool ?_ | exact leN_varA (fun _ _ => (Elem.flat _ _ _).le) | exact leN_varA (fun _ _ => leC_top) | apply And.intro)
      exact w4
    · refine ⟨⟨rfl, leN_varA fun _ _ => (Elem.flat _ _ _).le⟩, ⟨rfl, leN_varA fun _ _ => (Elem.flat _ _ _).le⟩, ⟨rfl, leN_zE⟩, ⟨rfl, leN_m48 rfl fun j hj => ?_⟩, ⟨rfl, leN_ents⟩, ⟨rfl, leN_ents⟩, trivial⟩
      · iterate 48 (rcases j with _ | j; · first | exact leC_int rfl | exact leC_bool rfl | exact leC_os rfl rfl)
        exact absurd hj (by omega)
end Go.Proofs.Ythbhidfohdipnaa.AX

/- The reference of layer 20: Decode (by AX2). -/
namespace Go.Proofs.Ythbhidfohdipnaa.AX
open Go.RowKit
set_option linter.unusedVariables false
set_option linter.unusedSimpArgs false
theorem mo_rd {m : Msg} {P C : CV} : (⟨eMA.rd fun q => msgC m.a P C m.z (0 + q), toL ePI m.p.length fun k j => rowF ePI m.p (0 + k) j, toL eCI m.c.length fun k j => rowF eCI m.c (0 + k) j, eMZ.rd fun q => msgC m.a P C m.z (0 + (29 + q))⟩ : Msg) = m := by
  refine msg_is (a := m.a) (p := m.p) (c := m.c) (z := m.z) (fun j hj => ?_) ?_ ?_ (fun j hj => ?_)
  · iterate 27 (rcases j with _ | j; · rfl)
    exact absurd hj (by omega)
  · simp only [Nat.zero_add]; exact toL_P m.p
  · simp only [Nat.zero_add]; exact toL_C m.c
  · iterate 19 (rcases j with _ | j; · rfl)
    exact absurd hj (by omega)
theorem hd_at {s : Msg × Int} {b B : List Int} (hs : s = (headF B, ((headN (byt B 0) : Nat) : Int))) (h : B = b) : s = (headF b, ((headN (byt b 0) : Nat) : Int)) := by rw [hs, h]
set_option maxHeartbeats 8000000 in
set_option maxRecDepth 20000 in
theorem rdec_ok (b : List Int) (src dst : Fin 16 → Int) (hb : BL b) (hs0 : byteOk src) (hd0 : byteOk dst) (hl : b.length ≤ 1099511627776) : PureOk Try.prog 46 [(cSl eB eB_sz).enc b, (cE (eA .u8 16)).enc src, (cE (eA .u8 16)).enc dst] (encMD (decDM b src dst)) := by
  obtain ⟨W, hW⟩ : ∃ W, decDM b src dst = W := ⟨_, rfl⟩
  rw [hW]
  obtain ⟨U, eU⟩ : ∃ U, (uintF b 2 2).1 = U := ⟨_, rfl⟩
  obtain ⟨S, eS⟩ : ∃ S, sumD b src dst = S := ⟨_, rfl⟩
  have e1 : b.length < 8 → W = (noM, 4) := fun h => by rw [← hW]; exact if_pos h
  have hU : nmL b 2 2 = U := eU
  have wU : IntKind.u16.wrap U = U := by
    have := nmL_r hb 2 2
    rw [hU] at this
    exact IntWalk.u16_in _ (by omega)
  have e2 : ¬ b.length < 8 → ¬ IntKind.u16.wrap U = S → W = (noM, 6) := fun h g => by
    rw [← hW]; unfold decDM
    rw [if_neg h, hU, eS, ← wU]; exact if_pos g
  have e3 : ¬ b.length < 8 → IntKind.u16.wrap U = S → W = if encDM (refM b) src dst = some b then (refM b, 0) else (noM, 5) := fun h g => by
    rw [← hW]; unfold decDM
    rw [if_neg h, hU, eS, ← wU, if_neg (fun h => h g)]
  have g1 : True := trivial
  have g2 : True := trivial
  refine pure_introS tysOk Try.func46 rfl _ (by show 3 ≤ _; decide) _ ?_
  refine sem_step (wd := 1) (Q := mkQ LDy) (by decide) tysOk (q_of LDy_ok) mixed ?_
  refine sem_step (wd := 1) (Q := mkQ LDy) (by decide) tysOk (q_of LDy_ok) mixed ?_
  repeat' (first | (apply And.intro <;> intro hc <;> (first | exact Bool.noConfusion hc | (exfalso; first | exact absurd rfl hc) | (simp only [decide_eq_true_eq, decide_eq_false_iff_not, Bool.not_eq_true', Bool.not_eq_false', beq_iff_eq, beq_eq_false_iff_ne, bne_iff_ne, bne_eq_false_iff_eq, Bool.true_eq_false, Bool.false_eq_true, ne_eq, not_true_eq_false] at hc <;> first | exact absurd rfl hc | (exfalso; first | exact absurd rfl hc) | skip) | skip)) | (refine And.intro (by first | exact trivial | decide | omega | (dsimp only; omega) | exact fun _ _ => rfl | exact ⟨by assumption, by first | exact trivial | decide | omega | (dsimp only; omega)⟩) ?_) | (apply And.intro) | (intro s hs; skip))
  · rw [e1 (by omega)]
    exact Done.mk (leF_noM rfl (by intro j hj; (iterate 48 (rcases j with _ | j; exact rfl)); exact absurd hj (by omega)))
  refine sem_step (wd := 1) (Q := mkQ LDy) (by decide) tysOk (q_of LDy_ok) mixed ?_
  repeat' (first | (apply And.intro <;> intro hc <;> (first | exact Bool.noConfusion hc | (exfalso; first | exact absurd rfl hc) | (simp only [decide_eq_true_eq, decide_eq_false_iff_not, Bool.not_eq_true', Bool.not_eq_false', beq_iff_eq, beq_eq_false_iff_ne, bne_iff_ne, bne_eq_false_iff_eq, Bool.true_eq_false, Bool.false_eq_true, ne_eq, not_true_eq_false] at hc <;> first | exact absurd rfl hc | (exfalso; first | exact absurd rfl hc) | skip) | skip)) | (refine And.intro (by first | exact trivial | decide | omega | (dsimp only; omega) | exact fun _ _ => rfl | exact ⟨by assumption, by first | exact trivial | decide | omega | (dsimp only; omega)⟩) ?_) | (apply And.intro) | (intro s hs; (first | (clear g1; have q : U = s := ((pn_at (b := b) hs (toL_b b)).trans eU).symm; clear hs; subst q) | (clear g2; have q : S = s := ((sum_at (b := b) (src := src) (dst := dst) hs (toL_b b) (rd_ip src) (rd_ip dst)).trans eS).symm; clear hs; subst q) | skip)))
  · show BL (toL eB b.length (rowF eB b)); rw [toL_b]; exact hb
  · show (toL eB b.length (rowF eB b)).length ≤ _; rw [toL_len]; omega
  · show BL (toL eB b.length (rowF eB b)); rw [toL_b]; exact hb
  · show byteOk ((eA .u8 16).rd fun q => (eA .u8 16).cell src (0 + q)); rw [rd_ip]; exact hs0
  · show byteOk ((eA .u8 16).rd fun q => (eA .u8 16).cell dst (0 + q)); rw [rd_ip]; exact hd0
  · show (toL eB b.length (rowF eB b)).length ≤ _; rw [toL_len]; omega
  · rw [e2 (by omega) hc]
    exact Done.mk (leF_noM rfl (by intro j hj; (iterate 48 (rcases j with _ | j; exact rfl)); exact absurd hj (by omega)))
  have hW := e3 (by omega) (by assumption)
  obtain ⟨M, eM⟩ : ∃ M, refM b = M := ⟨_, rfl⟩
  rw [eM] at hW
  clear e1 e2 e3
  have hF := headF_p b
  have hFr := headF_r hb
  have hN8 := headN_le (byt b 0)
  obtain ⟨F, eF⟩ : ∃ F, headF b = F := ⟨_, rfl⟩
  obtain ⟨N, eN⟩ : ∃ N : Nat, headN (byt b 0) = N := ⟨_, rfl⟩
  have hM0 : refL b N F = M := by rw [← eM, ← eF, ← eN]; rfl
  rw [eF] at hF hFr
  rw [eN] at hN8
  refine sem_step (wd := 1) (Q := mkQ LDy) (by decide) tysOk (q_of LDy_ok) mixed ?_
  repeat' (first | (apply And.intro <;> intro hc <;> (first | exact Bool.noConfusion hc | (exfalso; first | exact absurd rfl hc) | (simp only [decide_eq_true_eq, decide_eq_false_iff_not, Bool.not_eq_true', Bool.not_eq_false', beq_iff_eq, beq_eq_false_iff_ne, bne_iff_ne, bne_eq_false_iff_eq, Bool.true_eq_false, Bool.false_eq_true, ne_eq, not_true_eq_false] at hc <;> first | exact absurd rfl hc | (exfalso; first | exact absurd rfl hc) | skip) | skip)) | (refine And.intro (by first | exact trivial | decide | omega | (dsimp only; omega) | exact fun _ _ => rfl | exact ⟨by assumption, by first | exact trivial | decide | omega | (dsimp only; omega)⟩) ?_) | (apply And.intro) | (intro s hs; (have q : (F, (N : Int)) = s := by rw [← eF, ← eN]; exact (hd_at hs (toL_b b)).symm); clear hs; subst q))
  · show BL (toL eB b.length (rowF eB b)); rw [toL_b]; exact hb
  · show 8 ≤ (toL eB b.length (rowF eB b)).length; rw [toL_len]; omega
  · show (toL eB b.length (rowF eB b)).length ≤ _; rw [toL_len]; omega
  change Sem _ _ _ _ _ _ _ _; refine sem_cut (wd := 1024) (Q := mkQ LDy) (by decide) tysOk (q_of LDy_ok) (mono_of LDy_ok) mixed (HE b src dst M) (by intro _; rfl) ?_ ?_
  · conv => whnf
    refine loop_intro (mono_of LDy_ok) (HR b src dst (M := M)) (fun s => b.length - s.at_) (fun _ => rfl) ?_ ⟨N, F, hM0, hFr, by omega, by rw [hF.1, hF.2]; show b.length - N + (0 + 0) ≤ _; omega⟩ [(3, some 20), (9001, none), (9002, none)] ⟨rfl, ?_, ?_⟩
    · rintro ⟨at_, m, hM, hm, ha, hn⟩
      have hx := bt_r hb (at_ + 1)
      obtain ⟨k, hk⟩ : ∃ k : Nat, b.getD (at_ + 1) default = (k : Int) := ⟨(byt b (at_ + 1)).toNat, (Int.toNat_of_nonneg hx.1).symm⟩
      have hk256 : k < 256 := by have h := hx.2; unfold byt at h; rw [hk] at h; omega
      by_cases hg : at_ + 1 < b.length ∧ 0 < k ∧ at_ + 8 * k ≤ b.length
      · exact rd_go b src dst hb hl at_ k m hM hm ha hn hk hk256 hg.1 hg.2.1 hg.2.2
      · have hMm := refL_no hM hk hg
        subst hMm
        have w1 : IntKind.i64.wrap ((at_ : Int) + 1) = ((at_ + 1 : Nat) : Int) := (IntWalk.i64_in _ (by omega)).trans (by omega)
        have w2 : IntKind.i64.wrap (k : Int) = ((k : Nat) : Int) := (IntWalk.i64_in _ (by omega)).trans (by omega)
        have w3 : IntKind.i64.wrap (8 * (k : Int)) = ((8 * k : Nat) : Int) := (IntWalk.i64_in _ (by omega)).trans (by omega)
        have w4 : IntKind.i64.wrap ((at_ : Int) + ((8 * k : Nat) : Int)) = ((at_ + 8 * k : Nat) : Int) := (IntWalk.i64_in _ (by omega)).trans (by omega)
        have w6 : IntKind.i64.wrap ((at_ : Int) + IntKind.i64.wrap (8 * IntKind.i64.wrap (k : Int))) = ((at_ + 8 * k : Nat) : Int) := by rw [w2, w3, w4]
        unfold HR HRx
        dsimp only
        repeat' (first | (simp only [w1, Int.toNat_natCast, hk, w2, w3, w4]) | (apply And.intro <;> intro hc <;> (first | exact Bool.noConfusion hc | (exfalso; first | exact absurd rfl hc | omega) | (simp only [decide_eq_true_eq, decide_eq_false_iff_not, Bool.not_eq_true', Bool.not_eq_false', beq_iff_eq, beq_eq_false_iff_ne, bne_iff_ne, bne_eq_false_iff_eq, Bool.true_eq_false, Bool.false_eq_true, ne_eq, not_true_eq_false] at hc <;> first | exact absurd rfl hc | (exfalso; first | exact absurd rfl hc | omega) | skip) | skip)) | (refine And.intro (by first | exact trivial | decide | omega | (dsimp only; omega) | exact fun _ _ => rfl | exact ⟨by assumption, by first | exact trivial | decide | omega | (dsimp only; omega)⟩) ?_) | (apply And.intro) | (intro s hs; skip))
        all_goals
          refine ⟨⟨(), ⟨hm, by omega⟩⟩, [(4, some 9001), (5, some 9002)], rfl, ?_, ?_⟩
          · repeat' (first | exact trivial | exact rfl | exact leF_ptr rfl | exact leF_int rfl | exact leF_bool rfl | exact leF_cl (cl_slB _ _) | exact leF_cl (cl_slR _ _) | exact leF_cl (cl_ll _ _) | exact leF_c (leC_os rfl rfl) | refine leF_int ?_ | refine leF_bool ?_ | exact leN_varA (fun _ _ => (Elem.flat _ _ _).le) | exact leN_varA (fun _ _ => leC_top) | apply And.intro)
          · refine ⟨⟨rfl, leN_varA fun _ _ => (Elem.flat _ _ _).le⟩, ⟨rfl, leN_varA fun _ _ => (Elem.flat _ _ _).le⟩, ⟨rfl, leN_zE⟩, ⟨rfl, leN_m48 rfl fun j hj => ?_⟩, ⟨rfl, leN_ents⟩, ⟨rfl, leN_ents⟩, trivial⟩
            iterate 48 (rcases j with _ | j; · first | exact leC_int rfl | exact leC_bool rfl | exact leC_os rfl rfl)
            exact absurd hj (by omega)
    · repeat' (first | exact trivial | exact rfl | exact leF_ptr rfl | exact leF_int rfl | exact leF_bool rfl | exact leF_cl (cl_slB _ _) | exact leF_cl (cl_slR _ _) | exact leF_cl (cl_ll _ _) | exact leF_c (leC_os rfl rfl) | refine leF_int ?_ | refine leF_bool ?_ | exact leN_varA (fun _ _ => (Elem.flat _ _ _).le) | exact leN_varA (fun _ _ => leC_top) | apply And.intro)
    · refine ⟨⟨rfl, leN_varA fun _ _ => (Elem.flat _ _ _).le⟩, ⟨rfl, leN_varA fun _ _ => (Elem.flat _ _ _).le⟩, ⟨rfl, leN_zE⟩, ⟨rfl, leN_m48 rfl fun j hj => ?_⟩, ⟨rfl, by show F.p.length = 0; rw [hF.1]; rfl, rfl, Nat.le_of_ble_eq_true rfl⟩, ⟨rfl, by show F.c.length = 0; rw [hF.2]; rfl, rfl, Nat.le_of_ble_eq_true rfl⟩, trivial⟩
      iterate 48 (rcases j with _ | j; · first | exact leC_int rfl | exact leC_bool rfl | exact leC_nils_os (by rw [hF.1]; rfl) | exact leC_nils_os (by rw [hF.2]; rfl))
      exact absurd hj (by omega)
  rintro ⟨⟨⟩, hm, hn⟩
  have hE0 : EncP M src dst := ⟨hm, hs0, hd0, by omega, by omega⟩
  obtain ⟨E, eE⟩ : ∃ E, encDM M src dst = E := ⟨_, rfl⟩
  rw [eE] at hW
  have hEB : BL (E.getD []) := by
    rw [← eE]; unfold encDM
    split
    · exact encX_BL hm (valM_iff.1 (by assumption)) _
    · exact BL.nil
  have g1 : True := trivial
  refine sem_step (wd := 1) (Q := mkQ LDy) (by decide) tysOk (q_of LDy_ok) mixed ?_
  repeat' (first | (apply And.intro <;> intro hc <;> (first | exact Bool.noConfusion hc | (exfalso; first | exact absurd rfl hc) | (simp only [decide_eq_true_eq, decide_eq_false_iff_not, Bool.not_eq_true', Bool.not_eq_false', beq_iff_eq, beq_eq_false_iff_ne, bne_iff_ne, bne_eq_false_iff_eq, Bool.true_eq_false, Bool.false_eq_true, ne_eq, not_true_eq_false] at hc <;> first | exact absurd rfl hc | (exfalso; first | exact absurd rfl hc) | skip) | skip)) | (refine And.intro (by first | exact trivial | decide | omega | (dsimp only; omega) | exact fun _ _ => rfl | exact ⟨by assumption, by first | exact trivial | decide | omega | (dsimp only; omega)⟩) ?_) | (apply And.intro) | (intro s hs; (first | (clear g1; have q : E = s := ((enc_at (m := M) (src := src) (dst := dst) hs mo_rd (rd_ip src) (rd_ip dst)).trans eE).symm; clear hs; subst q) | skip)) | (refine Exists.intro _ (And.intro ⟨rfl, rfl, rfl⟩ ?_)))
  · exact rfl
  · exact rfl
  · exact encP_at (m := M) mo_rd (rd_ip src) (rd_ip dst) hE0
  refine sem_step (wd := 1) (Q := mkQ LDy) (by decide) tysOk (q_of LDy_ok) mixed ?_
  repeat' (first | (apply And.intro <;> intro hc <;> (first | exact Bool.noConfusion hc | (exfalso; first | exact absurd rfl hc) | (simp only [decide_eq_true_eq, decide_eq_false_iff_not, Bool.not_eq_true', Bool.not_eq_false', beq_iff_eq, beq_eq_false_iff_ne, bne_iff_ne, bne_eq_false_iff_eq, Bool.true_eq_false, Bool.false_eq_true, ne_eq, not_true_eq_false] at hc <;> first | exact absurd rfl hc | (exfalso; first | exact absurd rfl hc) | skip) | skip)) | (refine And.intro (by first | exact trivial | decide | omega | (dsimp only; omega) | exact fun _ _ => rfl | exact ⟨by assumption, by first | exact trivial | decide | omega | (dsimp only; omega)⟩) ?_) | (apply And.intro) | (intro s hs; skip) | (refine Exists.intro _ (And.intro ⟨rfl, rfl, rfl⟩ ?_)))
  · rename_i he
    have e : W = (noM, 5) := by
      rw [hW]
      refine if_neg fun h => he ?_
      rw [h]; rfl
    rw [e]
    exact Done.mk (leF_noM rfl (by intro j hj; (iterate 48 (rcases j with _ | j; exact rfl)); exact absurd hj (by omega)))
  · exact rfl
  · exact Nat.le_trans (Nat.le_of_eq (toL_len _ _ _)) (by omega)
  · rename_i he
    have h : decide (b = E.getD []) = false := by
      rw [← hc, hs]
      exact dec_eq2 (toL_b _) (toL_b0 _)
    have e : W = (noM, 5) := by
      rw [hW]
      refine if_neg fun h2 => of_decide_eq_false h ?_
      rw [h2]; rfl
    rw [e]
    exact Done.mk (leF_noM rfl (by intro j hj; (iterate 48 (rcases j with _ | j; exact rfl)); exact absurd hj (by omega)))
  · rename_i he
    have h : decide (b = E.getD []) = true := by
      rw [← hc, hs]
      exact dec_eq2 (toL_b _) (toL_b0 _)
    have h := of_decide_eq_true h
    have e : W = (M, 0) := by
      rw [hW]
      refine if_pos ?_
      cases E with
      | none => exact absurd he (by decide)
      | some c => exact congrArg some h.symm
    rw [e]
    refine sem_exec (wd := 1) (Q := mkQ LDy) (by decide) tysOk (q_of LDy_ok) mixed ?_
    repeat' (first | (apply And.intro <;> intro hc <;> (first | exact Bool.noConfusion hc | (exfalso; first | exact absurd rfl hc) | (simp only [decide_eq_true_eq, decide_eq_false_iff_not, Bool.not_eq_true', Bool.not_eq_false', beq_iff_eq, beq_eq_false_iff_ne, bne_iff_ne, bne_eq_false_iff_eq, Bool.true_eq_false, Bool.false_eq_true, ne_eq, not_true_eq_false] at hc <;> first | exact absurd rfl hc | (exfalso; first | exact absurd rfl hc) | skip) | skip)) | (refine And.intro (by first | exact trivial | decide | omega | (dsimp only; omega) | exact fun _ _ => rfl | exact ⟨by assumption, by first | exact trivial | decide | omega | (dsimp only; omega)⟩) ?_) | (apply And.intro) | (intro s hs; skip) | (refine Exists.intro _ (And.intro ⟨rfl, rfl, rfl⟩ ?_)))
    refine Done.mk (leF_tup ⟨leE_msg rfl (fun j hj => ?_) ?_ ?_ (fun j hj => ?_), leC_int rfl, trivial⟩)
    · iterate 27 (rcases j with _ | j; · first | exact leC_int rfl | exact leC_bool rfl)
      exact absurd hj (by omega)
    · exact leC_row_fin rfl rfl
    · exact leC_row_fin rfl rfl
    · iterate 19 (rcases j with _ | j; · first | exact leC_int rfl | exact leC_bool rfl)
      exact absurd hj (by omega)
abbrev rdecE : Entry := pureE (AC.cons (cSl eB eB_sz) (AC.cons (cE (eA .u8 16)) (AC.cons (cE (eA .u8 16)) AC.nil))) (fun a => BL a.1 ∧ byteOk a.2.1 ∧ byteOk a.2.2.1 ∧ a.1.length ≤ 1099511627776) (fun a => decDM a.1 a.2.1 a.2.2.1) encMD
theorem rdecE_ok : EntOk Try.prog 46 rdecE := pureE_ok ⟨_, Try.func46, rfl, by kernel_rfl⟩ fun a h => rdec_ok a.1 a.2.1 a.2.2.1 h.1 h.2.1 h.2.2.1 h.2.2.2
end Go.Proofs.Ythbhidfohdipnaa.AX

/- Layer 20 by AX2: what the laws call; lengths of encodings. -/
namespace Go.Proofs.Ythbhidfohdipnaa.AX
open Go.RowKit
set_option linter.unusedVariables false
set_option linter.unusedSimpArgs false
def LDk : CsL := (8, some newTapeE) :: (9, some msgE) :: (11, some dencE) :: (21, some ddecE) :: (22, some dsameE) :: (13, some valE2) :: (16, some dknownE) :: LT0
theorem LDk_ok : AllOk Try.prog LDk := ⟨newTapeE_ok, msgE_ok, dencE_ok, ddecE_ok, dsameE_ok, pureE_ok ⟨_, Try.func13, rfl, by kernel_rfl⟩ fun a h => valid_ok2 a.1 h.1 h.2, dknownE_ok, LT0_ok⟩
/-- A made message, and its encoding. -/
structure MB (m : Msg) (src dst : Fin 16 → Int) (B : List Int) : Prop where
  v : MsgV m
  e : encDM m src dst = some B
  d : decDM B src dst = (m, 0)
  b : BL B
  n : B.length ≤ 1056
  l : 8 ≤ B.length
  q : B.length % 8 = 0
end Go.Proofs.Ythbhidfohdipnaa.AX

/- Layer 20: a changed bit changes the checksum (plain). -/
namespace Go.Proofs.Ythbhidfohdipnaa.AX
open Go.RowKit
set_option linter.unusedVariables false
set_option linter.unusedSimpArgs false
theorem msg_rd0 {m : Msg} {P C : CV} : (⟨eMA.rd (msgC m.a P C m.z), toL ePI m.p.length (rowF ePI m.p), toL eCI m.c.length (rowF eCI m.c), eMZ.rd fun q => msgC m.a P C m.z (29 + q)⟩ : Msg) = m :=
  msg_is (a := m.a) (p := m.p) (c := m.c) (z := m.z) (fun j hj => msgC_a hj) (toL_P m.p) (toL_C m.c) (fun j hj => by rw [msgC_z (by omega), Nat.add_sub_cancel_left])
end Go.Proofs.Ythbhidfohdipnaa.AX

/- Layer 20 by AX2: the law's helper 'same' returns true. -/
namespace Go.Proofs.Ythbhidfohdipnaa.AX
open Go.RowKit
set_option linter.unusedVariables false
set_option linter.unusedSimpArgs false
def LDz : CsL := (18, some dsumE) :: (46, some rdecE) :: (12, some rencE) :: LDk
theorem LDz_ok : AllOk Try.prog LDz := ⟨(LDs_ok).2.1, rdecE_ok, rencE_ok, LDk_ok⟩
end Go.Proofs.Ythbhidfohdipnaa.AX

