/- Layer 13 by AX2: packets; Valid and Size of the program and of the reference. -/
import Derived.Test.YtjknkfjhcapocaaSm
namespace Go.Proofs.Ytjknkfjhcapocaa.AX
open Go.RowKit
set_option linter.unusedVariables false
set_option linter.unusedSimpArgs false
structure Hdr where
  cls : Int
  flow : Int
  nxt : Int
  hops : Int
  src : Fin 16 → Int
  dst : Fin 16 → Int
  sp : Int
  dp : Int
def eHdC (x : Hdr) (j : Nat) : CV := bif Nat.beq j 0 then .int .u8 x.cls else bif Nat.beq j 1 then .int .u32 x.flow else bif Nat.beq j 2 then .int .u8 x.nxt else bif Nat.beq j 3 then .int .u8 x.hops else bif Nat.blt j 20 then .int .u8 (vget x.src (j - 4)) else bif Nat.blt j 36 then .int .u8 (vget x.dst (j - 20)) else bif Nat.beq j 36 then .int .u16 x.sp else (.int .u16 x.dp)
def eHd : Elem Hdr where
  sz := 38
  cell := eHdC
  rd g := ⟨valI (g 0), valI (g 1), valI (g 2), valI (g 3), fun q => valI (g (4 + q.1)), fun q => valI (g (20 + q.1)), valI (g 36), valI (g 37)⟩
  ok g := isK .u8 (g 0) && isK .u32 (g 1) && isK .u8 (g 2) && isK .u8 (g 3) && okA .u8 g 4 16 && okA .u8 g 20 16 && isK .u16 (g 36) && isK .u16 (g 37)
  ok_eq g h j hj := by
    simp only [Bool.and_eq_true] at h
    unfold eHdC
    by_cases c0 : j < 1
    · have e : j = 0 := by omega
      subst e
      exact isK_eq h.1.1.1.1.1.1.1
    by_cases c1 : j < 2
    · have e : j = 1 := by omega
      subst e
      exact isK_eq h.1.1.1.1.1.1.2
    by_cases c2 : j < 3
    · have e : j = 2 := by omega
      subst e
      exact isK_eq h.1.1.1.1.1.2
    by_cases c3 : j < 4
    · have e : j = 3 := by omega
      subst e
      exact isK_eq h.1.1.1.1.2
    by_cases c4 : j < 20
    · have e := okA_at h.1.1.1.2 (j - 4) (by omega)
      rw [show 4 + (j - 4) = j by omega] at e
      have b0 : Nat.beq j 0 = false := by cases hb : Nat.beq j 0 with | false => rfl | true => have := Nat.eq_of_beq_eq_true hb; omega
      have b1 : Nat.beq j 1 = false := by cases hb : Nat.beq j 1 with | false => rfl | true => have := Nat.eq_of_beq_eq_true hb; omega
      have b2 : Nat.beq j 2 = false := by cases hb : Nat.beq j 2 with | false => rfl | true => have := Nat.eq_of_beq_eq_true hb; omega
      have b3 : Nat.beq j 3 = false := by cases hb : Nat.beq j 3 with | false => rfl | true => have := Nat.eq_of_beq_eq_true hb; omega
      rw [b0, cond_false, b1, cond_false, b2, cond_false, b3, cond_false, show Nat.blt j 20 = true from Nat.ble_eq_true_of_le c4, cond_true]
      rw [show vget (fun q : Fin 16 => valI (g (4 + q.1))) (j - 4) = valI (g (4 + (j - 4))) from vget_lt _ (by omega)]
      rw [show 4 + (j - 4) = j by omega]
      exact e
    by_cases c5 : j < 36
    · have e := okA_at h.1.1.2 (j - 20) (by omega)
      rw [show 20 + (j - 20) = j by omega] at e
      have b0 : Nat.beq j 0 = false := by cases hb : Nat.beq j 0 with | false => rfl | true => have := Nat.eq_of_beq_eq_true hb; omega
      have b1 : Nat.beq j 1 = false := by cases hb : Nat.beq j 1 with | false => rfl | true => have := Nat.eq_of_beq_eq_true hb; omega
      have b2 : Nat.beq j 2 = false := by cases hb : Nat.beq j 2 with | false => rfl | true => have := Nat.eq_of_beq_eq_true hb; omega
      have b3 : Nat.beq j 3 = false := by cases hb : Nat.beq j 3 with | false => rfl | true => have := Nat.eq_of_beq_eq_true hb; omega
      have b4 : Nat.blt j 20 = false := by cases hb : Nat.blt j 20 with | false => rfl | true => have := Nat.le_of_ble_eq_true hb; omega
      rw [b0, cond_false, b1, cond_false, b2, cond_false, b3, cond_false, b4, cond_false, show Nat.blt j 36 = true from Nat.ble_eq_true_of_le c5, cond_true]
      rw [show vget (fun q : Fin 16 => valI (g (20 + q.1))) (j - 20) = valI (g (20 + (j - 20))) from vget_lt _ (by omega)]
      rw [show 20 + (j - 20) = j by omega]
      exact e
    by_cases c6 : j < 37
    · have e : j = 36 := by omega
      subst e
      exact isK_eq h.1.2
    by_cases c7 : j < 38
    · have e : j = 37 := by omega
      subst e
      exact isK_eq h.2
    omega
  flat a j := by
    unfold eHdC
    cases Nat.beq j 0 with
    | true => exact flat_int
    | false =>
    cases Nat.beq j 1 with
    | true => exact flat_int
    | false =>
    cases Nat.beq j 2 with
    | true => exact flat_int
    | false =>
    cases Nat.beq j 3 with
    | true => exact flat_int
    | false =>
    cases Nat.blt j 20 with
    | true => exact flat_int
    | false =>
    cases Nat.blt j 36 with
    | true => exact flat_int
    | false =>
    cases Nat.beq j 36 with
    | true => exact flat_int
    | false =>
    exact flat_int
theorem eHd_sz : 0 < eHd.sz := by decide
theorem eHd_src_at (x : Hdr) (q : Nat) (h : q < 16) : eHd.cell x (4 + q) = .int .u8 (vget x.src q) := by
  show eHdC x (4 + q) = _
  unfold eHdC
  rw [show Nat.beq (4 + q) 0 = false from by cases hb : Nat.beq (4 + q) 0 with | false => rfl | true => have := Nat.eq_of_beq_eq_true hb; omega, cond_false]
  rw [show Nat.beq (4 + q) 1 = false from by cases hb : Nat.beq (4 + q) 1 with | false => rfl | true => have := Nat.eq_of_beq_eq_true hb; omega, cond_false]
  rw [show Nat.beq (4 + q) 2 = false from by cases hb : Nat.beq (4 + q) 2 with | false => rfl | true => have := Nat.eq_of_beq_eq_true hb; omega, cond_false]
  rw [show Nat.beq (4 + q) 3 = false from by cases hb : Nat.beq (4 + q) 3 with | false => rfl | true => have := Nat.eq_of_beq_eq_true hb; omega, cond_false]
  rw [show Nat.blt (4 + q) 20 = true from Nat.ble_eq_true_of_le (by omega), cond_true]
  rw [show 4 + q - 4 = q by omega]
theorem eHd_src (x : Hdr) : (fun q : Fin 16 => valI (eHd.cell x (4 + q.1))) = x.src := by
  funext q
  rw [eHd_src_at x q.1 q.2]
  exact vget_lt _ q.2
theorem eHd_dst_at (x : Hdr) (q : Nat) (h : q < 16) : eHd.cell x (20 + q) = .int .u8 (vget x.dst q) := by
  show eHdC x (20 + q) = _
  unfold eHdC
  rw [show Nat.beq (20 + q) 0 = false from by cases hb : Nat.beq (20 + q) 0 with | false => rfl | true => have := Nat.eq_of_beq_eq_true hb; omega, cond_false]
  rw [show Nat.beq (20 + q) 1 = false from by cases hb : Nat.beq (20 + q) 1 with | false => rfl | true => have := Nat.eq_of_beq_eq_true hb; omega, cond_false]
  rw [show Nat.beq (20 + q) 2 = false from by cases hb : Nat.beq (20 + q) 2 with | false => rfl | true => have := Nat.eq_of_beq_eq_true hb; omega, cond_false]
  rw [show Nat.beq (20 + q) 3 = false from by cases hb : Nat.beq (20 + q) 3 with | false => rfl | true => have := Nat.eq_of_beq_eq_true hb; omega, cond_false]
  rw [show Nat.blt (20 + q) 20 = false from by cases hb : Nat.blt (20 + q) 20 with | false => rfl | true => have := Nat.le_of_ble_eq_true hb; omega, cond_false]
  rw [show Nat.blt (20 + q) 36 = true from Nat.ble_eq_true_of_le (by omega), cond_true]
  rw [show 20 + q - 20 = q by omega]
theorem eHd_dst (x : Hdr) : (fun q : Fin 16 => valI (eHd.cell x (20 + q.1))) = x.dst := by
  funext q
  rw [eHd_dst_at x q.1 q.2]
  exact vget_lt _ q.2
theorem eHd_rd (x : Hdr) : eHd.rd (eHd.cell x) = x := by
  show (⟨x.cls, x.flow, x.nxt, x.hops, fun q => valI (eHd.cell x (4 + q.1)), fun q => valI (eHd.cell x (20 + q.1)), x.sp, x.dp⟩ : Hdr) = x
  rw [eHd_src, eHd_dst]
theorem eHd_ok (x : Hdr) : eHd.ok (eHd.cell x) = true := rfl
abbrev Pkt := Hdr × List Int
abbrev cPk : Codec Pkt := cTail eHd eB eB_sz
abbrev pkR (p : Pkt) : EV := tailR eHd eB p
theorem hd_congr (f g : Nat → CV) (h : ∀ j, j < 38 → f j = g j) : eHd.rd f = eHd.rd g := by
  show Hdr.mk _ _ _ _ _ _ _ _ = Hdr.mk _ _ _ _ _ _ _ _
  rw [h 0 (by omega), h 1 (by omega), h 2 (by omega), h 3 (by omega), h 36 (by omega), h 37 (by omega)]
  congr 1
  · funext q; rw [h (4 + q.1) (by omega)]
  · funext q; rw [h (20 + q.1) (by omega)]
theorem hd_tail (h : Hdr) (last : CV) : (eHd.rd fun q => tailC eHd h last (0 + q)) = h := by
  rw [hd_congr _ (eHd.cell h) fun j hj => by rw [Nat.zero_add]; exact tailC_lt hj]
  exact eHd_rd h
theorem pk_eq (p : Pkt) (last : CV) : ((eHd.rd fun q => tailC eHd p.1 last (0 + q), toL eB p.2.length (rowF eB p.2)) : Pkt) = p := by rw [hd_tail, toL_b]
def mcast (a : Fin 16 → Int) : Bool := decide (vget a 0 = 255)
theorem mcast_ok (a : Fin 16 → Int) : PureOk Try.prog 65 [(cE (eA .u8 16)).enc a] (cB.enc (mcast a)) := by
  refine pure_intro (wd := 1) (Q := mkQ LE0) (by decide) tysOk (q_of LE0_ok) mixed Try.func65 rfl _ (by show 1 ≤ _; decide) _ ?_
  repeat' (first | (apply And.intro <;> intro hc <;> (first | exact Bool.noConfusion hc | (simp only [decide_eq_true_eq, decide_eq_false_iff_not, Bool.not_eq_true', Bool.not_eq_false', beq_iff_eq, beq_eq_false_iff_ne, bne_iff_ne, bne_eq_false_iff_eq, Bool.true_eq_false, Bool.false_eq_true] at hc) | skip)) | (refine And.intro (by first | exact trivial | decide | omega | (dsimp only; omega) | exact fun _ _ => rfl) ?_) | (apply And.intro) | (intro s hs))
  exact Done.mk (leF_bool rfl)
theorem rmcast_ok (a : Fin 16 → Int) : PureOk Try.prog 45 [(cE (eA .u8 16)).enc a] (cB.enc (mcast a)) := by
  refine pure_intro (wd := 1) (Q := mkQ LE0) (by decide) tysOk (q_of LE0_ok) mixed Try.func45 rfl _ (by show 1 ≤ _; decide) _ ?_
  repeat' (first | (apply And.intro <;> intro hc <;> (first | exact Bool.noConfusion hc | (simp only [decide_eq_true_eq, decide_eq_false_iff_not, Bool.not_eq_true', Bool.not_eq_false', beq_iff_eq, beq_eq_false_iff_ne, bne_iff_ne, bne_eq_false_iff_eq, Bool.true_eq_false, Bool.false_eq_true] at hc) | skip)) | (refine And.intro (by first | exact trivial | decide | omega | (dsimp only; omega) | exact fun _ _ => rfl) ?_) | (apply And.intro) | (intro s hs))
  exact Done.mk (leF_bool rfl)
def sizeP (p : Pkt) : Int := (if p.1.nxt = 17 then 48 else 40) + p.2.length
set_option maxHeartbeats 4000000 in
theorem size_ok (p : Pkt) (hl : p.2.length ≤ 140737488355328) : PureOk Try.prog 23 [cPk.enc p] ((cI .i64).enc (sizeP p)) := by
  refine pure_intro (wd := 1) (Q := mkQ LE0) (by decide) tysOk (q_of LE0_ok) mixed Try.func23 rfl _ (by show 1 ≤ _; decide) _ ?_
  repeat' (first | (apply And.intro <;> intro hc <;> (first | exact Bool.noConfusion hc | (simp only [decide_eq_true_eq, decide_eq_false_iff_not, Bool.not_eq_true', Bool.not_eq_false', beq_iff_eq, beq_eq_false_iff_ne, bne_iff_ne, bne_eq_false_iff_eq, Bool.true_eq_false, Bool.false_eq_true] at hc) | skip)) | (refine And.intro (by first | exact trivial | decide | omega | (dsimp only; omega) | exact fun _ _ => rfl) ?_) | (apply And.intro) | (intro s hs))
  · refine Done.mk (leF_int ?_)
    unfold sizeP
    rw [if_pos hc]
    exact IntWalk.i64_in _ (by omega)
  · refine Done.mk (leF_int ?_)
    unfold sizeP
    rw [if_neg hc]
    exact IntWalk.i64_in _ (by omega)
def udpP (p : Pkt) : Int := if p.1.nxt = 17 then 8 else 0
theorem udp_ok (p : Pkt) : PureOk Try.prog 66 [cPk.enc p] ((cI .i64).enc (udpP p)) := by
  refine pure_intro (wd := 1) (Q := mkQ LE0) (by decide) tysOk (q_of LE0_ok) mixed Try.func66 rfl _ (by show 1 ≤ _; decide) _ ?_
  repeat' (first | (apply And.intro <;> intro hc <;> (first | exact Bool.noConfusion hc | (simp only [decide_eq_true_eq, decide_eq_false_iff_not, Bool.not_eq_true', Bool.not_eq_false', beq_iff_eq, beq_eq_false_iff_ne, bne_iff_ne, bne_eq_false_iff_eq, Bool.true_eq_false, Bool.false_eq_true] at hc) | skip)) | (refine And.intro (by first | exact trivial | decide | omega | (dsimp only; omega) | exact fun _ _ => rfl) ?_) | (apply And.intro) | (intro s hs))
  · exact Done.mk (leF_int (by unfold udpP; rw [if_pos hc]))
  · exact Done.mk (leF_int (by unfold udpP; rw [if_neg hc]))
abbrev PA : AC (Pkt × Unit) := AC.cons cPk AC.nil
abbrev ipA : AC ((Fin 16 → Int) × Unit) := AC.cons (cE (eA .u8 16)) AC.nil
abbrev sizeE : Entry := pureE PA (fun a => a.1.2.length ≤ 140737488355328) (fun a => sizeP a.1) (cI .i64).enc
abbrev mcastE : Entry := pureE ipA (fun _ => True) (fun a => mcast a.1) cB.enc
def LPa : CsL := (23, some sizeE) :: (66, some (pureE PA (fun _ => True) (fun a => udpP a.1) (cI .i64).enc)) :: (65, some mcastE) :: (45, some mcastE) :: LSm
theorem LPa_ok : AllOk Try.prog LPa := ⟨pureE_ok ⟨_, Try.func23, rfl, by kernel_rfl⟩ fun a h => size_ok a.1 h, pureE_ok ⟨_, Try.func66, rfl, by kernel_rfl⟩ fun a h => udp_ok a.1, pureE_ok ⟨_, Try.func65, rfl, by kernel_rfl⟩ fun a h => mcast_ok a.1, pureE_ok ⟨_, Try.func45, rfl, by kernel_rfl⟩ fun a h => rmcast_ok a.1, LSm_ok⟩
set_option maxHeartbeats 4000000 in
theorem rsize_ok (p : Pkt) (hl : p.2.length ≤ 140737488355328) : PureOk Try.prog 24 [cPk.enc p] ((cI .i64).enc (sizeP p)) := by
  refine pure_intro (wd := 1) (Q := mkQ LPa) (by decide) tysOk (q_of LPa_ok) mixed Try.func24 rfl _ (by show 1 ≤ _; decide) _ ?_
  repeat' (first | (apply And.intro <;> intro hc <;> (first | exact Bool.noConfusion hc | (simp only [decide_eq_true_eq, decide_eq_false_iff_not, Bool.not_eq_true', Bool.not_eq_false', beq_iff_eq, beq_eq_false_iff_ne, bne_iff_ne, bne_eq_false_iff_eq, Bool.true_eq_false, Bool.false_eq_true, ne_eq, not_true_eq_false] at hc <;> first | exact absurd rfl hc | skip) | skip)) | (refine And.intro (by first | exact trivial | decide | omega | (dsimp only; omega) | exact fun _ _ => rfl | exact ⟨by assumption, by first | exact trivial | decide | omega | (dsimp only; omega)⟩) ?_) | (apply And.intro) | (intro s hs; (have hs' : s = udpP p := hs.trans (congrArg udpP (pk_eq p _))); clear hs; subst hs'))
  all_goals first
    | (refine Done.mk (leF_int ?_)
       unfold sizeP udpP
       split
       · rw [show IntKind.i64.wrap (40 + 8) = 48 from rfl]
         exact IntWalk.i64_in _ (by omega)
       · rw [show IntKind.i64.wrap (40 + 0) = 40 from rfl]
         exact IntWalk.i64_in _ (by omega))
    | exact rfl
def validP (p : Pkt) : Bool := decide (p.1.flow ≤ 1048575) && !mcast p.1.src && decide (sizeP p ≤ 1280) && (decide (p.1.nxt = 17) || decide (p.1.sp = 0) && decide (p.1.dp = 0))
theorem src_eq (h : Hdr) (last : CV) : ((eA .u8 16).rd fun q => tailC eHd h last (0 + 4 + q)) = h.src := by
  funext q
  show valI (tailC eHd h last (0 + 4 + q.1)) = h.src q
  rw [show 0 + 4 + q.1 = 4 + q.1 by omega, tailC_lt (show 4 + q.1 < 38 by omega), eHd_src_at _ _ q.2]
  exact vget_lt _ q.2
set_option maxHeartbeats 4000000 in
set_option maxRecDepth 20000 in
theorem pvalid_ok (p : Pkt) (hl : p.2.length ≤ 140737488355328) : PureOk Try.prog 21 [cPk.enc p] (cB.enc (validP p)) := by
  refine pure_intro (wd := 1) (Q := mkQ LPa) (by decide) tysOk (q_of LPa_ok) mixed Try.func21 rfl _ (by show 1 ≤ _; decide) _ ?_
  repeat' (first | (apply And.intro <;> intro hc <;> (first | exact Bool.noConfusion hc | (simp only [decide_eq_true_eq, decide_eq_false_iff_not, Bool.not_eq_true', Bool.not_eq_false', beq_iff_eq, beq_eq_false_iff_ne, bne_iff_ne, bne_eq_false_iff_eq, Bool.true_eq_false, Bool.false_eq_true, ne_eq, not_true_eq_false] at hc <;> first | exact absurd rfl hc | skip) | skip)) | (refine And.intro (by first | exact trivial | decide | omega | (dsimp only; omega) | exact fun _ _ => rfl | exact ⟨by assumption, by first | exact trivial | decide | omega | (dsimp only; omega)⟩) ?_) | (apply And.intro) | (intro s hs; (first | (have hs' : s = sizeP p := hs.trans (congrArg sizeP (pk_eq p _))) | (have hs' : s = mcast p.1.src := hs.trans (congrArg mcast (src_eq p.1 _)))); clear hs; subst hs'))
  all_goals first
    | (dsimp only; rw [toL_b]; exact hl)
    | (refine Done.mk (leF_bool ?_); unfold validP; simp [*]; done)
    | (refine Done.mk (leF_bool ?_); unfold validP; rw [Bool.eq_iff_iff]; simp [*]; omega)
abbrev rsizeE : Entry := sizeE
abbrev validE : Entry := pureE PA (fun a => a.1.2.length ≤ 140737488355328) (fun a => validP a.1) cB.enc
def LPb : CsL := (24, some sizeE) :: (21, some validE) :: LPa
theorem LPb_ok : AllOk Try.prog LPb := ⟨pureE_ok ⟨_, Try.func24, rfl, by kernel_rfl⟩ fun a h => rsize_ok a.1 h, pureE_ok ⟨_, Try.func21, rfl, by kernel_rfl⟩ fun a h => pvalid_ok a.1 h, LPa_ok⟩
set_option maxHeartbeats 4000000 in
set_option maxRecDepth 20000 in
theorem rpvalid_ok (p : Pkt) (hl : p.2.length ≤ 140737488355328) : PureOk Try.prog 22 [cPk.enc p] (cB.enc (validP p)) := by
  refine pure_intro (wd := 1) (Q := mkQ LPb) (by decide) tysOk (q_of LPb_ok) mixed Try.func22 rfl _ (by show 1 ≤ _; decide) _ ?_
  repeat' (first | (apply And.intro <;> intro hc <;> (first | exact Bool.noConfusion hc | (simp only [decide_eq_true_eq, decide_eq_false_iff_not, Bool.not_eq_true', Bool.not_eq_false', beq_iff_eq, beq_eq_false_iff_ne, bne_iff_ne, bne_eq_false_iff_eq, Bool.true_eq_false, Bool.false_eq_true, ne_eq, not_true_eq_false] at hc <;> first | exact absurd rfl hc | skip) | skip)) | (refine And.intro (by first | exact trivial | decide | omega | (dsimp only; omega) | exact fun _ _ => rfl | exact ⟨by assumption, by first | exact trivial | decide | omega | (dsimp only; omega)⟩) ?_) | (apply And.intro) | (intro s hs; (first | (have hs' : s = sizeP p := hs.trans (congrArg sizeP (pk_eq p _))) | (have hs' : s = mcast p.1.src := hs.trans (congrArg mcast (src_eq p.1 _)))); clear hs; subst hs'))
  all_goals first
    | (dsimp only; rw [toL_b]; exact hl)
    | (refine Done.mk (leF_bool ?_); unfold validP; simp [*]; done)
    | (refine Done.mk (leF_bool ?_); unfold validP; rw [Bool.eq_iff_iff]; simp [*]; omega)
    | skip
end Go.Proofs.Ytjknkfjhcapocaa.AX
