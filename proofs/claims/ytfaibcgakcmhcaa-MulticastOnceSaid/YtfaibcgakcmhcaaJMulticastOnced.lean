/- Texts of one's own in one file: Ma3, Ma4, Ma5, Mp, Mkn, Mdf, Ms, Mon, Ml8, Ms1. -/
import Derived.Test.YtfaibcgakcmhcaaJMulticastOncec
/- Package multicast by AX2: Accept, from the raising on. -/
namespace Go.Proofs.Ytfaibcgakcmhcaa.AX
open Go.RowKit
set_option linter.unusedVariables false
set_option linter.unusedSimpArgs false
structure AcJ (L : List Sed) (a : Nat) (s : Sed) (now : Int) (c : Cas) (draw : Int) : Prop where
  lt : a < L.length
  n : L.length ≤ 9
  k : KpI s.held
  h : s.held.length ≤ 32
  num : 0 ≤ c.num ∧ c.num < 1073741824
  d : c.data.length ≤ 64
  now : 0 ≤ now ∧ now ≤ 1099511627776
  dr : drawOk draw
set_option maxHeartbeats 8000000 in
set_option maxRecDepth 20000 in
theorem acc3_0 (g0 : Nat) (L : List Sed) (a : Nat) (sd : Sed) (now : Int) (c : Cas) (deaf : Bool) (draw : Int) (hI : AcJ L a sd now c draw) (R : List Sed × Bool × Int) (hR : R = (L.set a (if deaf = true then raiseS sd (c.num + 1) else addSd sd (newH c now draw) (plcH c.num sd.held 0).1), !deaf, 0)) (a3 : a = 0) :
    Sem Try.prog Try.f11.ntmps 0 (dropC 11 (Try.f11.body.getD Code.ret)) (SB L a sd now c deaf draw ()).fr (SB L a sd now c deaf draw ()).H (SB L a sd now c deaf draw ()).nx (endH T Try.f11.results.toList fun x H _ => FinN (some R.1.length) (encAc R) (entN neS 78 R.1) x H) := by
  obtain ⟨ha, hn, hk, hh, hnum, hd, hnow, hdr⟩ := hI
  unfold SB
  subst a3
  have w1 : IntKind.i64.wrap (c.num + 1) = c.num + 1 := IntWalk.i64_in _ (by omega)
  have w2 : IntKind.i64.wrap (now + 20) = now + 20 := IntWalk.i64_in _ (by omega)
  cases deaf with
  | true =>
    refine sem_step (wd := 1024) (Q := mkQ (LMa g0)) (by decide) tysOk (q_of (LMa_ok g0)) mixed ?_
    repeat' (first | (simp only [w1]) | (apply And.intro <;> intro hc <;> (first | exact Bool.noConfusion hc | (exfalso; first | exact absurd rfl hc | omega) | (simp only [decide_eq_true_eq, decide_eq_false_iff_not, Bool.not_eq_true', Bool.not_eq_false', beq_iff_eq, beq_eq_false_iff_ne, bne_iff_ne, bne_eq_false_iff_eq, Bool.true_eq_false, Bool.false_eq_true, ne_eq, not_true_eq_false] at hc <;> first | exact absurd rfl hc | (exfalso; first | exact absurd rfl hc | omega) | skip) | skip)) | (refine And.intro (by first | exact trivial | decide | omega | (dsimp only; omega) | exact fun _ _ => rfl | exact ⟨by assumption, by first | exact trivial | decide | omega | (dsimp only; omega)⟩) ?_) | (apply And.intro) | (intro s hs; skip) | (refine Exists.intro _ (And.intro ⟨rfl, rfl, rfl⟩ ?_)))
    · exact rfl
    · conv => whnf
      refine fin_acc (s := sd) (d := 2) (hR.trans ?_) ha rfl (fun p h j => rowA_ne h) rfl rfl rfl rfl rfl rfl rfl fun q hq j hj => (neH.sh _ j hj).le
      rw [if_pos rfl, show raiseS sd (c.num + 1) = sd from if_pos hc]; rfl
    · exact ⟨rfl, okD_sl _⟩
    · exact Eq.mpr (congrArg KpI (toN_row0 neH_rd _)) hk
    · conv => whnf
      have q : sd.held.filter (wantB (some (c.num + 1))) = s := (hs.trans (by rw [toN_row0 neH_rd])).symm
      clear hs
      refine fin_acc (s := ⟨sd.id, c.num + 1, s⟩) (d := 5141) (hR.trans ?_) ha rfl (fun p h j => (updE_ne h).trans ((updE_ne h).trans (rowA_ne h))) rfl rfl rfl rfl rfl rfl rfl fun q hq j hj => (neH.sh _ j hj).le
      rw [if_pos rfl, show raiseS sd (c.num + 1) = ⟨sd.id, c.num + 1, s⟩ from (if_neg hc).trans (by rw [q])]; rfl
  | false =>
    obtain ⟨⟨i, b⟩, hP⟩ : ∃ P, plcH c.num sd.held 0 = P := ⟨_, rfl⟩
    have hle := plc_le (id := c.num) (L := sd.held) (k := 0)
    rw [hP, Nat.zero_add] at hle
    dsimp only at hle
    obtain ⟨hle1, _, _⟩ := hle
    have hR2 : R = (L.set 0 (addSd sd (newH c now draw) i), true, 0) := by rw [hR, hP]; rfl
    clear hR
    have w3 : IntKind.i64.wrap ((i : Int) + 1) = ((i + 1 : Nat) : Int) := (IntWalk.i64_in _ (by omega)).trans (by omega)
    obtain ⟨tr, hT⟩ : ∃ r, newT 2 3 2 now draw = r := ⟨_, rfl⟩
    refine sem_step (wd := 1) (Q := mkQ (LMa g0)) (by decide) tysOk (q_of (LMa_ok g0)) mixed ?_
    repeat' (first | (simp only [w2]) | (apply And.intro <;> intro hc <;> (first | exact Bool.noConfusion hc | (exfalso; first | exact absurd rfl hc | omega) | (simp only [decide_eq_true_eq, decide_eq_false_iff_not, Bool.not_eq_true', Bool.not_eq_false', beq_iff_eq, beq_eq_false_iff_ne, bne_iff_ne, bne_eq_false_iff_eq, Bool.true_eq_false, Bool.false_eq_true, ne_eq, not_true_eq_false] at hc <;> first | exact absurd rfl hc | (exfalso; first | exact absurd rfl hc | omega) | skip) | skip)) | (refine And.intro (by first | exact trivial | decide | omega | (dsimp only; omega) | exact fun _ _ => rfl | exact ⟨by assumption, by first | exact trivial | decide | omega | (dsimp only; omega)⟩) ?_) | (apply And.intro) | (intro s hs; skip) | (refine Exists.intro _ (And.intro ⟨rfl, rfl, rfl⟩ ?_)))
    refine sem_step (wd := 1) (Q := mkQ (LMa g0)) (by decide) tysOk (q_of (LMa_ok g0)) mixed ?_
    repeat' (first | (simp only [w2]) | (apply And.intro <;> intro hc <;> (first | exact Bool.noConfusion hc | (exfalso; first | exact absurd rfl hc | omega) | (simp only [decide_eq_true_eq, decide_eq_false_iff_not, Bool.not_eq_true', Bool.not_eq_false', beq_iff_eq, beq_eq_false_iff_ne, bne_iff_ne, bne_eq_false_iff_eq, Bool.true_eq_false, Bool.false_eq_true, ne_eq, not_true_eq_false] at hc <;> first | exact absurd rfl hc | (exfalso; first | exact absurd rfl hc | omega) | skip) | skip)) | (refine And.intro (by first | exact trivial | decide | omega | (dsimp only; omega) | exact fun _ _ => rfl | exact ⟨by assumption, by first | exact trivial | decide | omega | (dsimp only; omega)⟩) ?_) | (apply And.intro) | (intro s hs; (have q : tr = s := hT.symm.trans hs.symm; clear hs; subst q)) | (refine Exists.intro _ (And.intro ⟨rfl, rfl, rfl⟩ ?_)))
    refine sem_step (wd := 1) (Q := mkQ (LMa g0)) (by decide) tysOk (q_of (LMa_ok g0)) mixed ?_
    repeat' (first | (simp only [w2]) | (apply And.intro <;> intro hc <;> (first | exact Bool.noConfusion hc | (exfalso; first | exact absurd rfl hc | omega) | (simp only [decide_eq_true_eq, decide_eq_false_iff_not, Bool.not_eq_true', Bool.not_eq_false', beq_iff_eq, beq_eq_false_iff_ne, bne_iff_ne, bne_eq_false_iff_eq, Bool.true_eq_false, Bool.false_eq_true, ne_eq, not_true_eq_false] at hc <;> first | exact absurd rfl hc | (exfalso; first | exact absurd rfl hc | omega) | skip) | skip)) | (refine And.intro (by first | exact trivial | decide | omega | (dsimp only; omega) | exact fun _ _ => rfl | exact ⟨by assumption, by first | exact trivial | decide | omega | (dsimp only; omega)⟩) ?_) | (apply And.intro) | (intro s hs; skip) | (refine Exists.intro _ (And.intro ⟨rfl, rfl, rfl⟩ ?_)))
    refine sem_step (wd := 1) (Q := mkQ (LMa g0)) (by decide) tysOk (q_of (LMa_ok g0)) mixed ?_
    repeat' (first | (simp only [w2, w3]) | (apply And.intro <;> intro hc <;> (first | exact Bool.noConfusion hc | (exfalso; first | exact absurd rfl hc | omega) | (simp only [decide_eq_true_eq, decide_eq_false_iff_not, Bool.not_eq_true', Bool.not_eq_false', beq_iff_eq, beq_eq_false_iff_ne, bne_iff_ne, bne_eq_false_iff_eq, Bool.true_eq_false, Bool.false_eq_true, ne_eq, not_true_eq_false] at hc <;> first | exact absurd rfl hc | (exfalso; first | exact absurd rfl hc | omega) | skip) | skip)) | (refine And.intro (by first | exact trivial | decide | omega | (dsimp only; omega) | exact fun _ _ => rfl | exact ⟨by assumption, by first | exact trivial | decide | omega | (dsimp only; omega)⟩) ?_) | (apply And.intro) | (intro s hs; (have q := rd_plc hs (toN_row0 neH_rd _) hP; clear hs; subst q)) | (refine Exists.intro _ (And.intro ⟨rfl, rfl, rfl⟩ ?_)))
    · exact fun _ _ => ⟨rfl, okD_sl _⟩
    · exact Eq.mpr (congrArg (fun z : List Hel => z.length ≤ 9223372036854775807) (toN_row0 neH_rd _)) (by omega)
    refine sem_step (wd := 1) (Q := mkQ (LMa g0)) (by decide) tysOk (q_of (LMa_ok g0)) mixed ?_
    repeat' (first | (simp only [w2, w3]) | (apply And.intro <;> intro hc <;> (first | exact Bool.noConfusion hc | (exfalso; first | exact absurd rfl hc | omega) | (simp only [decide_eq_true_eq, decide_eq_false_iff_not, Bool.not_eq_true', Bool.not_eq_false', beq_iff_eq, beq_eq_false_iff_ne, bne_iff_ne, bne_eq_false_iff_eq, Bool.true_eq_false, Bool.false_eq_true, ne_eq, not_true_eq_false] at hc <;> first | exact absurd rfl hc | (exfalso; first | exact absurd rfl hc | omega) | skip) | skip)) | (refine And.intro (by first | exact trivial | decide | omega | (dsimp only; omega) | exact fun _ _ => rfl | exact ⟨by assumption, by first | exact trivial | decide | omega | (dsimp only; omega)⟩) ?_) | (apply And.intro) | (intro s hs; skip) | (refine Exists.intro _ (And.intro ⟨rfl, rfl, rfl⟩ ?_)))
    refine sem_step (wd := 1) (Q := mkQ (LMa g0)) (by decide) tysOk (q_of (LMa_ok g0)) mixed ?_
    repeat' (first | (simp only [w2, w3]) | (apply And.intro <;> intro hc <;> (first | exact Bool.noConfusion hc | (exfalso; first | exact absurd rfl hc | omega) | (simp only [decide_eq_true_eq, decide_eq_false_iff_not, Bool.not_eq_true', Bool.not_eq_false', beq_iff_eq, beq_eq_false_iff_ne, bne_iff_ne, bne_eq_false_iff_eq, Bool.true_eq_false, Bool.false_eq_true, ne_eq, not_true_eq_false] at hc <;> first | exact absurd rfl hc | (exfalso; first | exact absurd rfl hc | omega) | skip) | skip)) | (refine And.intro (by first | exact trivial | decide | omega | (dsimp only; omega) | exact fun _ _ => rfl | exact ⟨by assumption, by first | exact trivial | decide | omega | (dsimp only; omega)⟩) ?_) | (apply And.intro) | (intro s hs; skip) | (refine Exists.intro _ (And.intro ⟨rfl, rfl, rfl⟩ ?_)))
    refine sem_exec (wd := 1) (Q := mkQ (LMa g0)) (by decide) tysOk (q_of (LMa_ok g0)) mixed ?_
    repeat' (first | (simp only [w2, w3]) | (apply And.intro <;> intro hc <;> (first | exact Bool.noConfusion hc | (exfalso; first | exact absurd rfl hc | omega) | (simp only [decide_eq_true_eq, decide_eq_false_iff_not, Bool.not_eq_true', Bool.not_eq_false', beq_iff_eq, beq_eq_false_iff_ne, bne_iff_ne, bne_eq_false_iff_eq, Bool.true_eq_false, Bool.false_eq_true, ne_eq, not_true_eq_false] at hc <;> first | exact absurd rfl hc | (exfalso; first | exact absurd rfl hc | omega) | skip) | skip)) | (refine And.intro (by first | exact trivial | decide | omega | (dsimp only; omega) | exact fun _ _ => rfl | exact ⟨by assumption, by first | exact trivial | decide | omega | (dsimp only; omega)⟩) ?_) | (apply And.intro) | (intro s hs; skip) | (refine Exists.intro _ (And.intro ⟨rfl, rfl, rfl⟩ ?_)))
    conv => whnf
    have hAl : (addSd sd (newH c now draw) i).held.length = sd.held.length + 1 := insA_len hle1
    refine fin_acc (s := addSd sd (newH c now draw) i) (d := 44) hR2 ha rfl (fun p h j => (updE_ne h).trans (rowA_ne h)) rfl rfl (by rw [hAl]; rfl) rfl rfl hAl.symm rfl fun q hq j hj => ?_
    rw [hAl] at hq
    show LeC _ _ (rowN neH (insA i (newH c now draw) sd.held) q j)
    refine ins_cells (r := rowN neH sd.held) hle1 ?_ hq (fun h => ?_) (fun h => ?_) (fun h => ?_)
    · show min (sd.held.length + 1 - i) (sd.held.length + 1 - (i + 1)) = _
      omega
    · rw [show rowN neH (insA i (newH c now draw) sd.held) q j = rowN neH sd.held q j from congrArg (fun z => neH.cell z j) (insA_lt hle1 h)]
      exact (neH.sh _ j hj).le
    · subst h
      rw [show rowN neH (insA q (newH c now draw) sd.held) q j = neH.cell (newH c now draw) j from congrArg (fun z => neH.cell z j) (insA_eq hle1)]
      have e0 : newH c now draw = ⟨c.num, c.data, tr.1, if 1099511627776 < now + 20 then 1099511627776 else now + 20⟩ := by unfold newH; rw [hT]
      rw [e0]
      iterate 11 (rcases j with _ | j; · first | exact leC_int rfl | exact leC_bool rfl | exact leC_os_sl rfl rfl rfl (by first | rfl | exact Nat.zero_add _) (by first | exact Nat.le_refl _ | (simp; done)) fun q hq j hj => leC_cell (E := eB) (congrArg (fun z => c.data.getD z default) (Nat.zero_add q)))
      exact absurd hj (by omega)
    · rw [show rowN neH (insA i (newH c now draw) sd.held) q j = rowN neH sd.held (q - 1) j from congrArg (fun z => neH.cell z j) (insA_gt hle1 h)]
      exact (neH.sh _ j hj).le
set_option maxHeartbeats 8000000 in
set_option maxRecDepth 20000 in
theorem acc3_1 (g0 : Nat) (L : List Sed) (a : Nat) (sd : Sed) (now : Int) (c : Cas) (deaf : Bool) (draw : Int) (hI : AcJ L a sd now c draw) (R : List Sed × Bool × Int) (hR : R = (L.set a (if deaf = true then raiseS sd (c.num + 1) else addSd sd (newH c now draw) (plcH c.num sd.held 0).1), !deaf, 0)) (a3 : a = 1) :
    Sem Try.prog Try.f11.ntmps 0 (dropC 11 (Try.f11.body.getD Code.ret)) (SB L a sd now c deaf draw ()).fr (SB L a sd now c deaf draw ()).H (SB L a sd now c deaf draw ()).nx (endH T Try.f11.results.toList fun x H _ => FinN (some R.1.length) (encAc R) (entN neS 78 R.1) x H) := by
  obtain ⟨ha, hn, hk, hh, hnum, hd, hnow, hdr⟩ := hI
  unfold SB
  subst a3
  have w1 : IntKind.i64.wrap (c.num + 1) = c.num + 1 := IntWalk.i64_in _ (by omega)
  have w2 : IntKind.i64.wrap (now + 20) = now + 20 := IntWalk.i64_in _ (by omega)
  cases deaf with
  | true =>
    refine sem_step (wd := 1024) (Q := mkQ (LMa g0)) (by decide) tysOk (q_of (LMa_ok g0)) mixed ?_
    repeat' (first | (simp only [w1]) | (apply And.intro <;> intro hc <;> (first | exact Bool.noConfusion hc | (exfalso; first | exact absurd rfl hc | omega) | (simp only [decide_eq_true_eq, decide_eq_false_iff_not, Bool.not_eq_true', Bool.not_eq_false', beq_iff_eq, beq_eq_false_iff_ne, bne_iff_ne, bne_eq_false_iff_eq, Bool.true_eq_false, Bool.false_eq_true, ne_eq, not_true_eq_false] at hc <;> first | exact absurd rfl hc | (exfalso; first | exact absurd rfl hc | omega) | skip) | skip)) | (refine And.intro (by first | exact trivial | decide | omega | (dsimp only; omega) | exact fun _ _ => rfl | exact ⟨by assumption, by first | exact trivial | decide | omega | (dsimp only; omega)⟩) ?_) | (apply And.intro) | (intro s hs; skip) | (refine Exists.intro _ (And.intro ⟨rfl, rfl, rfl⟩ ?_)))
    · exact rfl
    · conv => whnf
      refine fin_acc (s := sd) (d := 2) (hR.trans ?_) ha rfl (fun p h j => rowA_ne h) rfl rfl rfl rfl rfl rfl rfl fun q hq j hj => (neH.sh _ j hj).le
      rw [if_pos rfl, show raiseS sd (c.num + 1) = sd from if_pos hc]; rfl
    · exact ⟨rfl, okD_sl _⟩
    · exact Eq.mpr (congrArg KpI (toN_row0 neH_rd _)) hk
    · conv => whnf
      have q : sd.held.filter (wantB (some (c.num + 1))) = s := (hs.trans (by rw [toN_row0 neH_rd])).symm
      clear hs
      refine fin_acc (s := ⟨sd.id, c.num + 1, s⟩) (d := 5141) (hR.trans ?_) ha rfl (fun p h j => (updE_ne h).trans ((updE_ne h).trans (rowA_ne h))) rfl rfl rfl rfl rfl rfl rfl fun q hq j hj => (neH.sh _ j hj).le
      rw [if_pos rfl, show raiseS sd (c.num + 1) = ⟨sd.id, c.num + 1, s⟩ from (if_neg hc).trans (by rw [q])]; rfl
  | false =>
    obtain ⟨⟨i, b⟩, hP⟩ : ∃ P, plcH c.num sd.held 0 = P := ⟨_, rfl⟩
    have hle := plc_le (id := c.num) (L := sd.held) (k := 0)
    rw [hP, Nat.zero_add] at hle
    dsimp only at hle
    obtain ⟨hle1, _, _⟩ := hle
    have hR2 : R = (L.set 1 (addSd sd (newH c now draw) i), true, 0) := by rw [hR, hP]; rfl
    clear hR
    have w3 : IntKind.i64.wrap ((i : Int) + 1) = ((i + 1 : Nat) : Int) := (IntWalk.i64_in _ (by omega)).trans (by omega)
    obtain ⟨tr, hT⟩ : ∃ r, newT 2 3 2 now draw = r := ⟨_, rfl⟩
    refine sem_step (wd := 1) (Q := mkQ (LMa g0)) (by decide) tysOk (q_of (LMa_ok g0)) mixed ?_
    repeat' (first | (simp only [w2]) | (apply And.intro <;> intro hc <;> (first | exact Bool.noConfusion hc | (exfalso; first | exact absurd rfl hc | omega) | (simp only [decide_eq_true_eq, decide_eq_false_iff_not, Bool.not_eq_true', Bool.not_eq_false', beq_iff_eq, beq_eq_false_iff_ne, bne_iff_ne, bne_eq_false_iff_eq, Bool.true_eq_false, Bool.false_eq_true, ne_eq, not_true_eq_false] at hc <;> first | exact absurd rfl hc | (exfalso; first | exact absurd rfl hc | omega) | skip) | skip)) | (refine And.intro (by first | exact trivial | decide | omega | (dsimp only; omega) | exact fun _ _ => rfl | exact ⟨by assumption, by first | exact trivial | decide | omega | (dsimp only; omega)⟩) ?_) | (apply And.intro) | (intro s hs; skip) | (refine Exists.intro _ (And.intro ⟨rfl, rfl, rfl⟩ ?_)))
    refine sem_step (wd := 1) (Q := mkQ (LMa g0)) (by decide) tysOk (q_of (LMa_ok g0)) mixed ?_
    repeat' (first | (simp only [w2]) | (apply And.intro <;> intro hc <;> (first | exact Bool.noConfusion hc | (exfalso; first | exact absurd rfl hc | omega) | (simp only [decide_eq_true_eq, decide_eq_false_iff_not, Bool.not_eq_true', Bool.not_eq_false', beq_iff_eq, beq_eq_false_iff_ne, bne_iff_ne, bne_eq_false_iff_eq, Bool.true_eq_false, Bool.false_eq_true, ne_eq, not_true_eq_false] at hc <;> first | exact absurd rfl hc | (exfalso; first | exact absurd rfl hc | omega) | skip) | skip)) | (refine And.intro (by first | exact trivial | decide | omega | (dsimp only; omega) | exact fun _ _ => rfl | exact ⟨by assumption, by first | exact trivial | decide | omega | (dsimp only; omega)⟩) ?_) | (apply And.intro) | (intro s hs; (have q : tr = s := hT.symm.trans hs.symm; clear hs; subst q)) | (refine Exists.intro _ (And.intro ⟨rfl, rfl, rfl⟩ ?_)))
    refine sem_step (wd := 1) (Q := mkQ (LMa g0)) (by decide) tysOk (q_of (LMa_ok g0)) mixed ?_
    repeat' (first | (simp only [w2]) | (apply And.intro <;> intro hc <;> (first | exact Bool.noConfusion hc | (exfalso; first | exact absurd rfl hc | omega) | (simp only [decide_eq_true_eq, decide_eq_false_iff_not, Bool.not_eq_true', Bool.not_eq_false', beq_iff_eq, beq_eq_false_iff_ne, bne_iff_ne, bne_eq_false_iff_eq, Bool.true_eq_false, Bool.false_eq_true, ne_eq, not_true_eq_false] at hc <;> first | exact absurd rfl hc | (exfalso; first | exact absurd rfl hc | omega) | skip) | skip)) | (refine And.intro (by first | exact trivial | decide | omega | (dsimp only; omega) | exact fun _ _ => rfl | exact ⟨by assumption, by first | exact trivial | decide | omega | (dsimp only; omega)⟩) ?_) | (apply And.intro) | (intro s hs; skip) | (refine Exists.intro _ (And.intro ⟨rfl, rfl, rfl⟩ ?_)))
    refine sem_step (wd := 1) (Q := mkQ (LMa g0)) (by decide) tysOk (q_of (LMa_ok g0)) mixed ?_
    repeat' (first | (simp only [w2, w3]) | (apply And.intro <;> intro hc <;> (first | exact Bool.noConfusion hc | (exfalso; first | exact absurd rfl hc | omega) | (simp only [decide_eq_true_eq, decide_eq_false_iff_not, Bool.not_eq_true', Bool.not_eq_false', beq_iff_eq, beq_eq_false_iff_ne, bne_iff_ne, bne_eq_false_iff_eq, Bool.true_eq_false, Bool.false_eq_true, ne_eq, not_true_eq_false] at hc <;> first | exact absurd rfl hc | (exfalso; first | exact absurd rfl hc | omega) | skip) | skip)) | (refine And.intro (by first | exact trivial | decide | omega | (dsimp only; omega) | exact fun _ _ => rfl | exact ⟨by assumption, by first | exact trivial | decide | omega | (dsimp only; omega)⟩) ?_) | (apply And.intro) | (intro s hs; (have q := rd_plc hs (toN_row0 neH_rd _) hP; clear hs; subst q)) | (refine Exists.intro _ (And.intro ⟨rfl, rfl, rfl⟩ ?_)))
    · exact fun _ _ => ⟨rfl, okD_sl _⟩
    · exact Eq.mpr (congrArg (fun z : List Hel => z.length ≤ 9223372036854775807) (toN_row0 neH_rd _)) (by omega)
    refine sem_step (wd := 1) (Q := mkQ (LMa g0)) (by decide) tysOk (q_of (LMa_ok g0)) mixed ?_
    repeat' (first | (simp only [w2, w3]) | (apply And.intro <;> intro hc <;> (first | exact Bool.noConfusion hc | (exfalso; first | exact absurd rfl hc | omega) | (simp only [decide_eq_true_eq, decide_eq_false_iff_not, Bool.not_eq_true', Bool.not_eq_false', beq_iff_eq, beq_eq_false_iff_ne, bne_iff_ne, bne_eq_false_iff_eq, Bool.true_eq_false, Bool.false_eq_true, ne_eq, not_true_eq_false] at hc <;> first | exact absurd rfl hc | (exfalso; first | exact absurd rfl hc | omega) | skip) | skip)) | (refine And.intro (by first | exact trivial | decide | omega | (dsimp only; omega) | exact fun _ _ => rfl | exact ⟨by assumption, by first | exact trivial | decide | omega | (dsimp only; omega)⟩) ?_) | (apply And.intro) | (intro s hs; skip) | (refine Exists.intro _ (And.intro ⟨rfl, rfl, rfl⟩ ?_)))
    refine sem_step (wd := 1) (Q := mkQ (LMa g0)) (by decide) tysOk (q_of (LMa_ok g0)) mixed ?_
    repeat' (first | (simp only [w2, w3]) | (apply And.intro <;> intro hc <;> (first | exact Bool.noConfusion hc | (exfalso; first | exact absurd rfl hc | omega) | (simp only [decide_eq_true_eq, decide_eq_false_iff_not, Bool.not_eq_true', Bool.not_eq_false', beq_iff_eq, beq_eq_false_iff_ne, bne_iff_ne, bne_eq_false_iff_eq, Bool.true_eq_false, Bool.false_eq_true, ne_eq, not_true_eq_false] at hc <;> first | exact absurd rfl hc | (exfalso; first | exact absurd rfl hc | omega) | skip) | skip)) | (refine And.intro (by first | exact trivial | decide | omega | (dsimp only; omega) | exact fun _ _ => rfl | exact ⟨by assumption, by first | exact trivial | decide | omega | (dsimp only; omega)⟩) ?_) | (apply And.intro) | (intro s hs; skip) | (refine Exists.intro _ (And.intro ⟨rfl, rfl, rfl⟩ ?_)))
    refine sem_exec (wd := 1) (Q := mkQ (LMa g0)) (by decide) tysOk (q_of (LMa_ok g0)) mixed ?_
    repeat' (first | (simp only [w2, w3]) | (apply And.intro <;> intro hc <;> (first | exact Bool.noConfusion hc | (exfalso; first | exact absurd rfl hc | omega) | (simp only [decide_eq_true_eq, decide_eq_false_iff_not, Bool.not_eq_true', Bool.not_eq_false', beq_iff_eq, beq_eq_false_iff_ne, bne_iff_ne, bne_eq_false_iff_eq, Bool.true_eq_false, Bool.false_eq_true, ne_eq, not_true_eq_false] at hc <;> first | exact absurd rfl hc | (exfalso; first | exact absurd rfl hc | omega) | skip) | skip)) | (refine And.intro (by first | exact trivial | decide | omega | (dsimp only; omega) | exact fun _ _ => rfl | exact ⟨by assumption, by first | exact trivial | decide | omega | (dsimp only; omega)⟩) ?_) | (apply And.intro) | (intro s hs; skip) | (refine Exists.intro _ (And.intro ⟨rfl, rfl, rfl⟩ ?_)))
    conv => whnf
    have hAl : (addSd sd (newH c now draw) i).held.length = sd.held.length + 1 := insA_len hle1
    refine fin_acc (s := addSd sd (newH c now draw) i) (d := 44) hR2 ha rfl (fun p h j => (updE_ne h).trans (rowA_ne h)) rfl rfl (by rw [hAl]; rfl) rfl rfl hAl.symm rfl fun q hq j hj => ?_
    rw [hAl] at hq
    show LeC _ _ (rowN neH (insA i (newH c now draw) sd.held) q j)
    refine ins_cells (r := rowN neH sd.held) hle1 ?_ hq (fun h => ?_) (fun h => ?_) (fun h => ?_)
    · show min (sd.held.length + 1 - i) (sd.held.length + 1 - (i + 1)) = _
      omega
    · rw [show rowN neH (insA i (newH c now draw) sd.held) q j = rowN neH sd.held q j from congrArg (fun z => neH.cell z j) (insA_lt hle1 h)]
      exact (neH.sh _ j hj).le
    · subst h
      rw [show rowN neH (insA q (newH c now draw) sd.held) q j = neH.cell (newH c now draw) j from congrArg (fun z => neH.cell z j) (insA_eq hle1)]
      have e0 : newH c now draw = ⟨c.num, c.data, tr.1, if 1099511627776 < now + 20 then 1099511627776 else now + 20⟩ := by unfold newH; rw [hT]
      rw [e0]
      iterate 11 (rcases j with _ | j; · first | exact leC_int rfl | exact leC_bool rfl | exact leC_os_sl rfl rfl rfl (by first | rfl | exact Nat.zero_add _) (by first | exact Nat.le_refl _ | (simp; done)) fun q hq j hj => leC_cell (E := eB) (congrArg (fun z => c.data.getD z default) (Nat.zero_add q)))
      exact absurd hj (by omega)
    · rw [show rowN neH (insA i (newH c now draw) sd.held) q j = rowN neH sd.held (q - 1) j from congrArg (fun z => neH.cell z j) (insA_gt hle1 h)]
      exact (neH.sh _ j hj).le
set_option maxHeartbeats 8000000 in
set_option maxRecDepth 20000 in
theorem acc3_2 (g0 : Nat) (L : List Sed) (a : Nat) (sd : Sed) (now : Int) (c : Cas) (deaf : Bool) (draw : Int) (hI : AcJ L a sd now c draw) (R : List Sed × Bool × Int) (hR : R = (L.set a (if deaf = true then raiseS sd (c.num + 1) else addSd sd (newH c now draw) (plcH c.num sd.held 0).1), !deaf, 0)) (a3 : a = 2) :
    Sem Try.prog Try.f11.ntmps 0 (dropC 11 (Try.f11.body.getD Code.ret)) (SB L a sd now c deaf draw ()).fr (SB L a sd now c deaf draw ()).H (SB L a sd now c deaf draw ()).nx (endH T Try.f11.results.toList fun x H _ => FinN (some R.1.length) (encAc R) (entN neS 78 R.1) x H) := by
  obtain ⟨ha, hn, hk, hh, hnum, hd, hnow, hdr⟩ := hI
  unfold SB
  subst a3
  have w1 : IntKind.i64.wrap (c.num + 1) = c.num + 1 := IntWalk.i64_in _ (by omega)
  have w2 : IntKind.i64.wrap (now + 20) = now + 20 := IntWalk.i64_in _ (by omega)
  cases deaf with
  | true =>
    refine sem_step (wd := 1024) (Q := mkQ (LMa g0)) (by decide) tysOk (q_of (LMa_ok g0)) mixed ?_
    repeat' (first | (simp only [w1]) | (apply And.intro <;> intro hc <;> (first | exact Bool.noConfusion hc | (exfalso; first | exact absurd rfl hc | omega) | (simp only [decide_eq_true_eq, decide_eq_false_iff_not, Bool.not_eq_true', Bool.not_eq_false', beq_iff_eq, beq_eq_false_iff_ne, bne_iff_ne, bne_eq_false_iff_eq, Bool.true_eq_false, Bool.false_eq_true, ne_eq, not_true_eq_false] at hc <;> first | exact absurd rfl hc | (exfalso; first | exact absurd rfl hc | omega) | skip) | skip)) | (refine And.intro (by first | exact trivial | decide | omega | (dsimp only; omega) | exact fun _ _ => rfl | exact ⟨by assumption, by first | exact trivial | decide | omega | (dsimp only; omega)⟩) ?_) | (apply And.intro) | (intro s hs; skip) | (refine Exists.intro _ (And.intro ⟨rfl, rfl, rfl⟩ ?_)))
    · exact rfl
    · conv => whnf
      refine fin_acc (s := sd) (d := 2) (hR.trans ?_) ha rfl (fun p h j => rowA_ne h) rfl rfl rfl rfl rfl rfl rfl fun q hq j hj => (neH.sh _ j hj).le
      rw [if_pos rfl, show raiseS sd (c.num + 1) = sd from if_pos hc]; rfl
    · exact ⟨rfl, okD_sl _⟩
    · exact Eq.mpr (congrArg KpI (toN_row0 neH_rd _)) hk
    · conv => whnf
      have q : sd.held.filter (wantB (some (c.num + 1))) = s := (hs.trans (by rw [toN_row0 neH_rd])).symm
      clear hs
      refine fin_acc (s := ⟨sd.id, c.num + 1, s⟩) (d := 5141) (hR.trans ?_) ha rfl (fun p h j => (updE_ne h).trans ((updE_ne h).trans (rowA_ne h))) rfl rfl rfl rfl rfl rfl rfl fun q hq j hj => (neH.sh _ j hj).le
      rw [if_pos rfl, show raiseS sd (c.num + 1) = ⟨sd.id, c.num + 1, s⟩ from (if_neg hc).trans (by rw [q])]; rfl
  | false =>
    obtain ⟨⟨i, b⟩, hP⟩ : ∃ P, plcH c.num sd.held 0 = P := ⟨_, rfl⟩
    have hle := plc_le (id := c.num) (L := sd.held) (k := 0)
    rw [hP, Nat.zero_add] at hle
    dsimp only at hle
    obtain ⟨hle1, _, _⟩ := hle
    have hR2 : R = (L.set 2 (addSd sd (newH c now draw) i), true, 0) := by rw [hR, hP]; rfl
    clear hR
    have w3 : IntKind.i64.wrap ((i : Int) + 1) = ((i + 1 : Nat) : Int) := (IntWalk.i64_in _ (by omega)).trans (by omega)
    obtain ⟨tr, hT⟩ : ∃ r, newT 2 3 2 now draw = r := ⟨_, rfl⟩
    refine sem_step (wd := 1) (Q := mkQ (LMa g0)) (by decide) tysOk (q_of (LMa_ok g0)) mixed ?_
    repeat' (first | (simp only [w2]) | (apply And.intro <;> intro hc <;> (first | exact Bool.noConfusion hc | (exfalso; first | exact absurd rfl hc | omega) | (simp only [decide_eq_true_eq, decide_eq_false_iff_not, Bool.not_eq_true', Bool.not_eq_false', beq_iff_eq, beq_eq_false_iff_ne, bne_iff_ne, bne_eq_false_iff_eq, Bool.true_eq_false, Bool.false_eq_true, ne_eq, not_true_eq_false] at hc <;> first | exact absurd rfl hc | (exfalso; first | exact absurd rfl hc | omega) | skip) | skip)) | (refine And.intro (by first | exact trivial | decide | omega | (dsimp only; omega) | exact fun _ _ => rfl | exact ⟨by assumption, by first | exact trivial | decide | omega | (dsimp only; omega)⟩) ?_) | (apply And.intro) | (intro s hs; skip) | (refine Exists.intro _ (And.intro ⟨rfl, rfl, rfl⟩ ?_)))
    refine sem_step (wd := 1) (Q := mkQ (LMa g0)) (by decide) tysOk (q_of (LMa_ok g0)) mixed ?_
    repeat' (first | (simp only [w2]) | (apply And.intro <;> intro hc <;> (first | exact Bool.noConfusion hc | (exfalso; first | exact absurd rfl hc | omega) | (simp only [decide_eq_true_eq, decide_eq_false_iff_not, Bool.not_eq_true', Bool.not_eq_false', beq_iff_eq, beq_eq_false_iff_ne, bne_iff_ne, bne_eq_false_iff_eq, Bool.true_eq_false, Bool.false_eq_true, ne_eq, not_true_eq_false] at hc <;> first | exact absurd rfl hc | (exfalso; first | exact absurd rfl hc | omega) | skip) | skip)) | (refine And.intro (by first | exact trivial | decide | omega | (dsimp only; omega) | exact fun _ _ => rfl | exact ⟨by assumption, by first | exact trivial | decide | omega | (dsimp only; omega)⟩) ?_) | (apply And.intro) | (intro s hs; (have q : tr = s := hT.symm.trans hs.symm; clear hs; subst q)) | (refine Exists.intro _ (And.intro ⟨rfl, rfl, rfl⟩ ?_)))
    refine sem_step (wd := 1) (Q := mkQ (LMa g0)) (by decide) tysOk (q_of (LMa_ok g0)) mixed ?_
    repeat' (first | (simp only [w2]) | (apply And.intro <;> intro hc <;> (first | exact Bool.noConfusion hc | (exfalso; first | exact absurd rfl hc | omega) | (simp only [decide_eq_true_eq, decide_eq_false_iff_not, Bool.not_eq_true', Bool.not_eq_false', beq_iff_eq, beq_eq_false_iff_ne, bne_iff_ne, bne_eq_false_iff_eq, Bool.true_eq_false, Bool.false_eq_true, ne_eq, not_true_eq_false] at hc <;> first | exact absurd rfl hc | (exfalso; first | exact absurd rfl hc | omega) | skip) | skip)) | (refine And.intro (by first | exact trivial | decide | omega | (dsimp only; omega) | exact fun _ _ => rfl | exact ⟨by assumption, by first | exact trivial | decide | omega | (dsimp only; omega)⟩) ?_) | (apply And.intro) | (intro s hs; skip) | (refine Exists.intro _ (And.intro ⟨rfl, rfl, rfl⟩ ?_)))
    refine sem_step (wd := 1) (Q := mkQ (LMa g0)) (by decide) tysOk (q_of (LMa_ok g0)) mixed ?_
    repeat' (first | (simp only [w2, w3]) | (apply And.intro <;> intro hc <;> (first | exact Bool.noConfusion hc | (exfalso; first | exact absurd rfl hc | omega) | (simp only [decide_eq_true_eq, decide_eq_false_iff_not, Bool.not_eq_true', Bool.not_eq_false', beq_iff_eq, beq_eq_false_iff_ne, bne_iff_ne, bne_eq_false_iff_eq, Bool.true_eq_false, Bool.false_eq_true, ne_eq, not_true_eq_false] at hc <;> first | exact absurd rfl hc | (exfalso; first | exact absurd rfl hc | omega) | skip) | skip)) | (refine And.intro (by first | exact trivial | decide | omega | (dsimp only; omega) | exact fun _ _ => rfl | exact ⟨by assumption, by first | exact trivial | decide | omega | (dsimp only; omega)⟩) ?_) | (apply And.intro) | (intro s hs; (have q := rd_plc hs (toN_row0 neH_rd _) hP; clear hs; subst q)) | (refine Exists.intro _ (And.intro ⟨rfl, rfl, rfl⟩ ?_)))
    · exact fun _ _ => ⟨rfl, okD_sl _⟩
    · exact Eq.mpr (congrArg (fun z : List Hel => z.length ≤ 9223372036854775807) (toN_row0 neH_rd _)) (by omega)
    refine sem_step (wd := 1) (Q := mkQ (LMa g0)) (by decide) tysOk (q_of (LMa_ok g0)) mixed ?_
    repeat' (first | (simp only [w2, w3]) | (apply And.intro <;> intro hc <;> (first | exact Bool.noConfusion hc | (exfalso; first | exact absurd rfl hc | omega) | (simp only [decide_eq_true_eq, decide_eq_false_iff_not, Bool.not_eq_true', Bool.not_eq_false', beq_iff_eq, beq_eq_false_iff_ne, bne_iff_ne, bne_eq_false_iff_eq, Bool.true_eq_false, Bool.false_eq_true, ne_eq, not_true_eq_false] at hc <;> first | exact absurd rfl hc | (exfalso; first | exact absurd rfl hc | omega) | skip) | skip)) | (refine And.intro (by first | exact trivial | decide | omega | (dsimp only; omega) | exact fun _ _ => rfl | exact ⟨by assumption, by first | exact trivial | decide | omega | (dsimp only; omega)⟩) ?_) | (apply And.intro) | (intro s hs; skip) | (refine Exists.intro _ (And.intro ⟨rfl, rfl, rfl⟩ ?_)))
    refine sem_step (wd := 1) (Q := mkQ (LMa g0)) (by decide) tysOk (q_of (LMa_ok g0)) mixed ?_
    repeat' (first | (simp only [w2, w3]) | (apply And.intro <;> intro hc <;> (first | exact Bool.noConfusion hc | (exfalso; first | exact absurd rfl hc | omega) | (simp only [decide_eq_true_eq, decide_eq_false_iff_not, Bool.not_eq_true', Bool.not_eq_false', beq_iff_eq, beq_eq_false_iff_ne, bne_iff_ne, bne_eq_false_iff_eq, Bool.true_eq_false, Bool.false_eq_true, ne_eq, not_true_eq_false] at hc <;> first | exact absurd rfl hc | (exfalso; first | exact absurd rfl hc | omega) | skip) | skip)) | (refine And.intro (by first | exact trivial | decide | omega | (dsimp only; omega) | exact fun _ _ => rfl | exact ⟨by assumption, by first | exact trivial | decide | omega | (dsimp only; omega)⟩) ?_) | (apply And.intro) | (intro s hs; skip) | (refine Exists.intro _ (And.intro ⟨rfl, rfl, rfl⟩ ?_)))
    refine sem_exec (wd := 1) (Q := mkQ (LMa g0)) (by decide) tysOk (q_of (LMa_ok g0)) mixed ?_
    repeat' (first | (simp only [w2, w3]) | (apply And.intro <;> intro hc <;> (first | exact Bool.noConfusion hc | (exfalso; first | exact absurd rfl hc | omega) | (simp only [decide_eq_true_eq, decide_eq_false_iff_not, Bool.not_eq_true', Bool.not_eq_false', beq_iff_eq, beq_eq_false_iff_ne, bne_iff_ne, bne_eq_false_iff_eq, Bool.true_eq_false, Bool.false_eq_true, ne_eq, not_true_eq_false] at hc <;> first | exact absurd rfl hc | (exfalso; first | exact absurd rfl hc | omega) | skip) | skip)) | (refine And.intro (by first | exact trivial | decide | omega | (dsimp only; omega) | exact fun _ _ => rfl | exact ⟨by assumption, by first | exact trivial | decide | omega | (dsimp only; omega)⟩) ?_) | (apply And.intro) | (intro s hs; skip) | (refine Exists.intro _ (And.intro ⟨rfl, rfl, rfl⟩ ?_)))
    conv => whnf
    have hAl : (addSd sd (newH c now draw) i).held.length = sd.held.length + 1 := insA_len hle1
    refine fin_acc (s := addSd sd (newH c now draw) i) (d := 44) hR2 ha rfl (fun p h j => (updE_ne h).trans (rowA_ne h)) rfl rfl (by rw [hAl]; rfl) rfl rfl hAl.symm rfl fun q hq j hj => ?_
    rw [hAl] at hq
    show LeC _ _ (rowN neH (insA i (newH c now draw) sd.held) q j)
    refine ins_cells (r := rowN neH sd.held) hle1 ?_ hq (fun h => ?_) (fun h => ?_) (fun h => ?_)
    · show min (sd.held.length + 1 - i) (sd.held.length + 1 - (i + 1)) = _
      omega
    · rw [show rowN neH (insA i (newH c now draw) sd.held) q j = rowN neH sd.held q j from congrArg (fun z => neH.cell z j) (insA_lt hle1 h)]
      exact (neH.sh _ j hj).le
    · subst h
      rw [show rowN neH (insA q (newH c now draw) sd.held) q j = neH.cell (newH c now draw) j from congrArg (fun z => neH.cell z j) (insA_eq hle1)]
      have e0 : newH c now draw = ⟨c.num, c.data, tr.1, if 1099511627776 < now + 20 then 1099511627776 else now + 20⟩ := by unfold newH; rw [hT]
      rw [e0]
      iterate 11 (rcases j with _ | j; · first | exact leC_int rfl | exact leC_bool rfl | exact leC_os_sl rfl rfl rfl (by first | rfl | exact Nat.zero_add _) (by first | exact Nat.le_refl _ | (simp; done)) fun q hq j hj => leC_cell (E := eB) (congrArg (fun z => c.data.getD z default) (Nat.zero_add q)))
      exact absurd hj (by omega)
    · rw [show rowN neH (insA i (newH c now draw) sd.held) q j = rowN neH sd.held (q - 1) j from congrArg (fun z => neH.cell z j) (insA_gt hle1 h)]
      exact (neH.sh _ j hj).le
set_option maxHeartbeats 8000000 in
set_option maxRecDepth 20000 in
theorem acc3_3 (g0 : Nat) (L : List Sed) (a : Nat) (sd : Sed) (now : Int) (c : Cas) (deaf : Bool) (draw : Int) (hI : AcJ L a sd now c draw) (R : List Sed × Bool × Int) (hR : R = (L.set a (if deaf = true then raiseS sd (c.num + 1) else addSd sd (newH c now draw) (plcH c.num sd.held 0).1), !deaf, 0)) (a3 : a = 3) :
    Sem Try.prog Try.f11.ntmps 0 (dropC 11 (Try.f11.body.getD Code.ret)) (SB L a sd now c deaf draw ()).fr (SB L a sd now c deaf draw ()).H (SB L a sd now c deaf draw ()).nx (endH T Try.f11.results.toList fun x H _ => FinN (some R.1.length) (encAc R) (entN neS 78 R.1) x H) := by
  obtain ⟨ha, hn, hk, hh, hnum, hd, hnow, hdr⟩ := hI
  unfold SB
  subst a3
  have w1 : IntKind.i64.wrap (c.num + 1) = c.num + 1 := IntWalk.i64_in _ (by omega)
  have w2 : IntKind.i64.wrap (now + 20) = now + 20 := IntWalk.i64_in _ (by omega)
  cases deaf with
  | true =>
    refine sem_step (wd := 1024) (Q := mkQ (LMa g0)) (by decide) tysOk (q_of (LMa_ok g0)) mixed ?_
    repeat' (first | (simp only [w1]) | (apply And.intro <;> intro hc <;> (first | exact Bool.noConfusion hc | (exfalso; first | exact absurd rfl hc | omega) | (simp only [decide_eq_true_eq, decide_eq_false_iff_not, Bool.not_eq_true', Bool.not_eq_false', beq_iff_eq, beq_eq_false_iff_ne, bne_iff_ne, bne_eq_false_iff_eq, Bool.true_eq_false, Bool.false_eq_true, ne_eq, not_true_eq_false] at hc <;> first | exact absurd rfl hc | (exfalso; first | exact absurd rfl hc | omega) | skip) | skip)) | (refine And.intro (by first | exact trivial | decide | omega | (dsimp only; omega) | exact fun _ _ => rfl | exact ⟨by assumption, by first | exact trivial | decide | omega | (dsimp only; omega)⟩) ?_) | (apply And.intro) | (intro s hs; skip) | (refine Exists.intro _ (And.intro ⟨rfl, rfl, rfl⟩ ?_)))
    · exact rfl
    · conv => whnf
      refine fin_acc (s := sd) (d := 2) (hR.trans ?_) ha rfl (fun p h j => rowA_ne h) rfl rfl rfl rfl rfl rfl rfl fun q hq j hj => (neH.sh _ j hj).le
      rw [if_pos rfl, show raiseS sd (c.num + 1) = sd from if_pos hc]; rfl
    · exact ⟨rfl, okD_sl _⟩
    · exact Eq.mpr (congrArg KpI (toN_row0 neH_rd _)) hk
    · conv => whnf
      have q : sd.held.filter (wantB (some (c.num + 1))) = s := (hs.trans (by rw [toN_row0 neH_rd])).symm
      clear hs
      refine fin_acc (s := ⟨sd.id, c.num + 1, s⟩) (d := 5141) (hR.trans ?_) ha rfl (fun p h j => (updE_ne h).trans ((updE_ne h).trans (rowA_ne h))) rfl rfl rfl rfl rfl rfl rfl fun q hq j hj => (neH.sh _ j hj).le
      rw [if_pos rfl, show raiseS sd (c.num + 1) = ⟨sd.id, c.num + 1, s⟩ from (if_neg hc).trans (by rw [q])]; rfl
  | false =>
    obtain ⟨⟨i, b⟩, hP⟩ : ∃ P, plcH c.num sd.held 0 = P := ⟨_, rfl⟩
    have hle := plc_le (id := c.num) (L := sd.held) (k := 0)
    rw [hP, Nat.zero_add] at hle
    dsimp only at hle
    obtain ⟨hle1, _, _⟩ := hle
    have hR2 : R = (L.set 3 (addSd sd (newH c now draw) i), true, 0) := by rw [hR, hP]; rfl
    clear hR
    have w3 : IntKind.i64.wrap ((i : Int) + 1) = ((i + 1 : Nat) : Int) := (IntWalk.i64_in _ (by omega)).trans (by omega)
    obtain ⟨tr, hT⟩ : ∃ r, newT 2 3 2 now draw = r := ⟨_, rfl⟩
    refine sem_step (wd := 1) (Q := mkQ (LMa g0)) (by decide) tysOk (q_of (LMa_ok g0)) mixed ?_
    repeat' (first | (simp only [w2]) | (apply And.intro <;> intro hc <;> (first | exact Bool.noConfusion hc | (exfalso; first | exact absurd rfl hc | omega) | (simp only [decide_eq_true_eq, decide_eq_false_iff_not, Bool.not_eq_true', Bool.not_eq_false', beq_iff_eq, beq_eq_false_iff_ne, bne_iff_ne, bne_eq_false_iff_eq, Bool.true_eq_false, Bool.false_eq_true, ne_eq, not_true_eq_false] at hc <;> first | exact absurd rfl hc | (exfalso; first | exact absurd rfl hc | omega) | skip) | skip)) | (refine And.intro (by first | exact trivial | decide | omega | (dsimp only; omega) | exact fun _ _ => rfl | exact ⟨by assumption, by first | exact trivial | decide | omega | (dsimp only; omega)⟩) ?_) | (apply And.intro) | (intro s hs; skip) | (refine Exists.intro _ (And.intro ⟨rfl, rfl, rfl⟩ ?_)))
    refine sem_step (wd := 1) (Q := mkQ (LMa g0)) (by decide) tysOk (q_of (LMa_ok g0)) mixed ?_
    repeat' (first | (simp only [w2]) | (apply And.intro <;> intro hc <;> (first | exact Bool.noConfusion hc | (exfalso; first | exact absurd rfl hc | omega) | (simp only [decide_eq_true_eq, decide_eq_false_iff_not, Bool.not_eq_true', Bool.not_eq_false', beq_iff_eq, beq_eq_false_iff_ne, bne_iff_ne, bne_eq_false_iff_eq, Bool.true_eq_false, Bool.false_eq_true, ne_eq, not_true_eq_false] at hc <;> first | exact absurd rfl hc | (exfalso; first | exact absurd rfl hc | omega) | skip) | skip)) | (refine And.intro (by first | exact trivial | decide | omega | (dsimp only; omega) | exact fun _ _ => rfl | exact ⟨by assumption, by first | exact trivial | decide | omega | (dsimp only; omega)⟩) ?_) | (apply And.intro) | (intro s hs; (have q : tr = s := hT.symm.trans hs.symm; clear hs; subst q)) | (refine Exists.intro _ (And.intro ⟨rfl, rfl, rfl⟩ ?_)))
    refine sem_step (wd := 1) (Q := mkQ (LMa g0)) (by decide) tysOk (q_of (LMa_ok g0)) mixed ?_
    repeat' (first | (simp only [w2]) | (apply And.intro <;> intro hc <;> (first | exact Bool.noConfusion hc | (exfalso; first | exact absurd rfl hc | omega) | (simp only [decide_eq_true_eq, decide_eq_false_iff_not, Bool.not_eq_true', Bool.not_eq_false', beq_iff_eq, beq_eq_false_iff_ne, bne_iff_ne, bne_eq_false_iff_eq, Bool.true_eq_false, Bool.false_eq_true, ne_eq, not_true_eq_false] at hc <;> first | exact absurd rfl hc | (exfalso; first | exact absurd rfl hc | omega) | skip) | skip)) | (refine And.intro (by first | exact trivial | decide | omega | (dsimp only; omega) | exact fun _ _ => rfl | exact ⟨by assumption, by first | exact trivial | decide | omega | (dsimp only; omega)⟩) ?_) | (apply And.intro) | (intro s hs; skip) | (refine Exists.intro _ (And.intro ⟨rfl, rfl, rfl⟩ ?_)))
    refine sem_step (wd := 1) (Q := mkQ (LMa g0)) (by decide) tysOk (q_of (LMa_ok g0)) mixed ?_
    repeat' (first | (simp only [w2, w3]) | (apply And.intro <;> intro hc <;> (first | exact Bool.noConfusion hc | (exfalso; first | exact absurd rfl hc | omega) | (simp only [decide_eq_true_eq, decide_eq_false_iff_not, Bool.not_eq_true', Bool.not_eq_false', beq_iff_eq, beq_eq_false_iff_ne, bne_iff_ne, bne_eq_false_iff_eq, Bool.true_eq_false, Bool.false_eq_true, ne_eq, not_true_eq_false] at hc <;> first | exact absurd rfl hc | (exfalso; first | exact absurd rfl hc | omega) | skip) | skip)) | (refine And.intro (by first | exact trivial | decide | omega | (dsimp only; omega) | exact fun _ _ => rfl | exact ⟨by assumption, by first | exact trivial | decide | omega | (dsimp only; omega)⟩) ?_) | (apply And.intro) | (intro s hs; (have q := rd_plc hs (toN_row0 neH_rd _) hP; clear hs; subst q)) | (refine Exists.intro _ (And.intro ⟨rfl, rfl, rfl⟩ ?_)))
    · exact fun _ _ => ⟨rfl, okD_sl _⟩
    · exact Eq.mpr (congrArg (fun z : List Hel => z.length ≤ 9223372036854775807) (toN_row0 neH_rd _)) (by omega)
    refine sem_step (wd := 1) (Q := mkQ (LMa g0)) (by decide) tysOk (q_of (LMa_ok g0)) mixed ?_
    repeat' (first | (simp only [w2, w3]) | (apply And.intro <;> intro hc <;> (first | exact Bool.noConfusion hc | (exfalso; first | exact absurd rfl hc | omega) | (simp only [decide_eq_true_eq, decide_eq_false_iff_not, Bool.not_eq_true', Bool.not_eq_false', beq_iff_eq, beq_eq_false_iff_ne, bne_iff_ne, bne_eq_false_iff_eq, Bool.true_eq_false, Bool.false_eq_true, ne_eq, not_true_eq_false] at hc <;> first | exact absurd rfl hc | (exfalso; first | exact absurd rfl hc | omega) | skip) | skip)) | (refine And.intro (by first | exact trivial | decide | omega | (dsimp only; omega) | exact fun _ _ => rfl | exact ⟨by assumption, by first | exact trivial | decide | omega | (dsimp only; omega)⟩) ?_) | (apply And.intro) | (intro s hs; skip) | (refine Exists.intro _ (And.intro ⟨rfl, rfl, rfl⟩ ?_)))
    refine sem_step (wd := 1) (Q := mkQ (LMa g0)) (by decide) tysOk (q_of (LMa_ok g0)) mixed ?_
    repeat' (first | (simp only [w2, w3]) | (apply And.intro <;> intro hc <;> (first | exact Bool.noConfusion hc | (exfalso; first | exact absurd rfl hc | omega) | (simp only [decide_eq_true_eq, decide_eq_false_iff_not, Bool.not_eq_true', Bool.not_eq_false', beq_iff_eq, beq_eq_false_iff_ne, bne_iff_ne, bne_eq_false_iff_eq, Bool.true_eq_false, Bool.false_eq_true, ne_eq, not_true_eq_false] at hc <;> first | exact absurd rfl hc | (exfalso; first | exact absurd rfl hc | omega) | skip) | skip)) | (refine And.intro (by first | exact trivial | decide | omega | (dsimp only; omega) | exact fun _ _ => rfl | exact ⟨by assumption, by first | exact trivial | decide | omega | (dsimp only; omega)⟩) ?_) | (apply And.intro) | (intro s hs; skip) | (refine Exists.intro _ (And.intro ⟨rfl, rfl, rfl⟩ ?_)))
    refine sem_exec (wd := 1) (Q := mkQ (LMa g0)) (by decide) tysOk (q_of (LMa_ok g0)) mixed ?_
    repeat' (first | (simp only [w2, w3]) | (apply And.intro <;> intro hc <;> (first | exact Bool.noConfusion hc | (exfalso; first | exact absurd rfl hc | omega) | (simp only [decide_eq_true_eq, decide_eq_false_iff_not, Bool.not_eq_true', Bool.not_eq_false', beq_iff_eq, beq_eq_false_iff_ne, bne_iff_ne, bne_eq_false_iff_eq, Bool.true_eq_false, Bool.false_eq_true, ne_eq, not_true_eq_false] at hc <;> first | exact absurd rfl hc | (exfalso; first | exact absurd rfl hc | omega) | skip) | skip)) | (refine And.intro (by first | exact trivial | decide | omega | (dsimp only; omega) | exact fun _ _ => rfl | exact ⟨by assumption, by first | exact trivial | decide | omega | (dsimp only; omega)⟩) ?_) | (apply And.intro) | (intro s hs; skip) | (refine Exists.intro _ (And.intro ⟨rfl, rfl, rfl⟩ ?_)))
    conv => whnf
    have hAl : (addSd sd (newH c now draw) i).held.length = sd.held.length + 1 := insA_len hle1
    refine fin_acc (s := addSd sd (newH c now draw) i) (d := 44) hR2 ha rfl (fun p h j => (updE_ne h).trans (rowA_ne h)) rfl rfl (by rw [hAl]; rfl) rfl rfl hAl.symm rfl fun q hq j hj => ?_
    rw [hAl] at hq
    show LeC _ _ (rowN neH (insA i (newH c now draw) sd.held) q j)
    refine ins_cells (r := rowN neH sd.held) hle1 ?_ hq (fun h => ?_) (fun h => ?_) (fun h => ?_)
    · show min (sd.held.length + 1 - i) (sd.held.length + 1 - (i + 1)) = _
      omega
    · rw [show rowN neH (insA i (newH c now draw) sd.held) q j = rowN neH sd.held q j from congrArg (fun z => neH.cell z j) (insA_lt hle1 h)]
      exact (neH.sh _ j hj).le
    · subst h
      rw [show rowN neH (insA q (newH c now draw) sd.held) q j = neH.cell (newH c now draw) j from congrArg (fun z => neH.cell z j) (insA_eq hle1)]
      have e0 : newH c now draw = ⟨c.num, c.data, tr.1, if 1099511627776 < now + 20 then 1099511627776 else now + 20⟩ := by unfold newH; rw [hT]
      rw [e0]
      iterate 11 (rcases j with _ | j; · first | exact leC_int rfl | exact leC_bool rfl | exact leC_os_sl rfl rfl rfl (by first | rfl | exact Nat.zero_add _) (by first | exact Nat.le_refl _ | (simp; done)) fun q hq j hj => leC_cell (E := eB) (congrArg (fun z => c.data.getD z default) (Nat.zero_add q)))
      exact absurd hj (by omega)
    · rw [show rowN neH (insA i (newH c now draw) sd.held) q j = rowN neH sd.held (q - 1) j from congrArg (fun z => neH.cell z j) (insA_gt hle1 h)]
      exact (neH.sh _ j hj).le
set_option maxHeartbeats 8000000 in
set_option maxRecDepth 20000 in
theorem acc3_4 (g0 : Nat) (L : List Sed) (a : Nat) (sd : Sed) (now : Int) (c : Cas) (deaf : Bool) (draw : Int) (hI : AcJ L a sd now c draw) (R : List Sed × Bool × Int) (hR : R = (L.set a (if deaf = true then raiseS sd (c.num + 1) else addSd sd (newH c now draw) (plcH c.num sd.held 0).1), !deaf, 0)) (a3 : a = 4) :
    Sem Try.prog Try.f11.ntmps 0 (dropC 11 (Try.f11.body.getD Code.ret)) (SB L a sd now c deaf draw ()).fr (SB L a sd now c deaf draw ()).H (SB L a sd now c deaf draw ()).nx (endH T Try.f11.results.toList fun x H _ => FinN (some R.1.length) (encAc R) (entN neS 78 R.1) x H) := by
  obtain ⟨ha, hn, hk, hh, hnum, hd, hnow, hdr⟩ := hI
  unfold SB
  subst a3
  have w1 : IntKind.i64.wrap (c.num + 1) = c.num + 1 := IntWalk.i64_in _ (by omega)
  have w2 : IntKind.i64.wrap (now + 20) = now + 20 := IntWalk.i64_in _ (by omega)
  cases deaf with
  | true =>
    refine sem_step (wd := 1024) (Q := mkQ (LMa g0)) (by decide) tysOk (q_of (LMa_ok g0)) mixed ?_
    repeat' (first | (simp only [w1]) | (apply And.intro <;> intro hc <;> (first | exact Bool.noConfusion hc | (exfalso; first | exact absurd rfl hc | omega) | (simp only [decide_eq_true_eq, decide_eq_false_iff_not, Bool.not_eq_true', Bool.not_eq_false', beq_iff_eq, beq_eq_false_iff_ne, bne_iff_ne, bne_eq_false_iff_eq, Bool.true_eq_false, Bool.false_eq_true, ne_eq, not_true_eq_false] at hc <;> first | exact absurd rfl hc | (exfalso; first | exact absurd rfl hc | omega) | skip) | skip)) | (refine And.intro (by first | exact trivial | decide | omega | (dsimp only; omega) | exact fun _ _ => rfl | exact ⟨by assumption, by first | exact trivial | decide | omega | (dsimp only; omega)⟩) ?_) | (apply And.intro) | (intro s hs; skip) | (refine Exists.intro _ (And.intro ⟨rfl, rfl, rfl⟩ ?_)))
    · exact rfl
    · conv => whnf
      refine fin_acc (s := sd) (d := 2) (hR.trans ?_) ha rfl (fun p h j => rowA_ne h) rfl rfl rfl rfl rfl rfl rfl fun q hq j hj => (neH.sh _ j hj).le
      rw [if_pos rfl, show raiseS sd (c.num + 1) = sd from if_pos hc]; rfl
    · exact ⟨rfl, okD_sl _⟩
    · exact Eq.mpr (congrArg KpI (toN_row0 neH_rd _)) hk
    · conv => whnf
      have q : sd.held.filter (wantB (some (c.num + 1))) = s := (hs.trans (by rw [toN_row0 neH_rd])).symm
      clear hs
      refine fin_acc (s := ⟨sd.id, c.num + 1, s⟩) (d := 5141) (hR.trans ?_) ha rfl (fun p h j => (updE_ne h).trans ((updE_ne h).trans (rowA_ne h))) rfl rfl rfl rfl rfl rfl rfl fun q hq j hj => (neH.sh _ j hj).le
      rw [if_pos rfl, show raiseS sd (c.num + 1) = ⟨sd.id, c.num + 1, s⟩ from (if_neg hc).trans (by rw [q])]; rfl
  | false =>
    obtain ⟨⟨i, b⟩, hP⟩ : ∃ P, plcH c.num sd.held 0 = P := ⟨_, rfl⟩
    have hle := plc_le (id := c.num) (L := sd.held) (k := 0)
    rw [hP, Nat.zero_add] at hle
    dsimp only at hle
    obtain ⟨hle1, _, _⟩ := hle
    have hR2 : R = (L.set 4 (addSd sd (newH c now draw) i), true, 0) := by rw [hR, hP]; rfl
    clear hR
    have w3 : IntKind.i64.wrap ((i : Int) + 1) = ((i + 1 : Nat) : Int) := (IntWalk.i64_in _ (by omega)).trans (by omega)
    obtain ⟨tr, hT⟩ : ∃ r, newT 2 3 2 now draw = r := ⟨_, rfl⟩
    refine sem_step (wd := 1) (Q := mkQ (LMa g0)) (by decide) tysOk (q_of (LMa_ok g0)) mixed ?_
    repeat' (first | (simp only [w2]) | (apply And.intro <;> intro hc <;> (first | exact Bool.noConfusion hc | (exfalso; first | exact absurd rfl hc | omega) | (simp only [decide_eq_true_eq, decide_eq_false_iff_not, Bool.not_eq_true', Bool.not_eq_false', beq_iff_eq, beq_eq_false_iff_ne, bne_iff_ne, bne_eq_false_iff_eq, Bool.true_eq_false, Bool.false_eq_true, ne_eq, not_true_eq_false] at hc <;> first | exact absurd rfl hc | (exfalso; first | exact absurd rfl hc | omega) | skip) | skip)) | (refine And.intro (by first | exact trivial | decide | omega | (dsimp only; omega) | exact fun _ _ => rfl | exact ⟨by assumption, by first | exact trivial | decide | omega | (dsimp only; omega)⟩) ?_) | (apply And.intro) | (intro s hs; skip) | (refine Exists.intro _ (And.intro ⟨rfl, rfl, rfl⟩ ?_)))
    refine sem_step (wd := 1) (Q := mkQ (LMa g0)) (by decide) tysOk (q_of (LMa_ok g0)) mixed ?_
    repeat' (first | (simp only [w2]) | (apply And.intro <;> intro hc <;> (first | exact Bool.noConfusion hc | (exfalso; first | exact absurd rfl hc | omega) | (simp only [decide_eq_true_eq, decide_eq_false_iff_not, Bool.not_eq_true', Bool.not_eq_false', beq_iff_eq, beq_eq_false_iff_ne, bne_iff_ne, bne_eq_false_iff_eq, Bool.true_eq_false, Bool.false_eq_true, ne_eq, not_true_eq_false] at hc <;> first | exact absurd rfl hc | (exfalso; first | exact absurd rfl hc | omega) | skip) | skip)) | (refine And.intro (by first | exact trivial | decide | omega | (dsimp only; omega) | exact fun _ _ => rfl | exact ⟨by assumption, by first | exact trivial | decide | omega | (dsimp only; omega)⟩) ?_) | (apply And.intro) | (intro s hs; (have q : tr = s := hT.symm.trans hs.symm; clear hs; subst q)) | (refine Exists.intro _ (And.intro ⟨rfl, rfl, rfl⟩ ?_)))
    refine sem_step (wd := 1) (Q := mkQ (LMa g0)) (by decide) tysOk (q_of (LMa_ok g0)) mixed ?_
    repeat' (first | (simp only [w2]) | (apply And.intro <;> intro hc <;> (first | exact Bool.noConfusion hc | (exfalso; first | exact absurd rfl hc | omega) | (simp only [decide_eq_true_eq, decide_eq_false_iff_not, Bool.not_eq_true', Bool.not_eq_false', beq_iff_eq, beq_eq_false_iff_ne, bne_iff_ne, bne_eq_false_iff_eq, Bool.true_eq_false, Bool.false_eq_true, ne_eq, not_true_eq_false] at hc <;> first | exact absurd rfl hc | (exfalso; first | exact absurd rfl hc | omega) | skip) | skip)) | (refine And.intro (by first | exact trivial | decide | omega | (dsimp only; omega) | exact fun _ _ => rfl | exact ⟨by assumption, by first | exact trivial | decide | omega | (dsimp only; omega)⟩) ?_) | (apply And.intro) | (intro s hs; skip) | (refine Exists.intro _ (And.intro ⟨rfl, rfl, rfl⟩ ?_)))
    refine sem_step (wd := 1) (Q := mkQ (LMa g0)) (by decide) tysOk (q_of (LMa_ok g0)) mixed ?_
    repeat' (first | (simp only [w2, w3]) | (apply And.intro <;> intro hc <;> (first | exact Bool.noConfusion hc | (exfalso; first | exact absurd rfl hc | omega) | (simp only [decide_eq_true_eq, decide_eq_false_iff_not, Bool.not_eq_true', Bool.not_eq_false', beq_iff_eq, beq_eq_false_iff_ne, bne_iff_ne, bne_eq_false_iff_eq, Bool.true_eq_false, Bool.false_eq_true, ne_eq, not_true_eq_false] at hc <;> first | exact absurd rfl hc | (exfalso; first | exact absurd rfl hc | omega) | skip) | skip)) | (refine And.intro (by first | exact trivial | decide | omega | (dsimp only; omega) | exact fun _ _ => rfl | exact ⟨by assumption, by first | exact trivial | decide | omega | (dsimp only; omega)⟩) ?_) | (apply And.intro) | (intro s hs; (have q := rd_plc hs (toN_row0 neH_rd _) hP; clear hs; subst q)) | (refine Exists.intro _ (And.intro ⟨rfl, rfl, rfl⟩ ?_)))
    · exact fun _ _ => ⟨rfl, okD_sl _⟩
    · exact Eq.mpr (congrArg (fun z : List Hel => z.length ≤ 9223372036854775807) (toN_row0 neH_rd _)) (by omega)
    refine sem_step (wd := 1) (Q := mkQ (LMa g0)) (by decide) tysOk (q_of (LMa_ok g0)) mixed ?_
    repeat' (first | (simp only [w2, w3]) | (apply And.intro <;> intro hc <;> (first | exact Bool.noConfusion hc | (exfalso; first | exact absurd rfl hc | omega) | (simp only [decide_eq_true_eq, decide_eq_false_iff_not, Bool.not_eq_true', Bool.not_eq_false', beq_iff_eq, beq_eq_false_iff_ne, bne_iff_ne, bne_eq_false_iff_eq, Bool.true_eq_false, Bool.false_eq_true, ne_eq, not_true_eq_false] at hc <;> first | exact absurd rfl hc | (exfalso; first | exact absurd rfl hc | omega) | skip) | skip)) | (refine And.intro (by first | exact trivial | decide | omega | (dsimp only; omega) | exact fun _ _ => rfl | exact ⟨by assumption, by first | exact trivial | decide | omega | (dsimp only; omega)⟩) ?_) | (apply And.intro) | (intro s hs; skip) | (refine Exists.intro _ (And.intro ⟨rfl, rfl, rfl⟩ ?_)))
    refine sem_step (wd := 1) (Q := mkQ (LMa g0)) (by decide) tysOk (q_of (LMa_ok g0)) mixed ?_
    repeat' (first | (simp only [w2, w3]) | (apply And.intro <;> intro hc <;> (first | exact Bool.noConfusion hc | (exfalso; first | exact absurd rfl hc | omega) | (simp only [decide_eq_true_eq, decide_eq_false_iff_not, Bool.not_eq_true', Bool.not_eq_false', beq_iff_eq, beq_eq_false_iff_ne, bne_iff_ne, bne_eq_false_iff_eq, Bool.true_eq_false, Bool.false_eq_true, ne_eq, not_true_eq_false] at hc <;> first | exact absurd rfl hc | (exfalso; first | exact absurd rfl hc | omega) | skip) | skip)) | (refine And.intro (by first | exact trivial | decide | omega | (dsimp only; omega) | exact fun _ _ => rfl | exact ⟨by assumption, by first | exact trivial | decide | omega | (dsimp only; omega)⟩) ?_) | (apply And.intro) | (intro s hs; skip) | (refine Exists.intro _ (And.intro ⟨rfl, rfl, rfl⟩ ?_)))
    refine sem_exec (wd := 1) (Q := mkQ (LMa g0)) (by decide) tysOk (q_of (LMa_ok g0)) mixed ?_
    repeat' (first | (simp only [w2, w3]) | (apply And.intro <;> intro hc <;> (first | exact Bool.noConfusion hc | (exfalso; first | exact absurd rfl hc | omega) | (simp only [decide_eq_true_eq, decide_eq_false_iff_not, Bool.not_eq_true', Bool.not_eq_false', beq_iff_eq, beq_eq_false_iff_ne, bne_iff_ne, bne_eq_false_iff_eq, Bool.true_eq_false, Bool.false_eq_true, ne_eq, not_true_eq_false] at hc <;> first | exact absurd rfl hc | (exfalso; first | exact absurd rfl hc | omega) | skip) | skip)) | (refine And.intro (by first | exact trivial | decide | omega | (dsimp only; omega) | exact fun _ _ => rfl | exact ⟨by assumption, by first | exact trivial | decide | omega | (dsimp only; omega)⟩) ?_) | (apply And.intro) | (intro s hs; skip) | (refine Exists.intro _ (And.intro ⟨rfl, rfl, rfl⟩ ?_)))
    conv => whnf
    have hAl : (addSd sd (newH c now draw) i).held.length = sd.held.length + 1 := insA_len hle1
    refine fin_acc (s := addSd sd (newH c now draw) i) (d := 44) hR2 ha rfl (fun p h j => (updE_ne h).trans (rowA_ne h)) rfl rfl (by rw [hAl]; rfl) rfl rfl hAl.symm rfl fun q hq j hj => ?_
    rw [hAl] at hq
    show LeC _ _ (rowN neH (insA i (newH c now draw) sd.held) q j)
    refine ins_cells (r := rowN neH sd.held) hle1 ?_ hq (fun h => ?_) (fun h => ?_) (fun h => ?_)
    · show min (sd.held.length + 1 - i) (sd.held.length + 1 - (i + 1)) = _
      omega
    · rw [show rowN neH (insA i (newH c now draw) sd.held) q j = rowN neH sd.held q j from congrArg (fun z => neH.cell z j) (insA_lt hle1 h)]
      exact (neH.sh _ j hj).le
    · subst h
      rw [show rowN neH (insA q (newH c now draw) sd.held) q j = neH.cell (newH c now draw) j from congrArg (fun z => neH.cell z j) (insA_eq hle1)]
      have e0 : newH c now draw = ⟨c.num, c.data, tr.1, if 1099511627776 < now + 20 then 1099511627776 else now + 20⟩ := by unfold newH; rw [hT]
      rw [e0]
      iterate 11 (rcases j with _ | j; · first | exact leC_int rfl | exact leC_bool rfl | exact leC_os_sl rfl rfl rfl (by first | rfl | exact Nat.zero_add _) (by first | exact Nat.le_refl _ | (simp; done)) fun q hq j hj => leC_cell (E := eB) (congrArg (fun z => c.data.getD z default) (Nat.zero_add q)))
      exact absurd hj (by omega)
    · rw [show rowN neH (insA i (newH c now draw) sd.held) q j = rowN neH sd.held (q - 1) j from congrArg (fun z => neH.cell z j) (insA_gt hle1 h)]
      exact (neH.sh _ j hj).le
set_option maxHeartbeats 8000000 in
set_option maxRecDepth 20000 in
theorem acc3_5 (g0 : Nat) (L : List Sed) (a : Nat) (sd : Sed) (now : Int) (c : Cas) (deaf : Bool) (draw : Int) (hI : AcJ L a sd now c draw) (R : List Sed × Bool × Int) (hR : R = (L.set a (if deaf = true then raiseS sd (c.num + 1) else addSd sd (newH c now draw) (plcH c.num sd.held 0).1), !deaf, 0)) (a3 : a = 5) :
    Sem Try.prog Try.f11.ntmps 0 (dropC 11 (Try.f11.body.getD Code.ret)) (SB L a sd now c deaf draw ()).fr (SB L a sd now c deaf draw ()).H (SB L a sd now c deaf draw ()).nx (endH T Try.f11.results.toList fun x H _ => FinN (some R.1.length) (encAc R) (entN neS 78 R.1) x H) := by
  obtain ⟨ha, hn, hk, hh, hnum, hd, hnow, hdr⟩ := hI
  unfold SB
  subst a3
  have w1 : IntKind.i64.wrap (c.num + 1) = c.num + 1 := IntWalk.i64_in _ (by omega)
  have w2 : IntKind.i64.wrap (now + 20) = now + 20 := IntWalk.i64_in _ (by omega)
  cases deaf with
  | true =>
    refine sem_step (wd := 1024) (Q := mkQ (LMa g0)) (by decide) tysOk (q_of (LMa_ok g0)) mixed ?_
    repeat' (first | (simp only [w1]) | (apply And.intro <;> intro hc <;> (first | exact Bool.noConfusion hc | (exfalso; first | exact absurd rfl hc | omega) | (simp only [decide_eq_true_eq, decide_eq_false_iff_not, Bool.not_eq_true', Bool.not_eq_false', beq_iff_eq, beq_eq_false_iff_ne, bne_iff_ne, bne_eq_false_iff_eq, Bool.true_eq_false, Bool.false_eq_true, ne_eq, not_true_eq_false] at hc <;> first | exact absurd rfl hc | (exfalso; first | exact absurd rfl hc | omega) | skip) | skip)) | (refine And.intro (by first | exact trivial | decide | omega | (dsimp only; omega) | exact fun _ _ => rfl | exact ⟨by assumption, by first | exact trivial | decide | omega | (dsimp only; omega)⟩) ?_) | (apply And.intro) | (intro s hs; skip) | (refine Exists.intro _ (And.intro ⟨rfl, rfl, rfl⟩ ?_)))
    · exact rfl
    · conv => whnf
      refine fin_acc (s := sd) (d := 2) (hR.trans ?_) ha rfl (fun p h j => rowA_ne h) rfl rfl rfl rfl rfl rfl rfl fun q hq j hj => (neH.sh _ j hj).le
      rw [if_pos rfl, show raiseS sd (c.num + 1) = sd from if_pos hc]; rfl
    · exact ⟨rfl, okD_sl _⟩
    · exact Eq.mpr (congrArg KpI (toN_row0 neH_rd _)) hk
    · conv => whnf
      have q : sd.held.filter (wantB (some (c.num + 1))) = s := (hs.trans (by rw [toN_row0 neH_rd])).symm
      clear hs
      refine fin_acc (s := ⟨sd.id, c.num + 1, s⟩) (d := 5141) (hR.trans ?_) ha rfl (fun p h j => (updE_ne h).trans ((updE_ne h).trans (rowA_ne h))) rfl rfl rfl rfl rfl rfl rfl fun q hq j hj => (neH.sh _ j hj).le
      rw [if_pos rfl, show raiseS sd (c.num + 1) = ⟨sd.id, c.num + 1, s⟩ from (if_neg hc).trans (by rw [q])]; rfl
  | false =>
    obtain ⟨⟨i, b⟩, hP⟩ : ∃ P, plcH c.num sd.held 0 = P := ⟨_, rfl⟩
    have hle := plc_le (id := c.num) (L := sd.held) (k := 0)
    rw [hP, Nat.zero_add] at hle
    dsimp only at hle
    obtain ⟨hle1, _, _⟩ := hle
    have hR2 : R = (L.set 5 (addSd sd (newH c now draw) i), true, 0) := by rw [hR, hP]; rfl
    clear hR
    have w3 : IntKind.i64.wrap ((i : Int) + 1) = ((i + 1 : Nat) : Int) := (IntWalk.i64_in _ (by omega)).trans (by omega)
    obtain ⟨tr, hT⟩ : ∃ r, newT 2 3 2 now draw = r := ⟨_, rfl⟩
    refine sem_step (wd := 1) (Q := mkQ (LMa g0)) (by decide) tysOk (q_of (LMa_ok g0)) mixed ?_
    repeat' (first | (simp only [w2]) | (apply And.intro <;> intro hc <;> (first | exact Bool.noConfusion hc | (exfalso; first | exact absurd rfl hc | omega) | (simp only [decide_eq_true_eq, decide_eq_false_iff_not, Bool.not_eq_true', Bool.not_eq_false', beq_iff_eq, beq_eq_false_iff_ne, bne_iff_ne, bne_eq_false_iff_eq, Bool.true_eq_false, Bool.false_eq_true, ne_eq, not_true_eq_false] at hc <;> first | exact absurd rfl hc | (exfalso; first | exact absurd rfl hc | omega) | skip) | skip)) | (refine And.intro (by first | exact trivial | decide | omega | (dsimp only; omega) | exact fun _ _ => rfl | exact ⟨by assumption, by first | exact trivial | decide | omega | (dsimp only; omega)⟩) ?_) | (apply And.intro) | (intro s hs; skip) | (refine Exists.intro _ (And.intro ⟨rfl, rfl, rfl⟩ ?_)))
    refine sem_step (wd := 1) (Q := mkQ (LMa g0)) (by decide) tysOk (q_of (LMa_ok g0)) mixed ?_
    repeat' (first | (simp only [w2]) | (apply And.intro <;> intro hc <;> (first | exact Bool.noConfusion hc | (exfalso; first | exact absurd rfl hc | omega) | (simp only [decide_eq_true_eq, decide_eq_false_iff_not, Bool.not_eq_true', Bool.not_eq_false', beq_iff_eq, beq_eq_false_iff_ne, bne_iff_ne, bne_eq_false_iff_eq, Bool.true_eq_false, Bool.false_eq_true, ne_eq, not_true_eq_false] at hc <;> first | exact absurd rfl hc | (exfalso; first | exact absurd rfl hc | omega) | skip) | skip)) | (refine And.intro (by first | exact trivial | decide | omega | (dsimp only; omega) | exact fun _ _ => rfl | exact ⟨by assumption, by first | exact trivial | decide | omega | (dsimp only; omega)⟩) ?_) | (apply And.intro) | (intro s hs; (have q : tr = s := hT.symm.trans hs.symm; clear hs; subst q)) | (refine Exists.intro _ (And.intro ⟨rfl, rfl, rfl⟩ ?_)))
    refine sem_step (wd := 1) (Q := mkQ (LMa g0)) (by decide) tysOk (q_of (LMa_ok g0)) mixed ?_
    repeat' (first | (simp only [w2]) | (apply And.intro <;> intro hc <;> (first | exact Bool.noConfusion hc | (exfalso; first | exact absurd rfl hc | omega) | (simp only [decide_eq_true_eq, decide_eq_false_iff_not, Bool.not_eq_true', Bool.not_eq_false', beq_iff_eq, beq_eq_false_iff_ne, bne_iff_ne, bne_eq_false_iff_eq, Bool.true_eq_false, Bool.false_eq_true, ne_eq, not_true_eq_false] at hc <;> first | exact absurd rfl hc | (exfalso; first | exact absurd rfl hc | omega) | skip) | skip)) | (refine And.intro (by first | exact trivial | decide | omega | (dsimp only; omega) | exact fun _ _ => rfl | exact ⟨by assumption, by first | exact trivial | decide | omega | (dsimp only; omega)⟩) ?_) | (apply And.intro) | (intro s hs; skip) | (refine Exists.intro _ (And.intro ⟨rfl, rfl, rfl⟩ ?_)))
    refine sem_step (wd := 1) (Q := mkQ (LMa g0)) (by decide) tysOk (q_of (LMa_ok g0)) mixed ?_
    repeat' (first | (simp only [w2, w3]) | (apply And.intro <;> intro hc <;> (first | exact Bool.noConfusion hc | (exfalso; first | exact absurd rfl hc | omega) | (simp only [decide_eq_true_eq, decide_eq_false_iff_not, Bool.not_eq_true', Bool.not_eq_false', beq_iff_eq, beq_eq_false_iff_ne, bne_iff_ne, bne_eq_false_iff_eq, Bool.true_eq_false, Bool.false_eq_true, ne_eq, not_true_eq_false] at hc <;> first | exact absurd rfl hc | (exfalso; first | exact absurd rfl hc | omega) | skip) | skip)) | (refine And.intro (by first | exact trivial | decide | omega | (dsimp only; omega) | exact fun _ _ => rfl | exact ⟨by assumption, by first | exact trivial | decide | omega | (dsimp only; omega)⟩) ?_) | (apply And.intro) | (intro s hs; (have q := rd_plc hs (toN_row0 neH_rd _) hP; clear hs; subst q)) | (refine Exists.intro _ (And.intro ⟨rfl, rfl, rfl⟩ ?_)))
    · exact fun _ _ => ⟨rfl, okD_sl _⟩
    · exact Eq.mpr (congrArg (fun z : List Hel => z.length ≤ 9223372036854775807) (toN_row0 neH_rd _)) (by omega)
    refine sem_step (wd := 1) (Q := mkQ (LMa g0)) (by decide) tysOk (q_of (LMa_ok g0)) mixed ?_
    repeat' (first | (simp only [w2, w3]) | (apply And.intro <;> intro hc <;> (first | exact Bool.noConfusion hc | (exfalso; first | exact absurd rfl hc | omega) | (simp only [decide_eq_true_eq, decide_eq_false_iff_not, Bool.not_eq_true', Bool.not_eq_false', beq_iff_eq, beq_eq_false_iff_ne, bne_iff_ne, bne_eq_false_iff_eq, Bool.true_eq_false, Bool.false_eq_true, ne_eq, not_true_eq_false] at hc <;> first | exact absurd rfl hc | (exfalso; first | exact absurd rfl hc | omega) | skip) | skip)) | (refine And.intro (by first | exact trivial | decide | omega | (dsimp only; omega) | exact fun _ _ => rfl | exact ⟨by assumption, by first | exact trivial | decide | omega | (dsimp only; omega)⟩) ?_) | (apply And.intro) | (intro s hs; skip) | (refine Exists.intro _ (And.intro ⟨rfl, rfl, rfl⟩ ?_)))
    refine sem_step (wd := 1) (Q := mkQ (LMa g0)) (by decide) tysOk (q_of (LMa_ok g0)) mixed ?_
    repeat' (first | (simp only [w2, w3]) | (apply And.intro <;> intro hc <;> (first | exact Bool.noConfusion hc | (exfalso; first | exact absurd rfl hc | omega) | (simp only [decide_eq_true_eq, decide_eq_false_iff_not, Bool.not_eq_true', Bool.not_eq_false', beq_iff_eq, beq_eq_false_iff_ne, bne_iff_ne, bne_eq_false_iff_eq, Bool.true_eq_false, Bool.false_eq_true, ne_eq, not_true_eq_false] at hc <;> first | exact absurd rfl hc | (exfalso; first | exact absurd rfl hc | omega) | skip) | skip)) | (refine And.intro (by first | exact trivial | decide | omega | (dsimp only; omega) | exact fun _ _ => rfl | exact ⟨by assumption, by first | exact trivial | decide | omega | (dsimp only; omega)⟩) ?_) | (apply And.intro) | (intro s hs; skip) | (refine Exists.intro _ (And.intro ⟨rfl, rfl, rfl⟩ ?_)))
    refine sem_exec (wd := 1) (Q := mkQ (LMa g0)) (by decide) tysOk (q_of (LMa_ok g0)) mixed ?_
    repeat' (first | (simp only [w2, w3]) | (apply And.intro <;> intro hc <;> (first | exact Bool.noConfusion hc | (exfalso; first | exact absurd rfl hc | omega) | (simp only [decide_eq_true_eq, decide_eq_false_iff_not, Bool.not_eq_true', Bool.not_eq_false', beq_iff_eq, beq_eq_false_iff_ne, bne_iff_ne, bne_eq_false_iff_eq, Bool.true_eq_false, Bool.false_eq_true, ne_eq, not_true_eq_false] at hc <;> first | exact absurd rfl hc | (exfalso; first | exact absurd rfl hc | omega) | skip) | skip)) | (refine And.intro (by first | exact trivial | decide | omega | (dsimp only; omega) | exact fun _ _ => rfl | exact ⟨by assumption, by first | exact trivial | decide | omega | (dsimp only; omega)⟩) ?_) | (apply And.intro) | (intro s hs; skip) | (refine Exists.intro _ (And.intro ⟨rfl, rfl, rfl⟩ ?_)))
    conv => whnf
    have hAl : (addSd sd (newH c now draw) i).held.length = sd.held.length + 1 := insA_len hle1
    refine fin_acc (s := addSd sd (newH c now draw) i) (d := 44) hR2 ha rfl (fun p h j => (updE_ne h).trans (rowA_ne h)) rfl rfl (by rw [hAl]; rfl) rfl rfl hAl.symm rfl fun q hq j hj => ?_
    rw [hAl] at hq
    show LeC _ _ (rowN neH (insA i (newH c now draw) sd.held) q j)
    refine ins_cells (r := rowN neH sd.held) hle1 ?_ hq (fun h => ?_) (fun h => ?_) (fun h => ?_)
    · show min (sd.held.length + 1 - i) (sd.held.length + 1 - (i + 1)) = _
      omega
    · rw [show rowN neH (insA i (newH c now draw) sd.held) q j = rowN neH sd.held q j from congrArg (fun z => neH.cell z j) (insA_lt hle1 h)]
      exact (neH.sh _ j hj).le
    · subst h
      rw [show rowN neH (insA q (newH c now draw) sd.held) q j = neH.cell (newH c now draw) j from congrArg (fun z => neH.cell z j) (insA_eq hle1)]
      have e0 : newH c now draw = ⟨c.num, c.data, tr.1, if 1099511627776 < now + 20 then 1099511627776 else now + 20⟩ := by unfold newH; rw [hT]
      rw [e0]
      iterate 11 (rcases j with _ | j; · first | exact leC_int rfl | exact leC_bool rfl | exact leC_os_sl rfl rfl rfl (by first | rfl | exact Nat.zero_add _) (by first | exact Nat.le_refl _ | (simp; done)) fun q hq j hj => leC_cell (E := eB) (congrArg (fun z => c.data.getD z default) (Nat.zero_add q)))
      exact absurd hj (by omega)
    · rw [show rowN neH (insA i (newH c now draw) sd.held) q j = rowN neH sd.held (q - 1) j from congrArg (fun z => neH.cell z j) (insA_gt hle1 h)]
      exact (neH.sh _ j hj).le
set_option maxHeartbeats 8000000 in
set_option maxRecDepth 20000 in
theorem acc3_6 (g0 : Nat) (L : List Sed) (a : Nat) (sd : Sed) (now : Int) (c : Cas) (deaf : Bool) (draw : Int) (hI : AcJ L a sd now c draw) (R : List Sed × Bool × Int) (hR : R = (L.set a (if deaf = true then raiseS sd (c.num + 1) else addSd sd (newH c now draw) (plcH c.num sd.held 0).1), !deaf, 0)) (a3 : a = 6) :
    Sem Try.prog Try.f11.ntmps 0 (dropC 11 (Try.f11.body.getD Code.ret)) (SB L a sd now c deaf draw ()).fr (SB L a sd now c deaf draw ()).H (SB L a sd now c deaf draw ()).nx (endH T Try.f11.results.toList fun x H _ => FinN (some R.1.length) (encAc R) (entN neS 78 R.1) x H) := by
  obtain ⟨ha, hn, hk, hh, hnum, hd, hnow, hdr⟩ := hI
  unfold SB
  subst a3
  have w1 : IntKind.i64.wrap (c.num + 1) = c.num + 1 := IntWalk.i64_in _ (by omega)
  have w2 : IntKind.i64.wrap (now + 20) = now + 20 := IntWalk.i64_in _ (by omega)
  cases deaf with
  | true =>
    refine sem_step (wd := 1024) (Q := mkQ (LMa g0)) (by decide) tysOk (q_of (LMa_ok g0)) mixed ?_
    repeat' (first | (simp only [w1]) | (apply And.intro <;> intro hc <;> (first | exact Bool.noConfusion hc | (exfalso; first | exact absurd rfl hc | omega) | (simp only [decide_eq_true_eq, decide_eq_false_iff_not, Bool.not_eq_true', Bool.not_eq_false', beq_iff_eq, beq_eq_false_iff_ne, bne_iff_ne, bne_eq_false_iff_eq, Bool.true_eq_false, Bool.false_eq_true, ne_eq, not_true_eq_false] at hc <;> first | exact absurd rfl hc | (exfalso; first | exact absurd rfl hc | omega) | skip) | skip)) | (refine And.intro (by first | exact trivial | decide | omega | (dsimp only; omega) | exact fun _ _ => rfl | exact ⟨by assumption, by first | exact trivial | decide | omega | (dsimp only; omega)⟩) ?_) | (apply And.intro) | (intro s hs; skip) | (refine Exists.intro _ (And.intro ⟨rfl, rfl, rfl⟩ ?_)))
    · exact rfl
    · conv => whnf
      refine fin_acc (s := sd) (d := 2) (hR.trans ?_) ha rfl (fun p h j => rowA_ne h) rfl rfl rfl rfl rfl rfl rfl fun q hq j hj => (neH.sh _ j hj).le
      rw [if_pos rfl, show raiseS sd (c.num + 1) = sd from if_pos hc]; rfl
    · exact ⟨rfl, okD_sl _⟩
    · exact Eq.mpr (congrArg KpI (toN_row0 neH_rd _)) hk
    · conv => whnf
      have q : sd.held.filter (wantB (some (c.num + 1))) = s := (hs.trans (by rw [toN_row0 neH_rd])).symm
      clear hs
      refine fin_acc (s := ⟨sd.id, c.num + 1, s⟩) (d := 5141) (hR.trans ?_) ha rfl (fun p h j => (updE_ne h).trans ((updE_ne h).trans (rowA_ne h))) rfl rfl rfl rfl rfl rfl rfl fun q hq j hj => (neH.sh _ j hj).le
      rw [if_pos rfl, show raiseS sd (c.num + 1) = ⟨sd.id, c.num + 1, s⟩ from (if_neg hc).trans (by rw [q])]; rfl
  | false =>
    obtain ⟨⟨i, b⟩, hP⟩ : ∃ P, plcH c.num sd.held 0 = P := ⟨_, rfl⟩
    have hle := plc_le (id := c.num) (L := sd.held) (k := 0)
    rw [hP, Nat.zero_add] at hle
    dsimp only at hle
    obtain ⟨hle1, _, _⟩ := hle
    have hR2 : R = (L.set 6 (addSd sd (newH c now draw) i), true, 0) := by rw [hR, hP]; rfl
    clear hR
    have w3 : IntKind.i64.wrap ((i : Int) + 1) = ((i + 1 : Nat) : Int) := (IntWalk.i64_in _ (by omega)).trans (by omega)
    obtain ⟨tr, hT⟩ : ∃ r, newT 2 3 2 now draw = r := ⟨_, rfl⟩
    refine sem_step (wd := 1) (Q := mkQ (LMa g0)) (by decide) tysOk (q_of (LMa_ok g0)) mixed ?_
    repeat' (first | (simp only [w2]) | (apply And.intro <;> intro hc <;> (first | exact Bool.noConfusion hc | (exfalso; first | exact absurd rfl hc | omega) | (simp only [decide_eq_true_eq, decide_eq_false_iff_not, Bool.not_eq_true', Bool.not_eq_false', beq_iff_eq, beq_eq_false_iff_ne, bne_iff_ne, bne_eq_false_iff_eq, Bool.true_eq_false, Bool.false_eq_true, ne_eq, not_true_eq_false] at hc <;> first | exact absurd rfl hc | (exfalso; first | exact absurd rfl hc | omega) | skip) | skip)) | (refine And.intro (by first | exact trivial | decide | omega | (dsimp only; omega) | exact fun _ _ => rfl | exact ⟨by assumption, by first | exact trivial | decide | omega | (dsimp only; omega)⟩) ?_) | (apply And.intro) | (intro s hs; skip) | (refine Exists.intro _ (And.intro ⟨rfl, rfl, rfl⟩ ?_)))
    refine sem_step (wd := 1) (Q := mkQ (LMa g0)) (by decide) tysOk (q_of (LMa_ok g0)) mixed ?_
    repeat' (first | (simp only [w2]) | (apply And.intro <;> intro hc <;> (first | exact Bool.noConfusion hc | (exfalso; first | exact absurd rfl hc | omega) | (simp only [decide_eq_true_eq, decide_eq_false_iff_not, Bool.not_eq_true', Bool.not_eq_false', beq_iff_eq, beq_eq_false_iff_ne, bne_iff_ne, bne_eq_false_iff_eq, Bool.true_eq_false, Bool.false_eq_true, ne_eq, not_true_eq_false] at hc <;> first | exact absurd rfl hc | (exfalso; first | exact absurd rfl hc | omega) | skip) | skip)) | (refine And.intro (by first | exact trivial | decide | omega | (dsimp only; omega) | exact fun _ _ => rfl | exact ⟨by assumption, by first | exact trivial | decide | omega | (dsimp only; omega)⟩) ?_) | (apply And.intro) | (intro s hs; (have q : tr = s := hT.symm.trans hs.symm; clear hs; subst q)) | (refine Exists.intro _ (And.intro ⟨rfl, rfl, rfl⟩ ?_)))
    refine sem_step (wd := 1) (Q := mkQ (LMa g0)) (by decide) tysOk (q_of (LMa_ok g0)) mixed ?_
    repeat' (first | (simp only [w2]) | (apply And.intro <;> intro hc <;> (first | exact Bool.noConfusion hc | (exfalso; first | exact absurd rfl hc | omega) | (simp only [decide_eq_true_eq, decide_eq_false_iff_not, Bool.not_eq_true', Bool.not_eq_false', beq_iff_eq, beq_eq_false_iff_ne, bne_iff_ne, bne_eq_false_iff_eq, Bool.true_eq_false, Bool.false_eq_true, ne_eq, not_true_eq_false] at hc <;> first | exact absurd rfl hc | (exfalso; first | exact absurd rfl hc | omega) | skip) | skip)) | (refine And.intro (by first | exact trivial | decide | omega | (dsimp only; omega) | exact fun _ _ => rfl | exact ⟨by assumption, by first | exact trivial | decide | omega | (dsimp only; omega)⟩) ?_) | (apply And.intro) | (intro s hs; skip) | (refine Exists.intro _ (And.intro ⟨rfl, rfl, rfl⟩ ?_)))
    refine sem_step (wd := 1) (Q := mkQ (LMa g0)) (by decide) tysOk (q_of (LMa_ok g0)) mixed ?_
    repeat' (first | (simp only [w2, w3]) | (apply And.intro <;> intro hc <;> (first | exact Bool.noConfusion hc | (exfalso; first | exact absurd rfl hc | omega) | (simp only [decide_eq_true_eq, decide_eq_false_iff_not, Bool.not_eq_true', Bool.not_eq_false', beq_iff_eq, beq_eq_false_iff_ne, bne_iff_ne, bne_eq_false_iff_eq, Bool.true_eq_false, Bool.false_eq_true, ne_eq, not_true_eq_false] at hc <;> first | exact absurd rfl hc | (exfalso; first | exact absurd rfl hc | omega) | skip) | skip)) | (refine And.intro (by first | exact trivial | decide | omega | (dsimp only; omega) | exact fun _ _ => rfl | exact ⟨by assumption, by first | exact trivial | decide | omega | (dsimp only; omega)⟩) ?_) | (apply And.intro) | (intro s hs; (have q := rd_plc hs (toN_row0 neH_rd _) hP; clear hs; subst q)) | (refine Exists.intro _ (And.intro ⟨rfl, rfl, rfl⟩ ?_)))
    · exact fun _ _ => ⟨rfl, okD_sl _⟩
    · exact Eq.mpr (congrArg (fun z : List Hel => z.length ≤ 9223372036854775807) (toN_row0 neH_rd _)) (by omega)
    refine sem_step (wd := 1) (Q := mkQ (LMa g0)) (by decide) tysOk (q_of (LMa_ok g0)) mixed ?_
    repeat' (first | (simp only [w2, w3]) | (apply And.intro <;> intro hc <;> (first | exact Bool.noConfusion hc | (exfalso; first | exact absurd rfl hc | omega) | (simp only [decide_eq_true_eq, decide_eq_false_iff_not, Bool.not_eq_true', Bool.not_eq_false', beq_iff_eq, beq_eq_false_iff_ne, bne_iff_ne, bne_eq_false_iff_eq, Bool.true_eq_false, Bool.false_eq_true, ne_eq, not_true_eq_false] at hc <;> first | exact absurd rfl hc | (exfalso; first | exact absurd rfl hc | omega) | skip) | skip)) | (refine And.intro (by first | exact trivial | decide | omega | (dsimp only; omega) | exact fun _ _ => rfl | exact ⟨by assumption, by first | exact trivial | decide | omega | (dsimp only; omega)⟩) ?_) | (apply And.intro) | (intro s hs; skip) | (refine Exists.intro _ (And.intro ⟨rfl, rfl, rfl⟩ ?_)))
    refine sem_step (wd := 1) (Q := mkQ (LMa g0)) (by decide) tysOk (q_of (LMa_ok g0)) mixed ?_
    repeat' (first | (simp only [w2, w3]) | (apply And.intro <;> intro hc <;> (first | exact Bool.noConfusion hc | (exfalso; first | exact absurd rfl hc | omega) | (simp only [decide_eq_true_eq, decide_eq_false_iff_not, Bool.not_eq_true', Bool.not_eq_false', beq_iff_eq, beq_eq_false_iff_ne, bne_iff_ne, bne_eq_false_iff_eq, Bool.true_eq_false, Bool.false_eq_true, ne_eq, not_true_eq_false] at hc <;> first | exact absurd rfl hc | (exfalso; first | exact absurd rfl hc | omega) | skip) | skip)) | (refine And.intro (by first | exact trivial | decide | omega | (dsimp only; omega) | exact fun _ _ => rfl | exact ⟨by assumption, by first | exact trivial | decide | omega | (dsimp only; omega)⟩) ?_) | (apply And.intro) | (intro s hs; skip) | (refine Exists.intro _ (And.intro ⟨rfl, rfl, rfl⟩ ?_)))
    refine sem_exec (wd := 1) (Q := mkQ (LMa g0)) (by decide) tysOk (q_of (LMa_ok g0)) mixed ?_
    repeat' (first | (simp only [w2, w3]) | (apply And.intro <;> intro hc <;> (first | exact Bool.noConfusion hc | (exfalso; first | exact absurd rfl hc | omega) | (simp only [decide_eq_true_eq, decide_eq_false_iff_not, Bool.not_eq_true', Bool.not_eq_false', beq_iff_eq, beq_eq_false_iff_ne, bne_iff_ne, bne_eq_false_iff_eq, Bool.true_eq_false, Bool.false_eq_true, ne_eq, not_true_eq_false] at hc <;> first | exact absurd rfl hc | (exfalso; first | exact absurd rfl hc | omega) | skip) | skip)) | (refine And.intro (by first | exact trivial | decide | omega | (dsimp only; omega) | exact fun _ _ => rfl | exact ⟨by assumption, by first | exact trivial | decide | omega | (dsimp only; omega)⟩) ?_) | (apply And.intro) | (intro s hs; skip) | (refine Exists.intro _ (And.intro ⟨rfl, rfl, rfl⟩ ?_)))
    conv => whnf
    have hAl : (addSd sd (newH c now draw) i).held.length = sd.held.length + 1 := insA_len hle1
    refine fin_acc (s := addSd sd (newH c now draw) i) (d := 44) hR2 ha rfl (fun p h j => (updE_ne h).trans (rowA_ne h)) rfl rfl (by rw [hAl]; rfl) rfl rfl hAl.symm rfl fun q hq j hj => ?_
    rw [hAl] at hq
    show LeC _ _ (rowN neH (insA i (newH c now draw) sd.held) q j)
    refine ins_cells (r := rowN neH sd.held) hle1 ?_ hq (fun h => ?_) (fun h => ?_) (fun h => ?_)
    · show min (sd.held.length + 1 - i) (sd.held.length + 1 - (i + 1)) = _
      omega
    · rw [show rowN neH (insA i (newH c now draw) sd.held) q j = rowN neH sd.held q j from congrArg (fun z => neH.cell z j) (insA_lt hle1 h)]
      exact (neH.sh _ j hj).le
    · subst h
      rw [show rowN neH (insA q (newH c now draw) sd.held) q j = neH.cell (newH c now draw) j from congrArg (fun z => neH.cell z j) (insA_eq hle1)]
      have e0 : newH c now draw = ⟨c.num, c.data, tr.1, if 1099511627776 < now + 20 then 1099511627776 else now + 20⟩ := by unfold newH; rw [hT]
      rw [e0]
      iterate 11 (rcases j with _ | j; · first | exact leC_int rfl | exact leC_bool rfl | exact leC_os_sl rfl rfl rfl (by first | rfl | exact Nat.zero_add _) (by first | exact Nat.le_refl _ | (simp; done)) fun q hq j hj => leC_cell (E := eB) (congrArg (fun z => c.data.getD z default) (Nat.zero_add q)))
      exact absurd hj (by omega)
    · rw [show rowN neH (insA i (newH c now draw) sd.held) q j = rowN neH sd.held (q - 1) j from congrArg (fun z => neH.cell z j) (insA_gt hle1 h)]
      exact (neH.sh _ j hj).le
set_option maxHeartbeats 8000000 in
set_option maxRecDepth 20000 in
theorem acc3_7 (g0 : Nat) (L : List Sed) (a : Nat) (sd : Sed) (now : Int) (c : Cas) (deaf : Bool) (draw : Int) (hI : AcJ L a sd now c draw) (R : List Sed × Bool × Int) (hR : R = (L.set a (if deaf = true then raiseS sd (c.num + 1) else addSd sd (newH c now draw) (plcH c.num sd.held 0).1), !deaf, 0)) (a3 : a = 7) :
    Sem Try.prog Try.f11.ntmps 0 (dropC 11 (Try.f11.body.getD Code.ret)) (SB L a sd now c deaf draw ()).fr (SB L a sd now c deaf draw ()).H (SB L a sd now c deaf draw ()).nx (endH T Try.f11.results.toList fun x H _ => FinN (some R.1.length) (encAc R) (entN neS 78 R.1) x H) := by
  obtain ⟨ha, hn, hk, hh, hnum, hd, hnow, hdr⟩ := hI
  unfold SB
  subst a3
  have w1 : IntKind.i64.wrap (c.num + 1) = c.num + 1 := IntWalk.i64_in _ (by omega)
  have w2 : IntKind.i64.wrap (now + 20) = now + 20 := IntWalk.i64_in _ (by omega)
  cases deaf with
  | true =>
    refine sem_step (wd := 1024) (Q := mkQ (LMa g0)) (by decide) tysOk (q_of (LMa_ok g0)) mixed ?_
    repeat' (first | (simp only [w1]) | (apply And.intro <;> intro hc <;> (first | exact Bool.noConfusion hc | (exfalso; first | exact absurd rfl hc | omega) | (simp only [decide_eq_true_eq, decide_eq_false_iff_not, Bool.not_eq_true', Bool.not_eq_false', beq_iff_eq, beq_eq_false_iff_ne, bne_iff_ne, bne_eq_false_iff_eq, Bool.true_eq_false, Bool.false_eq_true, ne_eq, not_true_eq_false] at hc <;> first | exact absurd rfl hc | (exfalso; first | exact absurd rfl hc | omega) | skip) | skip)) | (refine And.intro (by first | exact trivial | decide | omega | (dsimp only; omega) | exact fun _ _ => rfl | exact ⟨by assumption, by first | exact trivial | decide | omega | (dsimp only; omega)⟩) ?_) | (apply And.intro) | (intro s hs; skip) | (refine Exists.intro _ (And.intro ⟨rfl, rfl, rfl⟩ ?_)))
    · exact rfl
    · conv => whnf
      refine fin_acc (s := sd) (d := 2) (hR.trans ?_) ha rfl (fun p h j => rowA_ne h) rfl rfl rfl rfl rfl rfl rfl fun q hq j hj => (neH.sh _ j hj).le
      rw [if_pos rfl, show raiseS sd (c.num + 1) = sd from if_pos hc]; rfl
    · exact ⟨rfl, okD_sl _⟩
    · exact Eq.mpr (congrArg KpI (toN_row0 neH_rd _)) hk
    · conv => whnf
      have q : sd.held.filter (wantB (some (c.num + 1))) = s := (hs.trans (by rw [toN_row0 neH_rd])).symm
      clear hs
      refine fin_acc (s := ⟨sd.id, c.num + 1, s⟩) (d := 5141) (hR.trans ?_) ha rfl (fun p h j => (updE_ne h).trans ((updE_ne h).trans (rowA_ne h))) rfl rfl rfl rfl rfl rfl rfl fun q hq j hj => (neH.sh _ j hj).le
      rw [if_pos rfl, show raiseS sd (c.num + 1) = ⟨sd.id, c.num + 1, s⟩ from (if_neg hc).trans (by rw [q])]; rfl
  | false =>
    obtain ⟨⟨i, b⟩, hP⟩ : ∃ P, plcH c.num sd.held 0 = P := ⟨_, rfl⟩
    have hle := plc_le (id := c.num) (L := sd.held) (k := 0)
    rw [hP, Nat.zero_add] at hle
    dsimp only at hle
    obtain ⟨hle1, _, _⟩ := hle
    have hR2 : R = (L.set 7 (addSd sd (newH c now draw) i), true, 0) := by rw [hR, hP]; rfl
    clear hR
    have w3 : IntKind.i64.wrap ((i : Int) + 1) = ((i + 1 : Nat) : Int) := (IntWalk.i64_in _ (by omega)).trans (by omega)
    obtain ⟨tr, hT⟩ : ∃ r, newT 2 3 2 now draw = r := ⟨_, rfl⟩
    refine sem_step (wd := 1) (Q := mkQ (LMa g0)) (by decide) tysOk (q_of (LMa_ok g0)) mixed ?_
    repeat' (first | (simp only [w2]) | (apply And.intro <;> intro hc <;> (first | exact Bool.noConfusion hc | (exfalso; first | exact absurd rfl hc | omega) | (simp only [decide_eq_true_eq, decide_eq_false_iff_not, Bool.not_eq_true', Bool.not_eq_false', beq_iff_eq, beq_eq_false_iff_ne, bne_iff_ne, bne_eq_false_iff_eq, Bool.true_eq_false, Bool.false_eq_true, ne_eq, not_true_eq_false] at hc <;> first | exact absurd rfl hc | (exfalso; first | exact absurd rfl hc | omega) | skip) | skip)) | (refine And.intro (by first | exact trivial | decide | omega | (dsimp only; omega) | exact fun _ _ => rfl | exact ⟨by assumption, by first | exact trivial | decide | omega | (dsimp only; omega)⟩) ?_) | (apply And.intro) | (intro s hs; skip) | (refine Exists.intro _ (And.intro ⟨rfl, rfl, rfl⟩ ?_)))
    refine sem_step (wd := 1) (Q := mkQ (LMa g0)) (by decide) tysOk (q_of (LMa_ok g0)) mixed ?_
    repeat' (first | (simp only [w2]) | (apply And.intro <;> intro hc <;> (first | exact Bool.noConfusion hc | (exfalso; first | exact absurd rfl hc | omega) | (simp only [decide_eq_true_eq, decide_eq_false_iff_not, Bool.not_eq_true', Bool.not_eq_false', beq_iff_eq, beq_eq_false_iff_ne, bne_iff_ne, bne_eq_false_iff_eq, Bool.true_eq_false, Bool.false_eq_true, ne_eq, not_true_eq_false] at hc <;> first | exact absurd rfl hc | (exfalso; first | exact absurd rfl hc | omega) | skip) | skip)) | (refine And.intro (by first | exact trivial | decide | omega | (dsimp only; omega) | exact fun _ _ => rfl | exact ⟨by assumption, by first | exact trivial | decide | omega | (dsimp only; omega)⟩) ?_) | (apply And.intro) | (intro s hs; (have q : tr = s := hT.symm.trans hs.symm; clear hs; subst q)) | (refine Exists.intro _ (And.intro ⟨rfl, rfl, rfl⟩ ?_)))
    refine sem_step (wd := 1) (Q := mkQ (LMa g0)) (by decide) tysOk (q_of (LMa_ok g0)) mixed ?_
    repeat' (first | (simp only [w2]) | (apply And.intro <;> intro hc <;> (first | exact Bool.noConfusion hc | (exfalso; first | exact absurd rfl hc | omega) | (simp only [decide_eq_true_eq, decide_eq_false_iff_not, Bool.not_eq_true', Bool.not_eq_false', beq_iff_eq, beq_eq_false_iff_ne, bne_iff_ne, bne_eq_false_iff_eq, Bool.true_eq_false, Bool.false_eq_true, ne_eq, not_true_eq_false] at hc <;> first | exact absurd rfl hc | (exfalso; first | exact absurd rfl hc | omega) | skip) | skip)) | (refine And.intro (by first | exact trivial | decide | omega | (dsimp only; omega) | exact fun _ _ => rfl | exact ⟨by assumption, by first | exact trivial | decide | omega | (dsimp only; omega)⟩) ?_) | (apply And.intro) | (intro s hs; skip) | (refine Exists.intro _ (And.intro ⟨rfl, rfl, rfl⟩ ?_)))
    refine sem_step (wd := 1) (Q := mkQ (LMa g0)) (by decide) tysOk (q_of (LMa_ok g0)) mixed ?_
    repeat' (first | (simp only [w2, w3]) | (apply And.intro <;> intro hc <;> (first | exact Bool.noConfusion hc | (exfalso; first | exact absurd rfl hc | omega) | (simp only [decide_eq_true_eq, decide_eq_false_iff_not, Bool.not_eq_true', Bool.not_eq_false', beq_iff_eq, beq_eq_false_iff_ne, bne_iff_ne, bne_eq_false_iff_eq, Bool.true_eq_false, Bool.false_eq_true, ne_eq, not_true_eq_false] at hc <;> first | exact absurd rfl hc | (exfalso; first | exact absurd rfl hc | omega) | skip) | skip)) | (refine And.intro (by first | exact trivial | decide | omega | (dsimp only; omega) | exact fun _ _ => rfl | exact ⟨by assumption, by first | exact trivial | decide | omega | (dsimp only; omega)⟩) ?_) | (apply And.intro) | (intro s hs; (have q := rd_plc hs (toN_row0 neH_rd _) hP; clear hs; subst q)) | (refine Exists.intro _ (And.intro ⟨rfl, rfl, rfl⟩ ?_)))
    · exact fun _ _ => ⟨rfl, okD_sl _⟩
    · exact Eq.mpr (congrArg (fun z : List Hel => z.length ≤ 9223372036854775807) (toN_row0 neH_rd _)) (by omega)
    refine sem_step (wd := 1) (Q := mkQ (LMa g0)) (by decide) tysOk (q_of (LMa_ok g0)) mixed ?_
    repeat' (first | (simp only [w2, w3]) | (apply And.intro <;> intro hc <;> (first | exact Bool.noConfusion hc | (exfalso; first | exact absurd rfl hc | omega) | (simp only [decide_eq_true_eq, decide_eq_false_iff_not, Bool.not_eq_true', Bool.not_eq_false', beq_iff_eq, beq_eq_false_iff_ne, bne_iff_ne, bne_eq_false_iff_eq, Bool.true_eq_false, Bool.false_eq_true, ne_eq, not_true_eq_false] at hc <;> first | exact absurd rfl hc | (exfalso; first | exact absurd rfl hc | omega) | skip) | skip)) | (refine And.intro (by first | exact trivial | decide | omega | (dsimp only; omega) | exact fun _ _ => rfl | exact ⟨by assumption, by first | exact trivial | decide | omega | (dsimp only; omega)⟩) ?_) | (apply And.intro) | (intro s hs; skip) | (refine Exists.intro _ (And.intro ⟨rfl, rfl, rfl⟩ ?_)))
    refine sem_step (wd := 1) (Q := mkQ (LMa g0)) (by decide) tysOk (q_of (LMa_ok g0)) mixed ?_
    repeat' (first | (simp only [w2, w3]) | (apply And.intro <;> intro hc <;> (first | exact Bool.noConfusion hc | (exfalso; first | exact absurd rfl hc | omega) | (simp only [decide_eq_true_eq, decide_eq_false_iff_not, Bool.not_eq_true', Bool.not_eq_false', beq_iff_eq, beq_eq_false_iff_ne, bne_iff_ne, bne_eq_false_iff_eq, Bool.true_eq_false, Bool.false_eq_true, ne_eq, not_true_eq_false] at hc <;> first | exact absurd rfl hc | (exfalso; first | exact absurd rfl hc | omega) | skip) | skip)) | (refine And.intro (by first | exact trivial | decide | omega | (dsimp only; omega) | exact fun _ _ => rfl | exact ⟨by assumption, by first | exact trivial | decide | omega | (dsimp only; omega)⟩) ?_) | (apply And.intro) | (intro s hs; skip) | (refine Exists.intro _ (And.intro ⟨rfl, rfl, rfl⟩ ?_)))
    refine sem_exec (wd := 1) (Q := mkQ (LMa g0)) (by decide) tysOk (q_of (LMa_ok g0)) mixed ?_
    repeat' (first | (simp only [w2, w3]) | (apply And.intro <;> intro hc <;> (first | exact Bool.noConfusion hc | (exfalso; first | exact absurd rfl hc | omega) | (simp only [decide_eq_true_eq, decide_eq_false_iff_not, Bool.not_eq_true', Bool.not_eq_false', beq_iff_eq, beq_eq_false_iff_ne, bne_iff_ne, bne_eq_false_iff_eq, Bool.true_eq_false, Bool.false_eq_true, ne_eq, not_true_eq_false] at hc <;> first | exact absurd rfl hc | (exfalso; first | exact absurd rfl hc | omega) | skip) | skip)) | (refine And.intro (by first | exact trivial | decide | omega | (dsimp only; omega) | exact fun _ _ => rfl | exact ⟨by assumption, by first | exact trivial | decide | omega | (dsimp only; omega)⟩) ?_) | (apply And.intro) | (intro s hs; skip) | (refine Exists.intro _ (And.intro ⟨rfl, rfl, rfl⟩ ?_)))
    conv => whnf
    have hAl : (addSd sd (newH c now draw) i).held.length = sd.held.length + 1 := insA_len hle1
    refine fin_acc (s := addSd sd (newH c now draw) i) (d := 44) hR2 ha rfl (fun p h j => (updE_ne h).trans (rowA_ne h)) rfl rfl (by rw [hAl]; rfl) rfl rfl hAl.symm rfl fun q hq j hj => ?_
    rw [hAl] at hq
    show LeC _ _ (rowN neH (insA i (newH c now draw) sd.held) q j)
    refine ins_cells (r := rowN neH sd.held) hle1 ?_ hq (fun h => ?_) (fun h => ?_) (fun h => ?_)
    · show min (sd.held.length + 1 - i) (sd.held.length + 1 - (i + 1)) = _
      omega
    · rw [show rowN neH (insA i (newH c now draw) sd.held) q j = rowN neH sd.held q j from congrArg (fun z => neH.cell z j) (insA_lt hle1 h)]
      exact (neH.sh _ j hj).le
    · subst h
      rw [show rowN neH (insA q (newH c now draw) sd.held) q j = neH.cell (newH c now draw) j from congrArg (fun z => neH.cell z j) (insA_eq hle1)]
      have e0 : newH c now draw = ⟨c.num, c.data, tr.1, if 1099511627776 < now + 20 then 1099511627776 else now + 20⟩ := by unfold newH; rw [hT]
      rw [e0]
      iterate 11 (rcases j with _ | j; · first | exact leC_int rfl | exact leC_bool rfl | exact leC_os_sl rfl rfl rfl (by first | rfl | exact Nat.zero_add _) (by first | exact Nat.le_refl _ | (simp; done)) fun q hq j hj => leC_cell (E := eB) (congrArg (fun z => c.data.getD z default) (Nat.zero_add q)))
      exact absurd hj (by omega)
    · rw [show rowN neH (insA i (newH c now draw) sd.held) q j = rowN neH sd.held (q - 1) j from congrArg (fun z => neH.cell z j) (insA_gt hle1 h)]
      exact (neH.sh _ j hj).le
set_option maxHeartbeats 8000000 in
set_option maxRecDepth 20000 in
theorem acc3_8 (g0 : Nat) (L : List Sed) (a : Nat) (sd : Sed) (now : Int) (c : Cas) (deaf : Bool) (draw : Int) (hI : AcJ L a sd now c draw) (R : List Sed × Bool × Int) (hR : R = (L.set a (if deaf = true then raiseS sd (c.num + 1) else addSd sd (newH c now draw) (plcH c.num sd.held 0).1), !deaf, 0)) (a3 : a = 8) :
    Sem Try.prog Try.f11.ntmps 0 (dropC 11 (Try.f11.body.getD Code.ret)) (SB L a sd now c deaf draw ()).fr (SB L a sd now c deaf draw ()).H (SB L a sd now c deaf draw ()).nx (endH T Try.f11.results.toList fun x H _ => FinN (some R.1.length) (encAc R) (entN neS 78 R.1) x H) := by
  obtain ⟨ha, hn, hk, hh, hnum, hd, hnow, hdr⟩ := hI
  unfold SB
  subst a3
  have w1 : IntKind.i64.wrap (c.num + 1) = c.num + 1 := IntWalk.i64_in _ (by omega)
  have w2 : IntKind.i64.wrap (now + 20) = now + 20 := IntWalk.i64_in _ (by omega)
  cases deaf with
  | true =>
    refine sem_step (wd := 1024) (Q := mkQ (LMa g0)) (by decide) tysOk (q_of (LMa_ok g0)) mixed ?_
    repeat' (first | (simp only [w1]) | (apply And.intro <;> intro hc <;> (first | exact Bool.noConfusion hc | (exfalso; first | exact absurd rfl hc | omega) | (simp only [decide_eq_true_eq, decide_eq_false_iff_not, Bool.not_eq_true', Bool.not_eq_false', beq_iff_eq, beq_eq_false_iff_ne, bne_iff_ne, bne_eq_false_iff_eq, Bool.true_eq_false, Bool.false_eq_true, ne_eq, not_true_eq_false] at hc <;> first | exact absurd rfl hc | (exfalso; first | exact absurd rfl hc | omega) | skip) | skip)) | (refine And.intro (by first | exact trivial | decide | omega | (dsimp only; omega) | exact fun _ _ => rfl | exact ⟨by assumption, by first | exact trivial | decide | omega | (dsimp only; omega)⟩) ?_) | (apply And.intro) | (intro s hs; skip) | (refine Exists.intro _ (And.intro ⟨rfl, rfl, rfl⟩ ?_)))
    · exact rfl
    · conv => whnf
      refine fin_acc (s := sd) (d := 2) (hR.trans ?_) ha rfl (fun p h j => rowA_ne h) rfl rfl rfl rfl rfl rfl rfl fun q hq j hj => (neH.sh _ j hj).le
      rw [if_pos rfl, show raiseS sd (c.num + 1) = sd from if_pos hc]; rfl
    · exact ⟨rfl, okD_sl _⟩
    · exact Eq.mpr (congrArg KpI (toN_row0 neH_rd _)) hk
    · conv => whnf
      have q : sd.held.filter (wantB (some (c.num + 1))) = s := (hs.trans (by rw [toN_row0 neH_rd])).symm
      clear hs
      refine fin_acc (s := ⟨sd.id, c.num + 1, s⟩) (d := 5141) (hR.trans ?_) ha rfl (fun p h j => (updE_ne h).trans ((updE_ne h).trans (rowA_ne h))) rfl rfl rfl rfl rfl rfl rfl fun q hq j hj => (neH.sh _ j hj).le
      rw [if_pos rfl, show raiseS sd (c.num + 1) = ⟨sd.id, c.num + 1, s⟩ from (if_neg hc).trans (by rw [q])]; rfl
  | false =>
    obtain ⟨⟨i, b⟩, hP⟩ : ∃ P, plcH c.num sd.held 0 = P := ⟨_, rfl⟩
    have hle := plc_le (id := c.num) (L := sd.held) (k := 0)
    rw [hP, Nat.zero_add] at hle
    dsimp only at hle
    obtain ⟨hle1, _, _⟩ := hle
    have hR2 : R = (L.set 8 (addSd sd (newH c now draw) i), true, 0) := by rw [hR, hP]; rfl
    clear hR
    have w3 : IntKind.i64.wrap ((i : Int) + 1) = ((i + 1 : Nat) : Int) := (IntWalk.i64_in _ (by omega)).trans (by omega)
    obtain ⟨tr, hT⟩ : ∃ r, newT 2 3 2 now draw = r := ⟨_, rfl⟩
    refine sem_step (wd := 1) (Q := mkQ (LMa g0)) (by decide) tysOk (q_of (LMa_ok g0)) mixed ?_
    repeat' (first | (simp only [w2]) | (apply And.intro <;> intro hc <;> (first | exact Bool.noConfusion hc | (exfalso; first | exact absurd rfl hc | omega) | (simp only [decide_eq_true_eq, decide_eq_false_iff_not, Bool.not_eq_true', Bool.not_eq_false', beq_iff_eq, beq_eq_false_iff_ne, bne_iff_ne, bne_eq_false_iff_eq, Bool.true_eq_false, Bool.false_eq_true, ne_eq, not_true_eq_false] at hc <;> first | exact absurd rfl hc | (exfalso; first | exact absurd rfl hc | omega) | skip) | skip)) | (refine And.intro (by first | exact trivial | decide | omega | (dsimp only; omega) | exact fun _ _ => rfl | exact ⟨by assumption, by first | exact trivial | decide | omega | (dsimp only; omega)⟩) ?_) | (apply And.intro) | (intro s hs; skip) | (refine Exists.intro _ (And.intro ⟨rfl, rfl, rfl⟩ ?_)))
    refine sem_step (wd := 1) (Q := mkQ (LMa g0)) (by decide) tysOk (q_of (LMa_ok g0)) mixed ?_
    repeat' (first | (simp only [w2]) | (apply And.intro <;> intro hc <;> (first | exact Bool.noConfusion hc | (exfalso; first | exact absurd rfl hc | omega) | (simp only [decide_eq_true_eq, decide_eq_false_iff_not, Bool.not_eq_true', Bool.not_eq_false', beq_iff_eq, beq_eq_false_iff_ne, bne_iff_ne, bne_eq_false_iff_eq, Bool.true_eq_false, Bool.false_eq_true, ne_eq, not_true_eq_false] at hc <;> first | exact absurd rfl hc | (exfalso; first | exact absurd rfl hc | omega) | skip) | skip)) | (refine And.intro (by first | exact trivial | decide | omega | (dsimp only; omega) | exact fun _ _ => rfl | exact ⟨by assumption, by first | exact trivial | decide | omega | (dsimp only; omega)⟩) ?_) | (apply And.intro) | (intro s hs; (have q : tr = s := hT.symm.trans hs.symm; clear hs; subst q)) | (refine Exists.intro _ (And.intro ⟨rfl, rfl, rfl⟩ ?_)))
    refine sem_step (wd := 1) (Q := mkQ (LMa g0)) (by decide) tysOk (q_of (LMa_ok g0)) mixed ?_
    repeat' (first | (simp only [w2]) | (apply And.intro <;> intro hc <;> (first | exact Bool.noConfusion hc | (exfalso; first | exact absurd rfl hc | omega) | (simp only [decide_eq_true_eq, decide_eq_false_iff_not, Bool.not_eq_true', Bool.not_eq_false', beq_iff_eq, beq_eq_false_iff_ne, bne_iff_ne, bne_eq_false_iff_eq, Bool.true_eq_false, Bool.false_eq_true, ne_eq, not_true_eq_false] at hc <;> first | exact absurd rfl hc | (exfalso; first | exact absurd rfl hc | omega) | skip) | skip)) | (refine And.intro (by first | exact trivial | decide | omega | (dsimp only; omega) | exact fun _ _ => rfl | exact ⟨by assumption, by first | exact trivial | decide | omega | (dsimp only; omega)⟩) ?_) | (apply And.intro) | (intro s hs; skip) | (refine Exists.intro _ (And.intro ⟨rfl, rfl, rfl⟩ ?_)))
    refine sem_step (wd := 1) (Q := mkQ (LMa g0)) (by decide) tysOk (q_of (LMa_ok g0)) mixed ?_
    repeat' (first | (simp only [w2, w3]) | (apply And.intro <;> intro hc <;> (first | exact Bool.noConfusion hc | (exfalso; first | exact absurd rfl hc | omega) | (simp only [decide_eq_true_eq, decide_eq_false_iff_not, Bool.not_eq_true', Bool.not_eq_false', beq_iff_eq, beq_eq_false_iff_ne, bne_iff_ne, bne_eq_false_iff_eq, Bool.true_eq_false, Bool.false_eq_true, ne_eq, not_true_eq_false] at hc <;> first | exact absurd rfl hc | (exfalso; first | exact absurd rfl hc | omega) | skip) | skip)) | (refine And.intro (by first | exact trivial | decide | omega | (dsimp only; omega) | exact fun _ _ => rfl | exact ⟨by assumption, by first | exact trivial | decide | omega | (dsimp only; omega)⟩) ?_) | (apply And.intro) | (intro s hs; (have q := rd_plc hs (toN_row0 neH_rd _) hP; clear hs; subst q)) | (refine Exists.intro _ (And.intro ⟨rfl, rfl, rfl⟩ ?_)))
    · exact fun _ _ => ⟨rfl, okD_sl _⟩
    · exact Eq.mpr (congrArg (fun z : List Hel => z.length ≤ 9223372036854775807) (toN_row0 neH_rd _)) (by omega)
    refine sem_step (wd := 1) (Q := mkQ (LMa g0)) (by decide) tysOk (q_of (LMa_ok g0)) mixed ?_
    repeat' (first | (simp only [w2, w3]) | (apply And.intro <;> intro hc <;> (first | exact Bool.noConfusion hc | (exfalso; first | exact absurd rfl hc | omega) | (simp only [decide_eq_true_eq, decide_eq_false_iff_not, Bool.not_eq_true', Bool.not_eq_false', beq_iff_eq, beq_eq_false_iff_ne, bne_iff_ne, bne_eq_false_iff_eq, Bool.true_eq_false, Bool.false_eq_true, ne_eq, not_true_eq_false] at hc <;> first | exact absurd rfl hc | (exfalso; first | exact absurd rfl hc | omega) | skip) | skip)) | (refine And.intro (by first | exact trivial | decide | omega | (dsimp only; omega) | exact fun _ _ => rfl | exact ⟨by assumption, by first | exact trivial | decide | omega | (dsimp only; omega)⟩) ?_) | (apply And.intro) | (intro s hs; skip) | (refine Exists.intro _ (And.intro ⟨rfl, rfl, rfl⟩ ?_)))
    refine sem_step (wd := 1) (Q := mkQ (LMa g0)) (by decide) tysOk (q_of (LMa_ok g0)) mixed ?_
    repeat' (first | (simp only [w2, w3]) | (apply And.intro <;> intro hc <;> (first | exact Bool.noConfusion hc | (exfalso; first | exact absurd rfl hc | omega) | (simp only [decide_eq_true_eq, decide_eq_false_iff_not, Bool.not_eq_true', Bool.not_eq_false', beq_iff_eq, beq_eq_false_iff_ne, bne_iff_ne, bne_eq_false_iff_eq, Bool.true_eq_false, Bool.false_eq_true, ne_eq, not_true_eq_false] at hc <;> first | exact absurd rfl hc | (exfalso; first | exact absurd rfl hc | omega) | skip) | skip)) | (refine And.intro (by first | exact trivial | decide | omega | (dsimp only; omega) | exact fun _ _ => rfl | exact ⟨by assumption, by first | exact trivial | decide | omega | (dsimp only; omega)⟩) ?_) | (apply And.intro) | (intro s hs; skip) | (refine Exists.intro _ (And.intro ⟨rfl, rfl, rfl⟩ ?_)))
    refine sem_exec (wd := 1) (Q := mkQ (LMa g0)) (by decide) tysOk (q_of (LMa_ok g0)) mixed ?_
    repeat' (first | (simp only [w2, w3]) | (apply And.intro <;> intro hc <;> (first | exact Bool.noConfusion hc | (exfalso; first | exact absurd rfl hc | omega) | (simp only [decide_eq_true_eq, decide_eq_false_iff_not, Bool.not_eq_true', Bool.not_eq_false', beq_iff_eq, beq_eq_false_iff_ne, bne_iff_ne, bne_eq_false_iff_eq, Bool.true_eq_false, Bool.false_eq_true, ne_eq, not_true_eq_false] at hc <;> first | exact absurd rfl hc | (exfalso; first | exact absurd rfl hc | omega) | skip) | skip)) | (refine And.intro (by first | exact trivial | decide | omega | (dsimp only; omega) | exact fun _ _ => rfl | exact ⟨by assumption, by first | exact trivial | decide | omega | (dsimp only; omega)⟩) ?_) | (apply And.intro) | (intro s hs; skip) | (refine Exists.intro _ (And.intro ⟨rfl, rfl, rfl⟩ ?_)))
    conv => whnf
    have hAl : (addSd sd (newH c now draw) i).held.length = sd.held.length + 1 := insA_len hle1
    refine fin_acc (s := addSd sd (newH c now draw) i) (d := 44) hR2 ha rfl (fun p h j => (updE_ne h).trans (rowA_ne h)) rfl rfl (by rw [hAl]; rfl) rfl rfl hAl.symm rfl fun q hq j hj => ?_
    rw [hAl] at hq
    show LeC _ _ (rowN neH (insA i (newH c now draw) sd.held) q j)
    refine ins_cells (r := rowN neH sd.held) hle1 ?_ hq (fun h => ?_) (fun h => ?_) (fun h => ?_)
    · show min (sd.held.length + 1 - i) (sd.held.length + 1 - (i + 1)) = _
      omega
    · rw [show rowN neH (insA i (newH c now draw) sd.held) q j = rowN neH sd.held q j from congrArg (fun z => neH.cell z j) (insA_lt hle1 h)]
      exact (neH.sh _ j hj).le
    · subst h
      rw [show rowN neH (insA q (newH c now draw) sd.held) q j = neH.cell (newH c now draw) j from congrArg (fun z => neH.cell z j) (insA_eq hle1)]
      have e0 : newH c now draw = ⟨c.num, c.data, tr.1, if 1099511627776 < now + 20 then 1099511627776 else now + 20⟩ := by unfold newH; rw [hT]
      rw [e0]
      iterate 11 (rcases j with _ | j; · first | exact leC_int rfl | exact leC_bool rfl | exact leC_os_sl rfl rfl rfl (by first | rfl | exact Nat.zero_add _) (by first | exact Nat.le_refl _ | (simp; done)) fun q hq j hj => leC_cell (E := eB) (congrArg (fun z => c.data.getD z default) (Nat.zero_add q)))
      exact absurd hj (by omega)
    · rw [show rowN neH (insA i (newH c now draw) sd.held) q j = rowN neH sd.held (q - 1) j from congrArg (fun z => neH.cell z j) (insA_gt hle1 h)]
      exact (neH.sh _ j hj).le
theorem acc3 (g0 : Nat) (L : List Sed) (a : Nat) (sd : Sed) (now : Int) (c : Cas) (deaf : Bool) (draw : Int) (hI : AcJ L a sd now c draw) (R : List Sed × Bool × Int) (hR : R = (L.set a (if deaf = true then raiseS sd (c.num + 1) else addSd sd (newH c now draw) (plcH c.num sd.held 0).1), !deaf, 0)) :
    Sem Try.prog Try.f11.ntmps 0 (dropC 11 (Try.f11.body.getD Code.ret)) (SB L a sd now c deaf draw ()).fr (SB L a sd now c deaf draw ()).H (SB L a sd now c deaf draw ()).nx (endH T Try.f11.results.toList fun x H _ => FinN (some R.1.length) (encAc R) (entN neS 78 R.1) x H) := by
  have h : a = 0 ∨ a = 1 ∨ a = 2 ∨ a = 3 ∨ a = 4 ∨ a = 5 ∨ a = 6 ∨ a = 7 ∨ a = 8 := by have := hI.lt; have := hI.n; omega
  rcases h with h | h | h | h | h | h | h | h | h
  · exact acc3_0 g0 L a sd now c deaf draw hI R hR h
  · exact acc3_1 g0 L a sd now c deaf draw hI R hR h
  · exact acc3_2 g0 L a sd now c deaf draw hI R hR h
  · exact acc3_3 g0 L a sd now c deaf draw hI R hR h
  · exact acc3_4 g0 L a sd now c deaf draw hI R hR h
  · exact acc3_5 g0 L a sd now c deaf draw hI R hR h
  · exact acc3_6 g0 L a sd now c deaf draw hI R hR h
  · exact acc3_7 g0 L a sd now c deaf draw hI R hR h
  · exact acc3_8 g0 L a sd now c deaf draw hI R hR h
end Go.Proofs.Ytfaibcgakcmhcaa.AX

/- Package multicast by AX2: Accept, from the sender's place to the raising. -/
namespace Go.Proofs.Ytfaibcgakcmhcaa.AX
open Go.RowKit
set_option linter.unusedVariables false
set_option linter.unusedSimpArgs false
set_option maxHeartbeats 8000000 in
set_option maxRecDepth 20000 in
theorem acc2_0 (g0 : Nat) (L : List Sed) (a : Nat) (now : Int) (c : Cas) (deaf : Bool) (draw : Int) (hI : AcI L a now c draw) (R : List Sed × Bool × Int) (hR : R = (L.set a (accS (L.getD a default) now c deaf draw).1, (accS (L.getD a default) now c deaf draw).2, 0)) (a3 : a = 0) :
    Sem Try.prog Try.f11.ntmps 0 (dropC 7 (Try.f11.body.getD Code.ret)) (SA L a now c deaf draw ()).fr (SA L a now c deaf draw ()).H (SA L a now c deaf draw ()).nx (endH T Try.f11.results.toList fun x H _ => FinN (some R.1.length) (encAc R) (entN neS 78 R.1) x H) := by
  obtain ⟨ha, hn, hk, hh, hmn, hnum, hd, hnow, hdr⟩ := hI
  unfold SA
  rw [entG_A]
  obtain ⟨sd, es⟩ : ∃ s, L.getD a default = s := ⟨_, rfl⟩
  rw [es] at hk hh hmn hR ⊢
  subst a3
  refine sem_step (wd := 1) (Q := mkQ (LMa g0)) (by decide) tysOk (q_of (LMa_ok g0)) mixed ?_
  repeat' (first | (apply And.intro <;> intro hc <;> (first | exact Bool.noConfusion hc | (exfalso; first | exact absurd rfl hc | omega) | (simp only [decide_eq_true_eq, decide_eq_false_iff_not, Bool.not_eq_true', Bool.not_eq_false', beq_iff_eq, beq_eq_false_iff_ne, bne_iff_ne, bne_eq_false_iff_eq, Bool.true_eq_false, Bool.false_eq_true, ne_eq, not_true_eq_false] at hc <;> first | exact absurd rfl hc | (exfalso; first | exact absurd rfl hc | omega) | skip) | skip)) | (refine And.intro (by first | exact trivial | decide | omega | (dsimp only; omega) | exact fun _ _ => rfl | exact ⟨by assumption, by first | exact trivial | decide | omega | (dsimp only; omega)⟩) ?_) | (apply And.intro) | (intro s hs; skip) | (refine Exists.intro _ (And.intro ⟨rfl, rfl, rfl⟩ ?_)))
  refine sem_step (wd := 1) (Q := mkQ (LMa g0)) (by decide) tysOk (q_of (LMa_ok g0)) mixed ?_
  repeat' (first | (apply And.intro <;> intro hc <;> (first | exact Bool.noConfusion hc | (exfalso; first | exact absurd rfl hc | omega) | (simp only [decide_eq_true_eq, decide_eq_false_iff_not, Bool.not_eq_true', Bool.not_eq_false', beq_iff_eq, beq_eq_false_iff_ne, bne_iff_ne, bne_eq_false_iff_eq, Bool.true_eq_false, Bool.false_eq_true, ne_eq, not_true_eq_false] at hc <;> first | exact absurd rfl hc | (exfalso; first | exact absurd rfl hc | omega) | skip) | skip)) | (refine And.intro (by first | exact trivial | decide | omega | (dsimp only; omega) | exact fun _ _ => rfl | exact ⟨by assumption, by first | exact trivial | decide | omega | (dsimp only; omega)⟩) ?_) | (apply And.intro) | (intro s hs; skip) | (refine Exists.intro _ (And.intro ⟨rfl, rfl, rfl⟩ ?_)))
  · refine fin_acc (s := sd) (d := 2) (hR.trans ?_) ha rfl (fun p h j => rowA_ne h) rfl rfl rfl rfl rfl rfl rfl fun q hq j hj => (neH.sh _ j hj).le
    unfold accS
    rw [if_pos hc]
  have hge := hc
  have w1 : IntKind.i64.wrap (c.num - 31) = c.num - 31 := IntWalk.i64_in _ (by omega)
  obtain ⟨⟨i, b⟩, hP⟩ : ∃ P, plcH c.num sd.held 0 = P := ⟨_, rfl⟩
  have hle := plc_le (id := c.num) (L := sd.held) (k := 0)
  rw [hP, Nat.zero_add] at hle
  dsimp only at hle
  obtain ⟨hle1, hle2, _⟩ := hle
  cases b with
  | true =>
    have hil := hle2 rfl
    clear hle2
    have hR2 : R = (L.set 0 (hearS sd i), false, 0) := by
      rw [hR]; unfold accS; rw [if_neg (by omega), hP]; rfl
    refine sem_step (wd := 1) (Q := mkQ (LMa g0)) (by decide) tysOk (q_of (LMa_ok g0)) mixed ?_
    repeat' (first | (apply And.intro <;> intro hc <;> (first | exact Bool.noConfusion hc | (exfalso; first | exact absurd rfl hc | omega) | (simp only [decide_eq_true_eq, decide_eq_false_iff_not, Bool.not_eq_true', Bool.not_eq_false', beq_iff_eq, beq_eq_false_iff_ne, bne_iff_ne, bne_eq_false_iff_eq, Bool.true_eq_false, Bool.false_eq_true, ne_eq, not_true_eq_false] at hc <;> first | exact absurd rfl hc | (exfalso; first | exact absurd rfl hc | omega) | skip) | skip)) | (refine And.intro (by first | exact trivial | decide | omega | (dsimp only; omega) | exact fun _ _ => rfl | exact ⟨by assumption, by first | exact trivial | decide | omega | (dsimp only; omega)⟩) ?_) | (apply And.intro) | (intro s hs; (first | (have q := rd_plc hs (toN_row0 neH_rd _) hP; clear hs; subst q) | (have q := rd_hear hs (Nat.zero_add i); clear hs; subst q))) | (refine Exists.intro _ (And.intro ⟨rfl, rfl, rfl⟩ ?_)))
    · exact fun _ _ => ⟨rfl, okD_sl _⟩
    · exact Eq.mpr (congrArg (fun z : List Hel => z.length ≤ 9223372036854775807) (toN_row0 neH_rd _)) (by omega)
    conv => whnf
    have hLh : (hearS sd i).held.length = sd.held.length := List.length_set
    refine fin_acc (s := hearS sd i) (d := 2) hR2 ha rfl (fun p h j => rowA_ne h) rfl rfl (by rw [hLh]; rfl) rfl rfl hLh.symm rfl fun q hq j hj => hel_row hil hj
  | false =>
    clear hle2
    refine sem_step (wd := 1) (Q := mkQ (LMa g0)) (by decide) tysOk (q_of (LMa_ok g0)) mixed ?_
    repeat' (first | (apply And.intro <;> intro hc <;> (first | exact Bool.noConfusion hc | (exfalso; first | exact absurd rfl hc | omega) | (simp only [decide_eq_true_eq, decide_eq_false_iff_not, Bool.not_eq_true', Bool.not_eq_false', beq_iff_eq, beq_eq_false_iff_ne, bne_iff_ne, bne_eq_false_iff_eq, Bool.true_eq_false, Bool.false_eq_true, ne_eq, not_true_eq_false] at hc <;> first | exact absurd rfl hc | (exfalso; first | exact absurd rfl hc | omega) | skip) | skip)) | (refine And.intro (by first | exact trivial | decide | omega | (dsimp only; omega) | exact fun _ _ => rfl | exact ⟨by assumption, by first | exact trivial | decide | omega | (dsimp only; omega)⟩) ?_) | (apply And.intro) | (intro s hs; (first | (have q := rd_plc hs (toN_row0 neH_rd _) hP; clear hs; subst q))) | (refine Exists.intro _ (And.intro ⟨rfl, rfl, rfl⟩ ?_)))
    · exact fun _ _ => ⟨rfl, okD_sl _⟩
    · exact Eq.mpr (congrArg (fun z : List Hel => z.length ≤ 9223372036854775807) (toN_row0 neH_rd _)) (by omega)
    change Sem _ _ _ _ _ _ _ _
    refine sem_cut (wd := 1024) (Q := mkQ (LMa g0)) (by decide) tysOk (q_of (LMa_ok g0)) (mono_of (LMa_ok g0)) mixed (SB L 0 (raiseS sd (c.num - 31)) now c deaf draw) (by intro _; rfl) ?_ ?_
    · repeat' (first | (simp only [w1]) | (apply And.intro <;> intro hc <;> (first | exact Bool.noConfusion hc | (exfalso; first | exact absurd rfl hc | omega) | (simp only [decide_eq_true_eq, decide_eq_false_iff_not, Bool.not_eq_true', Bool.not_eq_false', beq_iff_eq, beq_eq_false_iff_ne, bne_iff_ne, bne_eq_false_iff_eq, Bool.true_eq_false, Bool.false_eq_true, ne_eq, not_true_eq_false] at hc <;> first | exact absurd rfl hc | (exfalso; first | exact absurd rfl hc | omega) | skip) | skip)) | (refine And.intro (by first | exact trivial | decide | omega | (dsimp only; omega) | exact fun _ _ => rfl | exact ⟨by assumption, by first | exact trivial | decide | omega | (dsimp only; omega)⟩) ?_) | (apply And.intro) | (intro s hs; skip) | (refine Exists.intro _ (And.intro ⟨rfl, rfl, rfl⟩ ?_)))
      · exact rfl
      · conv => whnf
        rw [show raiseS sd (c.num - 31) = sd from if_pos hc]
        exact ⟨(), [], rfl, ⟨leF_int rfl, leF_bool rfl, leF_int rfl, leF_ptr rfl, leF_c (leC_os rfl rfl), leF_ptr rfl, trivial⟩, ⟨⟨rfl, leN_varA fun j hj => (neC.sh _ j hj).le⟩, ⟨rfl, ⟨rfl, rfl, rfl, rfl, fun p hp j hj => rowA_le hj rfl⟩⟩, ⟨rfl, leN_entN⟩, trivial⟩⟩
      · exact ⟨rfl, okD_sl _⟩
      · exact Eq.mpr (congrArg KpI (toN_row0 neH_rd _)) hk
      · conv => whnf
        have q : sd.held.filter (wantB (some (c.num - 31))) = s := (hs.trans (by rw [toN_row0 neH_rd])).symm
        clear hs
        rw [show raiseS sd (c.num - 31) = ⟨sd.id, c.num - 31, s⟩ from (if_neg hc).trans (by rw [q])]
        refine ⟨(), [(2, some 4141)], rfl, ⟨leF_int rfl, leF_bool rfl, leF_int rfl, leF_ptr rfl, leF_c (leC_os rfl rfl), leF_ptr rfl, trivial⟩, ⟨⟨rfl, leN_varA fun j hj => (neC.sh _ j hj).le⟩, ⟨rfl, ⟨rfl, rfl, rfl, rfl, fun p hp j hj => ?_⟩⟩, ⟨rfl, leN_entN⟩, trivial⟩⟩
        have hj : j < 3 := hj
        refine rowA_to hj (fun h => (updE_ne h).trans ((updE_ne h).trans (rowA_ne h))) fun h => ?_
        subst h
        rcases j with _ | _ | _ | j
        · exact leC_int rfl
        · exact leC_int rfl
        · exact leC_os rfl rfl
        · omega
    · intro _
      refine acc3 g0 L 0 (raiseS sd (c.num - 31)) now c deaf draw ⟨ha, hn, raise_k hk, raise_h hh, hnum, hd, hnow, hdr⟩ R ?_
      rw [hR]
      unfold accS
      rw [if_neg hge, hP]
      cases deaf <;> rfl
set_option maxHeartbeats 8000000 in
set_option maxRecDepth 20000 in
theorem acc2_1 (g0 : Nat) (L : List Sed) (a : Nat) (now : Int) (c : Cas) (deaf : Bool) (draw : Int) (hI : AcI L a now c draw) (R : List Sed × Bool × Int) (hR : R = (L.set a (accS (L.getD a default) now c deaf draw).1, (accS (L.getD a default) now c deaf draw).2, 0)) (a3 : a = 1) :
    Sem Try.prog Try.f11.ntmps 0 (dropC 7 (Try.f11.body.getD Code.ret)) (SA L a now c deaf draw ()).fr (SA L a now c deaf draw ()).H (SA L a now c deaf draw ()).nx (endH T Try.f11.results.toList fun x H _ => FinN (some R.1.length) (encAc R) (entN neS 78 R.1) x H) := by
  obtain ⟨ha, hn, hk, hh, hmn, hnum, hd, hnow, hdr⟩ := hI
  unfold SA
  rw [entG_A]
  obtain ⟨sd, es⟩ : ∃ s, L.getD a default = s := ⟨_, rfl⟩
  rw [es] at hk hh hmn hR ⊢
  subst a3
  refine sem_step (wd := 1) (Q := mkQ (LMa g0)) (by decide) tysOk (q_of (LMa_ok g0)) mixed ?_
  repeat' (first | (apply And.intro <;> intro hc <;> (first | exact Bool.noConfusion hc | (exfalso; first | exact absurd rfl hc | omega) | (simp only [decide_eq_true_eq, decide_eq_false_iff_not, Bool.not_eq_true', Bool.not_eq_false', beq_iff_eq, beq_eq_false_iff_ne, bne_iff_ne, bne_eq_false_iff_eq, Bool.true_eq_false, Bool.false_eq_true, ne_eq, not_true_eq_false] at hc <;> first | exact absurd rfl hc | (exfalso; first | exact absurd rfl hc | omega) | skip) | skip)) | (refine And.intro (by first | exact trivial | decide | omega | (dsimp only; omega) | exact fun _ _ => rfl | exact ⟨by assumption, by first | exact trivial | decide | omega | (dsimp only; omega)⟩) ?_) | (apply And.intro) | (intro s hs; skip) | (refine Exists.intro _ (And.intro ⟨rfl, rfl, rfl⟩ ?_)))
  refine sem_step (wd := 1) (Q := mkQ (LMa g0)) (by decide) tysOk (q_of (LMa_ok g0)) mixed ?_
  repeat' (first | (apply And.intro <;> intro hc <;> (first | exact Bool.noConfusion hc | (exfalso; first | exact absurd rfl hc | omega) | (simp only [decide_eq_true_eq, decide_eq_false_iff_not, Bool.not_eq_true', Bool.not_eq_false', beq_iff_eq, beq_eq_false_iff_ne, bne_iff_ne, bne_eq_false_iff_eq, Bool.true_eq_false, Bool.false_eq_true, ne_eq, not_true_eq_false] at hc <;> first | exact absurd rfl hc | (exfalso; first | exact absurd rfl hc | omega) | skip) | skip)) | (refine And.intro (by first | exact trivial | decide | omega | (dsimp only; omega) | exact fun _ _ => rfl | exact ⟨by assumption, by first | exact trivial | decide | omega | (dsimp only; omega)⟩) ?_) | (apply And.intro) | (intro s hs; skip) | (refine Exists.intro _ (And.intro ⟨rfl, rfl, rfl⟩ ?_)))
  · refine fin_acc (s := sd) (d := 2) (hR.trans ?_) ha rfl (fun p h j => rowA_ne h) rfl rfl rfl rfl rfl rfl rfl fun q hq j hj => (neH.sh _ j hj).le
    unfold accS
    rw [if_pos hc]
  have hge := hc
  have w1 : IntKind.i64.wrap (c.num - 31) = c.num - 31 := IntWalk.i64_in _ (by omega)
  obtain ⟨⟨i, b⟩, hP⟩ : ∃ P, plcH c.num sd.held 0 = P := ⟨_, rfl⟩
  have hle := plc_le (id := c.num) (L := sd.held) (k := 0)
  rw [hP, Nat.zero_add] at hle
  dsimp only at hle
  obtain ⟨hle1, hle2, _⟩ := hle
  cases b with
  | true =>
    have hil := hle2 rfl
    clear hle2
    have hR2 : R = (L.set 1 (hearS sd i), false, 0) := by
      rw [hR]; unfold accS; rw [if_neg (by omega), hP]; rfl
    refine sem_step (wd := 1) (Q := mkQ (LMa g0)) (by decide) tysOk (q_of (LMa_ok g0)) mixed ?_
    repeat' (first | (apply And.intro <;> intro hc <;> (first | exact Bool.noConfusion hc | (exfalso; first | exact absurd rfl hc | omega) | (simp only [decide_eq_true_eq, decide_eq_false_iff_not, Bool.not_eq_true', Bool.not_eq_false', beq_iff_eq, beq_eq_false_iff_ne, bne_iff_ne, bne_eq_false_iff_eq, Bool.true_eq_false, Bool.false_eq_true, ne_eq, not_true_eq_false] at hc <;> first | exact absurd rfl hc | (exfalso; first | exact absurd rfl hc | omega) | skip) | skip)) | (refine And.intro (by first | exact trivial | decide | omega | (dsimp only; omega) | exact fun _ _ => rfl | exact ⟨by assumption, by first | exact trivial | decide | omega | (dsimp only; omega)⟩) ?_) | (apply And.intro) | (intro s hs; (first | (have q := rd_plc hs (toN_row0 neH_rd _) hP; clear hs; subst q) | (have q := rd_hear hs (Nat.zero_add i); clear hs; subst q))) | (refine Exists.intro _ (And.intro ⟨rfl, rfl, rfl⟩ ?_)))
    · exact fun _ _ => ⟨rfl, okD_sl _⟩
    · exact Eq.mpr (congrArg (fun z : List Hel => z.length ≤ 9223372036854775807) (toN_row0 neH_rd _)) (by omega)
    conv => whnf
    have hLh : (hearS sd i).held.length = sd.held.length := List.length_set
    refine fin_acc (s := hearS sd i) (d := 2) hR2 ha rfl (fun p h j => rowA_ne h) rfl rfl (by rw [hLh]; rfl) rfl rfl hLh.symm rfl fun q hq j hj => hel_row hil hj
  | false =>
    clear hle2
    refine sem_step (wd := 1) (Q := mkQ (LMa g0)) (by decide) tysOk (q_of (LMa_ok g0)) mixed ?_
    repeat' (first | (apply And.intro <;> intro hc <;> (first | exact Bool.noConfusion hc | (exfalso; first | exact absurd rfl hc | omega) | (simp only [decide_eq_true_eq, decide_eq_false_iff_not, Bool.not_eq_true', Bool.not_eq_false', beq_iff_eq, beq_eq_false_iff_ne, bne_iff_ne, bne_eq_false_iff_eq, Bool.true_eq_false, Bool.false_eq_true, ne_eq, not_true_eq_false] at hc <;> first | exact absurd rfl hc | (exfalso; first | exact absurd rfl hc | omega) | skip) | skip)) | (refine And.intro (by first | exact trivial | decide | omega | (dsimp only; omega) | exact fun _ _ => rfl | exact ⟨by assumption, by first | exact trivial | decide | omega | (dsimp only; omega)⟩) ?_) | (apply And.intro) | (intro s hs; (first | (have q := rd_plc hs (toN_row0 neH_rd _) hP; clear hs; subst q))) | (refine Exists.intro _ (And.intro ⟨rfl, rfl, rfl⟩ ?_)))
    · exact fun _ _ => ⟨rfl, okD_sl _⟩
    · exact Eq.mpr (congrArg (fun z : List Hel => z.length ≤ 9223372036854775807) (toN_row0 neH_rd _)) (by omega)
    change Sem _ _ _ _ _ _ _ _
    refine sem_cut (wd := 1024) (Q := mkQ (LMa g0)) (by decide) tysOk (q_of (LMa_ok g0)) (mono_of (LMa_ok g0)) mixed (SB L 1 (raiseS sd (c.num - 31)) now c deaf draw) (by intro _; rfl) ?_ ?_
    · repeat' (first | (simp only [w1]) | (apply And.intro <;> intro hc <;> (first | exact Bool.noConfusion hc | (exfalso; first | exact absurd rfl hc | omega) | (simp only [decide_eq_true_eq, decide_eq_false_iff_not, Bool.not_eq_true', Bool.not_eq_false', beq_iff_eq, beq_eq_false_iff_ne, bne_iff_ne, bne_eq_false_iff_eq, Bool.true_eq_false, Bool.false_eq_true, ne_eq, not_true_eq_false] at hc <;> first | exact absurd rfl hc | (exfalso; first | exact absurd rfl hc | omega) | skip) | skip)) | (refine And.intro (by first | exact trivial | decide | omega | (dsimp only; omega) | exact fun _ _ => rfl | exact ⟨by assumption, by first | exact trivial | decide | omega | (dsimp only; omega)⟩) ?_) | (apply And.intro) | (intro s hs; skip) | (refine Exists.intro _ (And.intro ⟨rfl, rfl, rfl⟩ ?_)))
      · exact rfl
      · conv => whnf
        rw [show raiseS sd (c.num - 31) = sd from if_pos hc]
        exact ⟨(), [], rfl, ⟨leF_int rfl, leF_bool rfl, leF_int rfl, leF_ptr rfl, leF_c (leC_os rfl rfl), leF_ptr rfl, trivial⟩, ⟨⟨rfl, leN_varA fun j hj => (neC.sh _ j hj).le⟩, ⟨rfl, ⟨rfl, rfl, rfl, rfl, fun p hp j hj => rowA_le hj rfl⟩⟩, ⟨rfl, leN_entN⟩, trivial⟩⟩
      · exact ⟨rfl, okD_sl _⟩
      · exact Eq.mpr (congrArg KpI (toN_row0 neH_rd _)) hk
      · conv => whnf
        have q : sd.held.filter (wantB (some (c.num - 31))) = s := (hs.trans (by rw [toN_row0 neH_rd])).symm
        clear hs
        rw [show raiseS sd (c.num - 31) = ⟨sd.id, c.num - 31, s⟩ from (if_neg hc).trans (by rw [q])]
        refine ⟨(), [(2, some 4141)], rfl, ⟨leF_int rfl, leF_bool rfl, leF_int rfl, leF_ptr rfl, leF_c (leC_os rfl rfl), leF_ptr rfl, trivial⟩, ⟨⟨rfl, leN_varA fun j hj => (neC.sh _ j hj).le⟩, ⟨rfl, ⟨rfl, rfl, rfl, rfl, fun p hp j hj => ?_⟩⟩, ⟨rfl, leN_entN⟩, trivial⟩⟩
        have hj : j < 3 := hj
        refine rowA_to hj (fun h => (updE_ne h).trans ((updE_ne h).trans (rowA_ne h))) fun h => ?_
        subst h
        rcases j with _ | _ | _ | j
        · exact leC_int rfl
        · exact leC_int rfl
        · exact leC_os rfl rfl
        · omega
    · intro _
      refine acc3 g0 L 1 (raiseS sd (c.num - 31)) now c deaf draw ⟨ha, hn, raise_k hk, raise_h hh, hnum, hd, hnow, hdr⟩ R ?_
      rw [hR]
      unfold accS
      rw [if_neg hge, hP]
      cases deaf <;> rfl
set_option maxHeartbeats 8000000 in
set_option maxRecDepth 20000 in
theorem acc2_2 (g0 : Nat) (L : List Sed) (a : Nat) (now : Int) (c : Cas) (deaf : Bool) (draw : Int) (hI : AcI L a now c draw) (R : List Sed × Bool × Int) (hR : R = (L.set a (accS (L.getD a default) now c deaf draw).1, (accS (L.getD a default) now c deaf draw).2, 0)) (a3 : a = 2) :
    Sem Try.prog Try.f11.ntmps 0 (dropC 7 (Try.f11.body.getD Code.ret)) (SA L a now c deaf draw ()).fr (SA L a now c deaf draw ()).H (SA L a now c deaf draw ()).nx (endH T Try.f11.results.toList fun x H _ => FinN (some R.1.length) (encAc R) (entN neS 78 R.1) x H) := by
  obtain ⟨ha, hn, hk, hh, hmn, hnum, hd, hnow, hdr⟩ := hI
  unfold SA
  rw [entG_A]
  obtain ⟨sd, es⟩ : ∃ s, L.getD a default = s := ⟨_, rfl⟩
  rw [es] at hk hh hmn hR ⊢
  subst a3
  refine sem_step (wd := 1) (Q := mkQ (LMa g0)) (by decide) tysOk (q_of (LMa_ok g0)) mixed ?_
  repeat' (first | (apply And.intro <;> intro hc <;> (first | exact Bool.noConfusion hc | (exfalso; first | exact absurd rfl hc | omega) | (simp only [decide_eq_true_eq, decide_eq_false_iff_not, Bool.not_eq_true', Bool.not_eq_false', beq_iff_eq, beq_eq_false_iff_ne, bne_iff_ne, bne_eq_false_iff_eq, Bool.true_eq_false, Bool.false_eq_true, ne_eq, not_true_eq_false] at hc <;> first | exact absurd rfl hc | (exfalso; first | exact absurd rfl hc | omega) | skip) | skip)) | (refine And.intro (by first | exact trivial | decide | omega | (dsimp only; omega) | exact fun _ _ => rfl | exact ⟨by assumption, by first | exact trivial | decide | omega | (dsimp only; omega)⟩) ?_) | (apply And.intro) | (intro s hs; skip) | (refine Exists.intro _ (And.intro ⟨rfl, rfl, rfl⟩ ?_)))
  refine sem_step (wd := 1) (Q := mkQ (LMa g0)) (by decide) tysOk (q_of (LMa_ok g0)) mixed ?_
  repeat' (first | (apply And.intro <;> intro hc <;> (first | exact Bool.noConfusion hc | (exfalso; first | exact absurd rfl hc | omega) | (simp only [decide_eq_true_eq, decide_eq_false_iff_not, Bool.not_eq_true', Bool.not_eq_false', beq_iff_eq, beq_eq_false_iff_ne, bne_iff_ne, bne_eq_false_iff_eq, Bool.true_eq_false, Bool.false_eq_true, ne_eq, not_true_eq_false] at hc <;> first | exact absurd rfl hc | (exfalso; first | exact absurd rfl hc | omega) | skip) | skip)) | (refine And.intro (by first | exact trivial | decide | omega | (dsimp only; omega) | exact fun _ _ => rfl | exact ⟨by assumption, by first | exact trivial | decide | omega | (dsimp only; omega)⟩) ?_) | (apply And.intro) | (intro s hs; skip) | (refine Exists.intro _ (And.intro ⟨rfl, rfl, rfl⟩ ?_)))
  · refine fin_acc (s := sd) (d := 2) (hR.trans ?_) ha rfl (fun p h j => rowA_ne h) rfl rfl rfl rfl rfl rfl rfl fun q hq j hj => (neH.sh _ j hj).le
    unfold accS
    rw [if_pos hc]
  have hge := hc
  have w1 : IntKind.i64.wrap (c.num - 31) = c.num - 31 := IntWalk.i64_in _ (by omega)
  obtain ⟨⟨i, b⟩, hP⟩ : ∃ P, plcH c.num sd.held 0 = P := ⟨_, rfl⟩
  have hle := plc_le (id := c.num) (L := sd.held) (k := 0)
  rw [hP, Nat.zero_add] at hle
  dsimp only at hle
  obtain ⟨hle1, hle2, _⟩ := hle
  cases b with
  | true =>
    have hil := hle2 rfl
    clear hle2
    have hR2 : R = (L.set 2 (hearS sd i), false, 0) := by
      rw [hR]; unfold accS; rw [if_neg (by omega), hP]; rfl
    refine sem_step (wd := 1) (Q := mkQ (LMa g0)) (by decide) tysOk (q_of (LMa_ok g0)) mixed ?_
    repeat' (first | (apply And.intro <;> intro hc <;> (first | exact Bool.noConfusion hc | (exfalso; first | exact absurd rfl hc | omega) | (simp only [decide_eq_true_eq, decide_eq_false_iff_not, Bool.not_eq_true', Bool.not_eq_false', beq_iff_eq, beq_eq_false_iff_ne, bne_iff_ne, bne_eq_false_iff_eq, Bool.true_eq_false, Bool.false_eq_true, ne_eq, not_true_eq_false] at hc <;> first | exact absurd rfl hc | (exfalso; first | exact absurd rfl hc | omega) | skip) | skip)) | (refine And.intro (by first | exact trivial | decide | omega | (dsimp only; omega) | exact fun _ _ => rfl | exact ⟨by assumption, by first | exact trivial | decide | omega | (dsimp only; omega)⟩) ?_) | (apply And.intro) | (intro s hs; (first | (have q := rd_plc hs (toN_row0 neH_rd _) hP; clear hs; subst q) | (have q := rd_hear hs (Nat.zero_add i); clear hs; subst q))) | (refine Exists.intro _ (And.intro ⟨rfl, rfl, rfl⟩ ?_)))
    · exact fun _ _ => ⟨rfl, okD_sl _⟩
    · exact Eq.mpr (congrArg (fun z : List Hel => z.length ≤ 9223372036854775807) (toN_row0 neH_rd _)) (by omega)
    conv => whnf
    have hLh : (hearS sd i).held.length = sd.held.length := List.length_set
    refine fin_acc (s := hearS sd i) (d := 2) hR2 ha rfl (fun p h j => rowA_ne h) rfl rfl (by rw [hLh]; rfl) rfl rfl hLh.symm rfl fun q hq j hj => hel_row hil hj
  | false =>
    clear hle2
    refine sem_step (wd := 1) (Q := mkQ (LMa g0)) (by decide) tysOk (q_of (LMa_ok g0)) mixed ?_
    repeat' (first | (apply And.intro <;> intro hc <;> (first | exact Bool.noConfusion hc | (exfalso; first | exact absurd rfl hc | omega) | (simp only [decide_eq_true_eq, decide_eq_false_iff_not, Bool.not_eq_true', Bool.not_eq_false', beq_iff_eq, beq_eq_false_iff_ne, bne_iff_ne, bne_eq_false_iff_eq, Bool.true_eq_false, Bool.false_eq_true, ne_eq, not_true_eq_false] at hc <;> first | exact absurd rfl hc | (exfalso; first | exact absurd rfl hc | omega) | skip) | skip)) | (refine And.intro (by first | exact trivial | decide | omega | (dsimp only; omega) | exact fun _ _ => rfl | exact ⟨by assumption, by first | exact trivial | decide | omega | (dsimp only; omega)⟩) ?_) | (apply And.intro) | (intro s hs; (first | (have q := rd_plc hs (toN_row0 neH_rd _) hP; clear hs; subst q))) | (refine Exists.intro _ (And.intro ⟨rfl, rfl, rfl⟩ ?_)))
    · exact fun _ _ => ⟨rfl, okD_sl _⟩
    · exact Eq.mpr (congrArg (fun z : List Hel => z.length ≤ 9223372036854775807) (toN_row0 neH_rd _)) (by omega)
    change Sem _ _ _ _ _ _ _ _
    refine sem_cut (wd := 1024) (Q := mkQ (LMa g0)) (by decide) tysOk (q_of (LMa_ok g0)) (mono_of (LMa_ok g0)) mixed (SB L 2 (raiseS sd (c.num - 31)) now c deaf draw) (by intro _; rfl) ?_ ?_
    · repeat' (first | (simp only [w1]) | (apply And.intro <;> intro hc <;> (first | exact Bool.noConfusion hc | (exfalso; first | exact absurd rfl hc | omega) | (simp only [decide_eq_true_eq, decide_eq_false_iff_not, Bool.not_eq_true', Bool.not_eq_false', beq_iff_eq, beq_eq_false_iff_ne, bne_iff_ne, bne_eq_false_iff_eq, Bool.true_eq_false, Bool.false_eq_true, ne_eq, not_true_eq_false] at hc <;> first | exact absurd rfl hc | (exfalso; first | exact absurd rfl hc | omega) | skip) | skip)) | (refine And.intro (by first | exact trivial | decide | omega | (dsimp only; omega) | exact fun _ _ => rfl | exact ⟨by assumption, by first | exact trivial | decide | omega | (dsimp only; omega)⟩) ?_) | (apply And.intro) | (intro s hs; skip) | (refine Exists.intro _ (And.intro ⟨rfl, rfl, rfl⟩ ?_)))
      · exact rfl
      · conv => whnf
        rw [show raiseS sd (c.num - 31) = sd from if_pos hc]
        exact ⟨(), [], rfl, ⟨leF_int rfl, leF_bool rfl, leF_int rfl, leF_ptr rfl, leF_c (leC_os rfl rfl), leF_ptr rfl, trivial⟩, ⟨⟨rfl, leN_varA fun j hj => (neC.sh _ j hj).le⟩, ⟨rfl, ⟨rfl, rfl, rfl, rfl, fun p hp j hj => rowA_le hj rfl⟩⟩, ⟨rfl, leN_entN⟩, trivial⟩⟩
      · exact ⟨rfl, okD_sl _⟩
      · exact Eq.mpr (congrArg KpI (toN_row0 neH_rd _)) hk
      · conv => whnf
        have q : sd.held.filter (wantB (some (c.num - 31))) = s := (hs.trans (by rw [toN_row0 neH_rd])).symm
        clear hs
        rw [show raiseS sd (c.num - 31) = ⟨sd.id, c.num - 31, s⟩ from (if_neg hc).trans (by rw [q])]
        refine ⟨(), [(2, some 4141)], rfl, ⟨leF_int rfl, leF_bool rfl, leF_int rfl, leF_ptr rfl, leF_c (leC_os rfl rfl), leF_ptr rfl, trivial⟩, ⟨⟨rfl, leN_varA fun j hj => (neC.sh _ j hj).le⟩, ⟨rfl, ⟨rfl, rfl, rfl, rfl, fun p hp j hj => ?_⟩⟩, ⟨rfl, leN_entN⟩, trivial⟩⟩
        have hj : j < 3 := hj
        refine rowA_to hj (fun h => (updE_ne h).trans ((updE_ne h).trans (rowA_ne h))) fun h => ?_
        subst h
        rcases j with _ | _ | _ | j
        · exact leC_int rfl
        · exact leC_int rfl
        · exact leC_os rfl rfl
        · omega
    · intro _
      refine acc3 g0 L 2 (raiseS sd (c.num - 31)) now c deaf draw ⟨ha, hn, raise_k hk, raise_h hh, hnum, hd, hnow, hdr⟩ R ?_
      rw [hR]
      unfold accS
      rw [if_neg hge, hP]
      cases deaf <;> rfl
set_option maxHeartbeats 8000000 in
set_option maxRecDepth 20000 in
theorem acc2_3 (g0 : Nat) (L : List Sed) (a : Nat) (now : Int) (c : Cas) (deaf : Bool) (draw : Int) (hI : AcI L a now c draw) (R : List Sed × Bool × Int) (hR : R = (L.set a (accS (L.getD a default) now c deaf draw).1, (accS (L.getD a default) now c deaf draw).2, 0)) (a3 : a = 3) :
    Sem Try.prog Try.f11.ntmps 0 (dropC 7 (Try.f11.body.getD Code.ret)) (SA L a now c deaf draw ()).fr (SA L a now c deaf draw ()).H (SA L a now c deaf draw ()).nx (endH T Try.f11.results.toList fun x H _ => FinN (some R.1.length) (encAc R) (entN neS 78 R.1) x H) := by
  obtain ⟨ha, hn, hk, hh, hmn, hnum, hd, hnow, hdr⟩ := hI
  unfold SA
  rw [entG_A]
  obtain ⟨sd, es⟩ : ∃ s, L.getD a default = s := ⟨_, rfl⟩
  rw [es] at hk hh hmn hR ⊢
  subst a3
  refine sem_step (wd := 1) (Q := mkQ (LMa g0)) (by decide) tysOk (q_of (LMa_ok g0)) mixed ?_
  repeat' (first | (apply And.intro <;> intro hc <;> (first | exact Bool.noConfusion hc | (exfalso; first | exact absurd rfl hc | omega) | (simp only [decide_eq_true_eq, decide_eq_false_iff_not, Bool.not_eq_true', Bool.not_eq_false', beq_iff_eq, beq_eq_false_iff_ne, bne_iff_ne, bne_eq_false_iff_eq, Bool.true_eq_false, Bool.false_eq_true, ne_eq, not_true_eq_false] at hc <;> first | exact absurd rfl hc | (exfalso; first | exact absurd rfl hc | omega) | skip) | skip)) | (refine And.intro (by first | exact trivial | decide | omega | (dsimp only; omega) | exact fun _ _ => rfl | exact ⟨by assumption, by first | exact trivial | decide | omega | (dsimp only; omega)⟩) ?_) | (apply And.intro) | (intro s hs; skip) | (refine Exists.intro _ (And.intro ⟨rfl, rfl, rfl⟩ ?_)))
  refine sem_step (wd := 1) (Q := mkQ (LMa g0)) (by decide) tysOk (q_of (LMa_ok g0)) mixed ?_
  repeat' (first | (apply And.intro <;> intro hc <;> (first | exact Bool.noConfusion hc | (exfalso; first | exact absurd rfl hc | omega) | (simp only [decide_eq_true_eq, decide_eq_false_iff_not, Bool.not_eq_true', Bool.not_eq_false', beq_iff_eq, beq_eq_false_iff_ne, bne_iff_ne, bne_eq_false_iff_eq, Bool.true_eq_false, Bool.false_eq_true, ne_eq, not_true_eq_false] at hc <;> first | exact absurd rfl hc | (exfalso; first | exact absurd rfl hc | omega) | skip) | skip)) | (refine And.intro (by first | exact trivial | decide | omega | (dsimp only; omega) | exact fun _ _ => rfl | exact ⟨by assumption, by first | exact trivial | decide | omega | (dsimp only; omega)⟩) ?_) | (apply And.intro) | (intro s hs; skip) | (refine Exists.intro _ (And.intro ⟨rfl, rfl, rfl⟩ ?_)))
  · refine fin_acc (s := sd) (d := 2) (hR.trans ?_) ha rfl (fun p h j => rowA_ne h) rfl rfl rfl rfl rfl rfl rfl fun q hq j hj => (neH.sh _ j hj).le
    unfold accS
    rw [if_pos hc]
  have hge := hc
  have w1 : IntKind.i64.wrap (c.num - 31) = c.num - 31 := IntWalk.i64_in _ (by omega)
  obtain ⟨⟨i, b⟩, hP⟩ : ∃ P, plcH c.num sd.held 0 = P := ⟨_, rfl⟩
  have hle := plc_le (id := c.num) (L := sd.held) (k := 0)
  rw [hP, Nat.zero_add] at hle
  dsimp only at hle
  obtain ⟨hle1, hle2, _⟩ := hle
  cases b with
  | true =>
    have hil := hle2 rfl
    clear hle2
    have hR2 : R = (L.set 3 (hearS sd i), false, 0) := by
      rw [hR]; unfold accS; rw [if_neg (by omega), hP]; rfl
    refine sem_step (wd := 1) (Q := mkQ (LMa g0)) (by decide) tysOk (q_of (LMa_ok g0)) mixed ?_
    repeat' (first | (apply And.intro <;> intro hc <;> (first | exact Bool.noConfusion hc | (exfalso; first | exact absurd rfl hc | omega) | (simp only [decide_eq_true_eq, decide_eq_false_iff_not, Bool.not_eq_true', Bool.not_eq_false', beq_iff_eq, beq_eq_false_iff_ne, bne_iff_ne, bne_eq_false_iff_eq, Bool.true_eq_false, Bool.false_eq_true, ne_eq, not_true_eq_false] at hc <;> first | exact absurd rfl hc | (exfalso; first | exact absurd rfl hc | omega) | skip) | skip)) | (refine And.intro (by first | exact trivial | decide | omega | (dsimp only; omega) | exact fun _ _ => rfl | exact ⟨by assumption, by first | exact trivial | decide | omega | (dsimp only; omega)⟩) ?_) | (apply And.intro) | (intro s hs; (first | (have q := rd_plc hs (toN_row0 neH_rd _) hP; clear hs; subst q) | (have q := rd_hear hs (Nat.zero_add i); clear hs; subst q))) | (refine Exists.intro _ (And.intro ⟨rfl, rfl, rfl⟩ ?_)))
    · exact fun _ _ => ⟨rfl, okD_sl _⟩
    · exact Eq.mpr (congrArg (fun z : List Hel => z.length ≤ 9223372036854775807) (toN_row0 neH_rd _)) (by omega)
    conv => whnf
    have hLh : (hearS sd i).held.length = sd.held.length := List.length_set
    refine fin_acc (s := hearS sd i) (d := 2) hR2 ha rfl (fun p h j => rowA_ne h) rfl rfl (by rw [hLh]; rfl) rfl rfl hLh.symm rfl fun q hq j hj => hel_row hil hj
  | false =>
    clear hle2
    refine sem_step (wd := 1) (Q := mkQ (LMa g0)) (by decide) tysOk (q_of (LMa_ok g0)) mixed ?_
    repeat' (first | (apply And.intro <;> intro hc <;> (first | exact Bool.noConfusion hc | (exfalso; first | exact absurd rfl hc | omega) | (simp only [decide_eq_true_eq, decide_eq_false_iff_not, Bool.not_eq_true', Bool.not_eq_false', beq_iff_eq, beq_eq_false_iff_ne, bne_iff_ne, bne_eq_false_iff_eq, Bool.true_eq_false, Bool.false_eq_true, ne_eq, not_true_eq_false] at hc <;> first | exact absurd rfl hc | (exfalso; first | exact absurd rfl hc | omega) | skip) | skip)) | (refine And.intro (by first | exact trivial | decide | omega | (dsimp only; omega) | exact fun _ _ => rfl | exact ⟨by assumption, by first | exact trivial | decide | omega | (dsimp only; omega)⟩) ?_) | (apply And.intro) | (intro s hs; (first | (have q := rd_plc hs (toN_row0 neH_rd _) hP; clear hs; subst q))) | (refine Exists.intro _ (And.intro ⟨rfl, rfl, rfl⟩ ?_)))
    · exact fun _ _ => ⟨rfl, okD_sl _⟩
    · exact Eq.mpr (congrArg (fun z : List Hel => z.length ≤ 9223372036854775807) (toN_row0 neH_rd _)) (by omega)
    change Sem _ _ _ _ _ _ _ _
    refine sem_cut (wd := 1024) (Q := mkQ (LMa g0)) (by decide) tysOk (q_of (LMa_ok g0)) (mono_of (LMa_ok g0)) mixed (SB L 3 (raiseS sd (c.num - 31)) now c deaf draw) (by intro _; rfl) ?_ ?_
    · repeat' (first | (simp only [w1]) | (apply And.intro <;> intro hc <;> (first | exact Bool.noConfusion hc | (exfalso; first | exact absurd rfl hc | omega) | (simp only [decide_eq_true_eq, decide_eq_false_iff_not, Bool.not_eq_true', Bool.not_eq_false', beq_iff_eq, beq_eq_false_iff_ne, bne_iff_ne, bne_eq_false_iff_eq, Bool.true_eq_false, Bool.false_eq_true, ne_eq, not_true_eq_false] at hc <;> first | exact absurd rfl hc | (exfalso; first | exact absurd rfl hc | omega) | skip) | skip)) | (refine And.intro (by first | exact trivial | decide | omega | (dsimp only; omega) | exact fun _ _ => rfl | exact ⟨by assumption, by first | exact trivial | decide | omega | (dsimp only; omega)⟩) ?_) | (apply And.intro) | (intro s hs; skip) | (refine Exists.intro _ (And.intro ⟨rfl, rfl, rfl⟩ ?_)))
      · exact rfl
      · conv => whnf
        rw [show raiseS sd (c.num - 31) = sd from if_pos hc]
        exact ⟨(), [], rfl, ⟨leF_int rfl, leF_bool rfl, leF_int rfl, leF_ptr rfl, leF_c (leC_os rfl rfl), leF_ptr rfl, trivial⟩, ⟨⟨rfl, leN_varA fun j hj => (neC.sh _ j hj).le⟩, ⟨rfl, ⟨rfl, rfl, rfl, rfl, fun p hp j hj => rowA_le hj rfl⟩⟩, ⟨rfl, leN_entN⟩, trivial⟩⟩
      · exact ⟨rfl, okD_sl _⟩
      · exact Eq.mpr (congrArg KpI (toN_row0 neH_rd _)) hk
      · conv => whnf
        have q : sd.held.filter (wantB (some (c.num - 31))) = s := (hs.trans (by rw [toN_row0 neH_rd])).symm
        clear hs
        rw [show raiseS sd (c.num - 31) = ⟨sd.id, c.num - 31, s⟩ from (if_neg hc).trans (by rw [q])]
        refine ⟨(), [(2, some 4141)], rfl, ⟨leF_int rfl, leF_bool rfl, leF_int rfl, leF_ptr rfl, leF_c (leC_os rfl rfl), leF_ptr rfl, trivial⟩, ⟨⟨rfl, leN_varA fun j hj => (neC.sh _ j hj).le⟩, ⟨rfl, ⟨rfl, rfl, rfl, rfl, fun p hp j hj => ?_⟩⟩, ⟨rfl, leN_entN⟩, trivial⟩⟩
        have hj : j < 3 := hj
        refine rowA_to hj (fun h => (updE_ne h).trans ((updE_ne h).trans (rowA_ne h))) fun h => ?_
        subst h
        rcases j with _ | _ | _ | j
        · exact leC_int rfl
        · exact leC_int rfl
        · exact leC_os rfl rfl
        · omega
    · intro _
      refine acc3 g0 L 3 (raiseS sd (c.num - 31)) now c deaf draw ⟨ha, hn, raise_k hk, raise_h hh, hnum, hd, hnow, hdr⟩ R ?_
      rw [hR]
      unfold accS
      rw [if_neg hge, hP]
      cases deaf <;> rfl
set_option maxHeartbeats 8000000 in
set_option maxRecDepth 20000 in
theorem acc2_4 (g0 : Nat) (L : List Sed) (a : Nat) (now : Int) (c : Cas) (deaf : Bool) (draw : Int) (hI : AcI L a now c draw) (R : List Sed × Bool × Int) (hR : R = (L.set a (accS (L.getD a default) now c deaf draw).1, (accS (L.getD a default) now c deaf draw).2, 0)) (a3 : a = 4) :
    Sem Try.prog Try.f11.ntmps 0 (dropC 7 (Try.f11.body.getD Code.ret)) (SA L a now c deaf draw ()).fr (SA L a now c deaf draw ()).H (SA L a now c deaf draw ()).nx (endH T Try.f11.results.toList fun x H _ => FinN (some R.1.length) (encAc R) (entN neS 78 R.1) x H) := by
  obtain ⟨ha, hn, hk, hh, hmn, hnum, hd, hnow, hdr⟩ := hI
  unfold SA
  rw [entG_A]
  obtain ⟨sd, es⟩ : ∃ s, L.getD a default = s := ⟨_, rfl⟩
  rw [es] at hk hh hmn hR ⊢
  subst a3
  refine sem_step (wd := 1) (Q := mkQ (LMa g0)) (by decide) tysOk (q_of (LMa_ok g0)) mixed ?_
  repeat' (first | (apply And.intro <;> intro hc <;> (first | exact Bool.noConfusion hc | (exfalso; first | exact absurd rfl hc | omega) | (simp only [decide_eq_true_eq, decide_eq_false_iff_not, Bool.not_eq_true', Bool.not_eq_false', beq_iff_eq, beq_eq_false_iff_ne, bne_iff_ne, bne_eq_false_iff_eq, Bool.true_eq_false, Bool.false_eq_true, ne_eq, not_true_eq_false] at hc <;> first | exact absurd rfl hc | (exfalso; first | exact absurd rfl hc | omega) | skip) | skip)) | (refine And.intro (by first | exact trivial | decide | omega | (dsimp only; omega) | exact fun _ _ => rfl | exact ⟨by assumption, by first | exact trivial | decide | omega | (dsimp only; omega)⟩) ?_) | (apply And.intro) | (intro s hs; skip) | (refine Exists.intro _ (And.intro ⟨rfl, rfl, rfl⟩ ?_)))
  refine sem_step (wd := 1) (Q := mkQ (LMa g0)) (by decide) tysOk (q_of (LMa_ok g0)) mixed ?_
  repeat' (first | (apply And.intro <;> intro hc <;> (first | exact Bool.noConfusion hc | (exfalso; first | exact absurd rfl hc | omega) | (simp only [decide_eq_true_eq, decide_eq_false_iff_not, Bool.not_eq_true', Bool.not_eq_false', beq_iff_eq, beq_eq_false_iff_ne, bne_iff_ne, bne_eq_false_iff_eq, Bool.true_eq_false, Bool.false_eq_true, ne_eq, not_true_eq_false] at hc <;> first | exact absurd rfl hc | (exfalso; first | exact absurd rfl hc | omega) | skip) | skip)) | (refine And.intro (by first | exact trivial | decide | omega | (dsimp only; omega) | exact fun _ _ => rfl | exact ⟨by assumption, by first | exact trivial | decide | omega | (dsimp only; omega)⟩) ?_) | (apply And.intro) | (intro s hs; skip) | (refine Exists.intro _ (And.intro ⟨rfl, rfl, rfl⟩ ?_)))
  · refine fin_acc (s := sd) (d := 2) (hR.trans ?_) ha rfl (fun p h j => rowA_ne h) rfl rfl rfl rfl rfl rfl rfl fun q hq j hj => (neH.sh _ j hj).le
    unfold accS
    rw [if_pos hc]
  have hge := hc
  have w1 : IntKind.i64.wrap (c.num - 31) = c.num - 31 := IntWalk.i64_in _ (by omega)
  obtain ⟨⟨i, b⟩, hP⟩ : ∃ P, plcH c.num sd.held 0 = P := ⟨_, rfl⟩
  have hle := plc_le (id := c.num) (L := sd.held) (k := 0)
  rw [hP, Nat.zero_add] at hle
  dsimp only at hle
  obtain ⟨hle1, hle2, _⟩ := hle
  cases b with
  | true =>
    have hil := hle2 rfl
    clear hle2
    have hR2 : R = (L.set 4 (hearS sd i), false, 0) := by
      rw [hR]; unfold accS; rw [if_neg (by omega), hP]; rfl
    refine sem_step (wd := 1) (Q := mkQ (LMa g0)) (by decide) tysOk (q_of (LMa_ok g0)) mixed ?_
    repeat' (first | (apply And.intro <;> intro hc <;> (first | exact Bool.noConfusion hc | (exfalso; first | exact absurd rfl hc | omega) | (simp only [decide_eq_true_eq, decide_eq_false_iff_not, Bool.not_eq_true', Bool.not_eq_false', beq_iff_eq, beq_eq_false_iff_ne, bne_iff_ne, bne_eq_false_iff_eq, Bool.true_eq_false, Bool.false_eq_true, ne_eq, not_true_eq_false] at hc <;> first | exact absurd rfl hc | (exfalso; first | exact absurd rfl hc | omega) | skip) | skip)) | (refine And.intro (by first | exact trivial | decide | omega | (dsimp only; omega) | exact fun _ _ => rfl | exact ⟨by assumption, by first | exact trivial | decide | omega | (dsimp only; omega)⟩) ?_) | (apply And.intro) | (intro s hs; (first | (have q := rd_plc hs (toN_row0 neH_rd _) hP; clear hs; subst q) | (have q := rd_hear hs (Nat.zero_add i); clear hs; subst q))) | (refine Exists.intro _ (And.intro ⟨rfl, rfl, rfl⟩ ?_)))
    · exact fun _ _ => ⟨rfl, okD_sl _⟩
    · exact Eq.mpr (congrArg (fun z : List Hel => z.length ≤ 9223372036854775807) (toN_row0 neH_rd _)) (by omega)
    conv => whnf
    have hLh : (hearS sd i).held.length = sd.held.length := List.length_set
    refine fin_acc (s := hearS sd i) (d := 2) hR2 ha rfl (fun p h j => rowA_ne h) rfl rfl (by rw [hLh]; rfl) rfl rfl hLh.symm rfl fun q hq j hj => hel_row hil hj
  | false =>
    clear hle2
    refine sem_step (wd := 1) (Q := mkQ (LMa g0)) (by decide) tysOk (q_of (LMa_ok g0)) mixed ?_
    repeat' (first | (apply And.intro <;> intro hc <;> (first | exact Bool.noConfusion hc | (exfalso; first | exact absurd rfl hc | omega) | (simp only [decide_eq_true_eq, decide_eq_false_iff_not, Bool.not_eq_true', Bool.not_eq_false', beq_iff_eq, beq_eq_false_iff_ne, bne_iff_ne, bne_eq_false_iff_eq, Bool.true_eq_false, Bool.false_eq_true, ne_eq, not_true_eq_false] at hc <;> first | exact absurd rfl hc | (exfalso; first | exact absurd rfl hc | omega) | skip) | skip)) | (refine And.intro (by first | exact trivial | decide | omega | (dsimp only; omega) | exact fun _ _ => rfl | exact ⟨by assumption, by first | exact trivial | decide | omega | (dsimp only; omega)⟩) ?_) | (apply And.intro) | (intro s hs; (first | (have q := rd_plc hs (toN_row0 neH_rd _) hP; clear hs; subst q))) | (refine Exists.intro _ (And.intro ⟨rfl, rfl, rfl⟩ ?_)))
    · exact fun _ _ => ⟨rfl, okD_sl _⟩
    · exact Eq.mpr (congrArg (fun z : List Hel => z.length ≤ 9223372036854775807) (toN_row0 neH_rd _)) (by omega)
    change Sem _ _ _ _ _ _ _ _
    refine sem_cut (wd := 1024) (Q := mkQ (LMa g0)) (by decide) tysOk (q_of (LMa_ok g0)) (mono_of (LMa_ok g0)) mixed (SB L 4 (raiseS sd (c.num - 31)) now c deaf draw) (by intro _; rfl) ?_ ?_
    · repeat' (first | (simp only [w1]) | (apply And.intro <;> intro hc <;> (first | exact Bool.noConfusion hc | (exfalso; first | exact absurd rfl hc | omega) | (simp only [decide_eq_true_eq, decide_eq_false_iff_not, Bool.not_eq_true', Bool.not_eq_false', beq_iff_eq, beq_eq_false_iff_ne, bne_iff_ne, bne_eq_false_iff_eq, Bool.true_eq_false, Bool.false_eq_true, ne_eq, not_true_eq_false] at hc <;> first | exact absurd rfl hc | (exfalso; first | exact absurd rfl hc | omega) | skip) | skip)) | (refine And.intro (by first | exact trivial | decide | omega | (dsimp only; omega) | exact fun _ _ => rfl | exact ⟨by assumption, by first | exact trivial | decide | omega | (dsimp only; omega)⟩) ?_) | (apply And.intro) | (intro s hs; skip) | (refine Exists.intro _ (And.intro ⟨rfl, rfl, rfl⟩ ?_)))
      · exact rfl
      · conv => whnf
        rw [show raiseS sd (c.num - 31) = sd from if_pos hc]
        exact ⟨(), [], rfl, ⟨leF_int rfl, leF_bool rfl, leF_int rfl, leF_ptr rfl, leF_c (leC_os rfl rfl), leF_ptr rfl, trivial⟩, ⟨⟨rfl, leN_varA fun j hj => (neC.sh _ j hj).le⟩, ⟨rfl, ⟨rfl, rfl, rfl, rfl, fun p hp j hj => rowA_le hj rfl⟩⟩, ⟨rfl, leN_entN⟩, trivial⟩⟩
      · exact ⟨rfl, okD_sl _⟩
      · exact Eq.mpr (congrArg KpI (toN_row0 neH_rd _)) hk
      · conv => whnf
        have q : sd.held.filter (wantB (some (c.num - 31))) = s := (hs.trans (by rw [toN_row0 neH_rd])).symm
        clear hs
        rw [show raiseS sd (c.num - 31) = ⟨sd.id, c.num - 31, s⟩ from (if_neg hc).trans (by rw [q])]
        refine ⟨(), [(2, some 4141)], rfl, ⟨leF_int rfl, leF_bool rfl, leF_int rfl, leF_ptr rfl, leF_c (leC_os rfl rfl), leF_ptr rfl, trivial⟩, ⟨⟨rfl, leN_varA fun j hj => (neC.sh _ j hj).le⟩, ⟨rfl, ⟨rfl, rfl, rfl, rfl, fun p hp j hj => ?_⟩⟩, ⟨rfl, leN_entN⟩, trivial⟩⟩
        have hj : j < 3 := hj
        refine rowA_to hj (fun h => (updE_ne h).trans ((updE_ne h).trans (rowA_ne h))) fun h => ?_
        subst h
        rcases j with _ | _ | _ | j
        · exact leC_int rfl
        · exact leC_int rfl
        · exact leC_os rfl rfl
        · omega
    · intro _
      refine acc3 g0 L 4 (raiseS sd (c.num - 31)) now c deaf draw ⟨ha, hn, raise_k hk, raise_h hh, hnum, hd, hnow, hdr⟩ R ?_
      rw [hR]
      unfold accS
      rw [if_neg hge, hP]
      cases deaf <;> rfl
set_option maxHeartbeats 8000000 in
set_option maxRecDepth 20000 in
theorem acc2_5 (g0 : Nat) (L : List Sed) (a : Nat) (now : Int) (c : Cas) (deaf : Bool) (draw : Int) (hI : AcI L a now c draw) (R : List Sed × Bool × Int) (hR : R = (L.set a (accS (L.getD a default) now c deaf draw).1, (accS (L.getD a default) now c deaf draw).2, 0)) (a3 : a = 5) :
    Sem Try.prog Try.f11.ntmps 0 (dropC 7 (Try.f11.body.getD Code.ret)) (SA L a now c deaf draw ()).fr (SA L a now c deaf draw ()).H (SA L a now c deaf draw ()).nx (endH T Try.f11.results.toList fun x H _ => FinN (some R.1.length) (encAc R) (entN neS 78 R.1) x H) := by
  obtain ⟨ha, hn, hk, hh, hmn, hnum, hd, hnow, hdr⟩ := hI
  unfold SA
  rw [entG_A]
  obtain ⟨sd, es⟩ : ∃ s, L.getD a default = s := ⟨_, rfl⟩
  rw [es] at hk hh hmn hR ⊢
  subst a3
  refine sem_step (wd := 1) (Q := mkQ (LMa g0)) (by decide) tysOk (q_of (LMa_ok g0)) mixed ?_
  repeat' (first | (apply And.intro <;> intro hc <;> (first | exact Bool.noConfusion hc | (exfalso; first | exact absurd rfl hc | omega) | (simp only [decide_eq_true_eq, decide_eq_false_iff_not, Bool.not_eq_true', Bool.not_eq_false', beq_iff_eq, beq_eq_false_iff_ne, bne_iff_ne, bne_eq_false_iff_eq, Bool.true_eq_false, Bool.false_eq_true, ne_eq, not_true_eq_false] at hc <;> first | exact absurd rfl hc | (exfalso; first | exact absurd rfl hc | omega) | skip) | skip)) | (refine And.intro (by first | exact trivial | decide | omega | (dsimp only; omega) | exact fun _ _ => rfl | exact ⟨by assumption, by first | exact trivial | decide | omega | (dsimp only; omega)⟩) ?_) | (apply And.intro) | (intro s hs; skip) | (refine Exists.intro _ (And.intro ⟨rfl, rfl, rfl⟩ ?_)))
  refine sem_step (wd := 1) (Q := mkQ (LMa g0)) (by decide) tysOk (q_of (LMa_ok g0)) mixed ?_
  repeat' (first | (apply And.intro <;> intro hc <;> (first | exact Bool.noConfusion hc | (exfalso; first | exact absurd rfl hc | omega) | (simp only [decide_eq_true_eq, decide_eq_false_iff_not, Bool.not_eq_true', Bool.not_eq_false', beq_iff_eq, beq_eq_false_iff_ne, bne_iff_ne, bne_eq_false_iff_eq, Bool.true_eq_false, Bool.false_eq_true, ne_eq, not_true_eq_false] at hc <;> first | exact absurd rfl hc | (exfalso; first | exact absurd rfl hc | omega) | skip) | skip)) | (refine And.intro (by first | exact trivial | decide | omega | (dsimp only; omega) | exact fun _ _ => rfl | exact ⟨by assumption, by first | exact trivial | decide | omega | (dsimp only; omega)⟩) ?_) | (apply And.intro) | (intro s hs; skip) | (refine Exists.intro _ (And.intro ⟨rfl, rfl, rfl⟩ ?_)))
  · refine fin_acc (s := sd) (d := 2) (hR.trans ?_) ha rfl (fun p h j => rowA_ne h) rfl rfl rfl rfl rfl rfl rfl fun q hq j hj => (neH.sh _ j hj).le
    unfold accS
    rw [if_pos hc]
  have hge := hc
  have w1 : IntKind.i64.wrap (c.num - 31) = c.num - 31 := IntWalk.i64_in _ (by omega)
  obtain ⟨⟨i, b⟩, hP⟩ : ∃ P, plcH c.num sd.held 0 = P := ⟨_, rfl⟩
  have hle := plc_le (id := c.num) (L := sd.held) (k := 0)
  rw [hP, Nat.zero_add] at hle
  dsimp only at hle
  obtain ⟨hle1, hle2, _⟩ := hle
  cases b with
  | true =>
    have hil := hle2 rfl
    clear hle2
    have hR2 : R = (L.set 5 (hearS sd i), false, 0) := by
      rw [hR]; unfold accS; rw [if_neg (by omega), hP]; rfl
    refine sem_step (wd := 1) (Q := mkQ (LMa g0)) (by decide) tysOk (q_of (LMa_ok g0)) mixed ?_
    repeat' (first | (apply And.intro <;> intro hc <;> (first | exact Bool.noConfusion hc | (exfalso; first | exact absurd rfl hc | omega) | (simp only [decide_eq_true_eq, decide_eq_false_iff_not, Bool.not_eq_true', Bool.not_eq_false', beq_iff_eq, beq_eq_false_iff_ne, bne_iff_ne, bne_eq_false_iff_eq, Bool.true_eq_false, Bool.false_eq_true, ne_eq, not_true_eq_false] at hc <;> first | exact absurd rfl hc | (exfalso; first | exact absurd rfl hc | omega) | skip) | skip)) | (refine And.intro (by first | exact trivial | decide | omega | (dsimp only; omega) | exact fun _ _ => rfl | exact ⟨by assumption, by first | exact trivial | decide | omega | (dsimp only; omega)⟩) ?_) | (apply And.intro) | (intro s hs; (first | (have q := rd_plc hs (toN_row0 neH_rd _) hP; clear hs; subst q) | (have q := rd_hear hs (Nat.zero_add i); clear hs; subst q))) | (refine Exists.intro _ (And.intro ⟨rfl, rfl, rfl⟩ ?_)))
    · exact fun _ _ => ⟨rfl, okD_sl _⟩
    · exact Eq.mpr (congrArg (fun z : List Hel => z.length ≤ 9223372036854775807) (toN_row0 neH_rd _)) (by omega)
    conv => whnf
    have hLh : (hearS sd i).held.length = sd.held.length := List.length_set
    refine fin_acc (s := hearS sd i) (d := 2) hR2 ha rfl (fun p h j => rowA_ne h) rfl rfl (by rw [hLh]; rfl) rfl rfl hLh.symm rfl fun q hq j hj => hel_row hil hj
  | false =>
    clear hle2
    refine sem_step (wd := 1) (Q := mkQ (LMa g0)) (by decide) tysOk (q_of (LMa_ok g0)) mixed ?_
    repeat' (first | (apply And.intro <;> intro hc <;> (first | exact Bool.noConfusion hc | (exfalso; first | exact absurd rfl hc | omega) | (simp only [decide_eq_true_eq, decide_eq_false_iff_not, Bool.not_eq_true', Bool.not_eq_false', beq_iff_eq, beq_eq_false_iff_ne, bne_iff_ne, bne_eq_false_iff_eq, Bool.true_eq_false, Bool.false_eq_true, ne_eq, not_true_eq_false] at hc <;> first | exact absurd rfl hc | (exfalso; first | exact absurd rfl hc | omega) | skip) | skip)) | (refine And.intro (by first | exact trivial | decide | omega | (dsimp only; omega) | exact fun _ _ => rfl | exact ⟨by assumption, by first | exact trivial | decide | omega | (dsimp only; omega)⟩) ?_) | (apply And.intro) | (intro s hs; (first | (have q := rd_plc hs (toN_row0 neH_rd _) hP; clear hs; subst q))) | (refine Exists.intro _ (And.intro ⟨rfl, rfl, rfl⟩ ?_)))
    · exact fun _ _ => ⟨rfl, okD_sl _⟩
    · exact Eq.mpr (congrArg (fun z : List Hel => z.length ≤ 9223372036854775807) (toN_row0 neH_rd _)) (by omega)
    change Sem _ _ _ _ _ _ _ _
    refine sem_cut (wd := 1024) (Q := mkQ (LMa g0)) (by decide) tysOk (q_of (LMa_ok g0)) (mono_of (LMa_ok g0)) mixed (SB L 5 (raiseS sd (c.num - 31)) now c deaf draw) (by intro _; rfl) ?_ ?_
    · repeat' (first | (simp only [w1]) | (apply And.intro <;> intro hc <;> (first | exact Bool.noConfusion hc | (exfalso; first | exact absurd rfl hc | omega) | (simp only [decide_eq_true_eq, decide_eq_false_iff_not, Bool.not_eq_true', Bool.not_eq_false', beq_iff_eq, beq_eq_false_iff_ne, bne_iff_ne, bne_eq_false_iff_eq, Bool.true_eq_false, Bool.false_eq_true, ne_eq, not_true_eq_false] at hc <;> first | exact absurd rfl hc | (exfalso; first | exact absurd rfl hc | omega) | skip) | skip)) | (refine And.intro (by first | exact trivial | decide | omega | (dsimp only; omega) | exact fun _ _ => rfl | exact ⟨by assumption, by first | exact trivial | decide | omega | (dsimp only; omega)⟩) ?_) | (apply And.intro) | (intro s hs; skip) | (refine Exists.intro _ (And.intro ⟨rfl, rfl, rfl⟩ ?_)))
      · exact rfl
      · conv => whnf
        rw [show raiseS sd (c.num - 31) = sd from if_pos hc]
        exact ⟨(), [], rfl, ⟨leF_int rfl, leF_bool rfl, leF_int rfl, leF_ptr rfl, leF_c (leC_os rfl rfl), leF_ptr rfl, trivial⟩, ⟨⟨rfl, leN_varA fun j hj => (neC.sh _ j hj).le⟩, ⟨rfl, ⟨rfl, rfl, rfl, rfl, fun p hp j hj => rowA_le hj rfl⟩⟩, ⟨rfl, leN_entN⟩, trivial⟩⟩
      · exact ⟨rfl, okD_sl _⟩
      · exact Eq.mpr (congrArg KpI (toN_row0 neH_rd _)) hk
      · conv => whnf
        have q : sd.held.filter (wantB (some (c.num - 31))) = s := (hs.trans (by rw [toN_row0 neH_rd])).symm
        clear hs
        rw [show raiseS sd (c.num - 31) = ⟨sd.id, c.num - 31, s⟩ from (if_neg hc).trans (by rw [q])]
        refine ⟨(), [(2, some 4141)], rfl, ⟨leF_int rfl, leF_bool rfl, leF_int rfl, leF_ptr rfl, leF_c (leC_os rfl rfl), leF_ptr rfl, trivial⟩, ⟨⟨rfl, leN_varA fun j hj => (neC.sh _ j hj).le⟩, ⟨rfl, ⟨rfl, rfl, rfl, rfl, fun p hp j hj => ?_⟩⟩, ⟨rfl, leN_entN⟩, trivial⟩⟩
        have hj : j < 3 := hj
        refine rowA_to hj (fun h => (updE_ne h).trans ((updE_ne h).trans (rowA_ne h))) fun h => ?_
        subst h
        rcases j with _ | _ | _ | j
        · exact leC_int rfl
        · exact leC_int rfl
        · exact leC_os rfl rfl
        · omega
    · intro _
      refine acc3 g0 L 5 (raiseS sd (c.num - 31)) now c deaf draw ⟨ha, hn, raise_k hk, raise_h hh, hnum, hd, hnow, hdr⟩ R ?_
      rw [hR]
      unfold accS
      rw [if_neg hge, hP]
      cases deaf <;> rfl
set_option maxHeartbeats 8000000 in
set_option maxRecDepth 20000 in
theorem acc2_6 (g0 : Nat) (L : List Sed) (a : Nat) (now : Int) (c : Cas) (deaf : Bool) (draw : Int) (hI : AcI L a now c draw) (R : List Sed × Bool × Int) (hR : R = (L.set a (accS (L.getD a default) now c deaf draw).1, (accS (L.getD a default) now c deaf draw).2, 0)) (a3 : a = 6) :
    Sem Try.prog Try.f11.ntmps 0 (dropC 7 (Try.f11.body.getD Code.ret)) (SA L a now c deaf draw ()).fr (SA L a now c deaf draw ()).H (SA L a now c deaf draw ()).nx (endH T Try.f11.results.toList fun x H _ => FinN (some R.1.length) (encAc R) (entN neS 78 R.1) x H) := by
  obtain ⟨ha, hn, hk, hh, hmn, hnum, hd, hnow, hdr⟩ := hI
  unfold SA
  rw [entG_A]
  obtain ⟨sd, es⟩ : ∃ s, L.getD a default = s := ⟨_, rfl⟩
  rw [es] at hk hh hmn hR ⊢
  subst a3
  refine sem_step (wd := 1) (Q := mkQ (LMa g0)) (by decide) tysOk (q_of (LMa_ok g0)) mixed ?_
  repeat' (first | (apply And.intro <;> intro hc <;> (first | exact Bool.noConfusion hc | (exfalso; first | exact absurd rfl hc | omega) | (simp only [decide_eq_true_eq, decide_eq_false_iff_not, Bool.not_eq_true', Bool.not_eq_false', beq_iff_eq, beq_eq_false_iff_ne, bne_iff_ne, bne_eq_false_iff_eq, Bool.true_eq_false, Bool.false_eq_true, ne_eq, not_true_eq_false] at hc <;> first | exact absurd rfl hc | (exfalso; first | exact absurd rfl hc | omega) | skip) | skip)) | (refine And.intro (by first | exact trivial | decide | omega | (dsimp only; omega) | exact fun _ _ => rfl | exact ⟨by assumption, by first | exact trivial | decide | omega | (dsimp only; omega)⟩) ?_) | (apply And.intro) | (intro s hs; skip) | (refine Exists.intro _ (And.intro ⟨rfl, rfl, rfl⟩ ?_)))
  refine sem_step (wd := 1) (Q := mkQ (LMa g0)) (by decide) tysOk (q_of (LMa_ok g0)) mixed ?_
  repeat' (first | (apply And.intro <;> intro hc <;> (first | exact Bool.noConfusion hc | (exfalso; first | exact absurd rfl hc | omega) | (simp only [decide_eq_true_eq, decide_eq_false_iff_not, Bool.not_eq_true', Bool.not_eq_false', beq_iff_eq, beq_eq_false_iff_ne, bne_iff_ne, bne_eq_false_iff_eq, Bool.true_eq_false, Bool.false_eq_true, ne_eq, not_true_eq_false] at hc <;> first | exact absurd rfl hc | (exfalso; first | exact absurd rfl hc | omega) | skip) | skip)) | (refine And.intro (by first | exact trivial | decide | omega | (dsimp only; omega) | exact fun _ _ => rfl | exact ⟨by assumption, by first | exact trivial | decide | omega | (dsimp only; omega)⟩) ?_) | (apply And.intro) | (intro s hs; skip) | (refine Exists.intro _ (And.intro ⟨rfl, rfl, rfl⟩ ?_)))
  · refine fin_acc (s := sd) (d := 2) (hR.trans ?_) ha rfl (fun p h j => rowA_ne h) rfl rfl rfl rfl rfl rfl rfl fun q hq j hj => (neH.sh _ j hj).le
    unfold accS
    rw [if_pos hc]
  have hge := hc
  have w1 : IntKind.i64.wrap (c.num - 31) = c.num - 31 := IntWalk.i64_in _ (by omega)
  obtain ⟨⟨i, b⟩, hP⟩ : ∃ P, plcH c.num sd.held 0 = P := ⟨_, rfl⟩
  have hle := plc_le (id := c.num) (L := sd.held) (k := 0)
  rw [hP, Nat.zero_add] at hle
  dsimp only at hle
  obtain ⟨hle1, hle2, _⟩ := hle
  cases b with
  | true =>
    have hil := hle2 rfl
    clear hle2
    have hR2 : R = (L.set 6 (hearS sd i), false, 0) := by
      rw [hR]; unfold accS; rw [if_neg (by omega), hP]; rfl
    refine sem_step (wd := 1) (Q := mkQ (LMa g0)) (by decide) tysOk (q_of (LMa_ok g0)) mixed ?_
    repeat' (first | (apply And.intro <;> intro hc <;> (first | exact Bool.noConfusion hc | (exfalso; first | exact absurd rfl hc | omega) | (simp only [decide_eq_true_eq, decide_eq_false_iff_not, Bool.not_eq_true', Bool.not_eq_false', beq_iff_eq, beq_eq_false_iff_ne, bne_iff_ne, bne_eq_false_iff_eq, Bool.true_eq_false, Bool.false_eq_true, ne_eq, not_true_eq_false] at hc <;> first | exact absurd rfl hc | (exfalso; first | exact absurd rfl hc | omega) | skip) | skip)) | (refine And.intro (by first | exact trivial | decide | omega | (dsimp only; omega) | exact fun _ _ => rfl | exact ⟨by assumption, by first | exact trivial | decide | omega | (dsimp only; omega)⟩) ?_) | (apply And.intro) | (intro s hs; (first | (have q := rd_plc hs (toN_row0 neH_rd _) hP; clear hs; subst q) | (have q := rd_hear hs (Nat.zero_add i); clear hs; subst q))) | (refine Exists.intro _ (And.intro ⟨rfl, rfl, rfl⟩ ?_)))
    · exact fun _ _ => ⟨rfl, okD_sl _⟩
    · exact Eq.mpr (congrArg (fun z : List Hel => z.length ≤ 9223372036854775807) (toN_row0 neH_rd _)) (by omega)
    conv => whnf
    have hLh : (hearS sd i).held.length = sd.held.length := List.length_set
    refine fin_acc (s := hearS sd i) (d := 2) hR2 ha rfl (fun p h j => rowA_ne h) rfl rfl (by rw [hLh]; rfl) rfl rfl hLh.symm rfl fun q hq j hj => hel_row hil hj
  | false =>
    clear hle2
    refine sem_step (wd := 1) (Q := mkQ (LMa g0)) (by decide) tysOk (q_of (LMa_ok g0)) mixed ?_
    repeat' (first | (apply And.intro <;> intro hc <;> (first | exact Bool.noConfusion hc | (exfalso; first | exact absurd rfl hc | omega) | (simp only [decide_eq_true_eq, decide_eq_false_iff_not, Bool.not_eq_true', Bool.not_eq_false', beq_iff_eq, beq_eq_false_iff_ne, bne_iff_ne, bne_eq_false_iff_eq, Bool.true_eq_false, Bool.false_eq_true, ne_eq, not_true_eq_false] at hc <;> first | exact absurd rfl hc | (exfalso; first | exact absurd rfl hc | omega) | skip) | skip)) | (refine And.intro (by first | exact trivial | decide | omega | (dsimp only; omega) | exact fun _ _ => rfl | exact ⟨by assumption, by first | exact trivial | decide | omega | (dsimp only; omega)⟩) ?_) | (apply And.intro) | (intro s hs; (first | (have q := rd_plc hs (toN_row0 neH_rd _) hP; clear hs; subst q))) | (refine Exists.intro _ (And.intro ⟨rfl, rfl, rfl⟩ ?_)))
    · exact fun _ _ => ⟨rfl, okD_sl _⟩
    · exact Eq.mpr (congrArg (fun z : List Hel => z.length ≤ 9223372036854775807) (toN_row0 neH_rd _)) (by omega)
    change Sem _ _ _ _ _ _ _ _
    refine sem_cut (wd := 1024) (Q := mkQ (LMa g0)) (by decide) tysOk (q_of (LMa_ok g0)) (mono_of (LMa_ok g0)) mixed (SB L 6 (raiseS sd (c.num - 31)) now c deaf draw) (by intro _; rfl) ?_ ?_
    · repeat' (first | (simp only [w1]) | (apply And.intro <;> intro hc <;> (first | exact Bool.noConfusion hc | (exfalso; first | exact absurd rfl hc | omega) | (simp only [decide_eq_true_eq, decide_eq_false_iff_not, Bool.not_eq_true', Bool.not_eq_false', beq_iff_eq, beq_eq_false_iff_ne, bne_iff_ne, bne_eq_false_iff_eq, Bool.true_eq_false, Bool.false_eq_true, ne_eq, not_true_eq_false] at hc <;> first | exact absurd rfl hc | (exfalso; first | exact absurd rfl hc | omega) | skip) | skip)) | (refine And.intro (by first | exact trivial | decide | omega | (dsimp only; omega) | exact fun _ _ => rfl | exact ⟨by assumption, by first | exact trivial | decide | omega | (dsimp only; omega)⟩) ?_) | (apply And.intro) | (intro s hs; skip) | (refine Exists.intro _ (And.intro ⟨rfl, rfl, rfl⟩ ?_)))
      · exact rfl
      · conv => whnf
        rw [show raiseS sd (c.num - 31) = sd from if_pos hc]
        exact ⟨(), [], rfl, ⟨leF_int rfl, leF_bool rfl, leF_int rfl, leF_ptr rfl, leF_c (leC_os rfl rfl), leF_ptr rfl, trivial⟩, ⟨⟨rfl, leN_varA fun j hj => (neC.sh _ j hj).le⟩, ⟨rfl, ⟨rfl, rfl, rfl, rfl, fun p hp j hj => rowA_le hj rfl⟩⟩, ⟨rfl, leN_entN⟩, trivial⟩⟩
      · exact ⟨rfl, okD_sl _⟩
      · exact Eq.mpr (congrArg KpI (toN_row0 neH_rd _)) hk
      · conv => whnf
        have q : sd.held.filter (wantB (some (c.num - 31))) = s := (hs.trans (by rw [toN_row0 neH_rd])).symm
        clear hs
        rw [show raiseS sd (c.num - 31) = ⟨sd.id, c.num - 31, s⟩ from (if_neg hc).trans (by rw [q])]
        refine ⟨(), [(2, some 4141)], rfl, ⟨leF_int rfl, leF_bool rfl, leF_int rfl, leF_ptr rfl, leF_c (leC_os rfl rfl), leF_ptr rfl, trivial⟩, ⟨⟨rfl, leN_varA fun j hj => (neC.sh _ j hj).le⟩, ⟨rfl, ⟨rfl, rfl, rfl, rfl, fun p hp j hj => ?_⟩⟩, ⟨rfl, leN_entN⟩, trivial⟩⟩
        have hj : j < 3 := hj
        refine rowA_to hj (fun h => (updE_ne h).trans ((updE_ne h).trans (rowA_ne h))) fun h => ?_
        subst h
        rcases j with _ | _ | _ | j
        · exact leC_int rfl
        · exact leC_int rfl
        · exact leC_os rfl rfl
        · omega
    · intro _
      refine acc3 g0 L 6 (raiseS sd (c.num - 31)) now c deaf draw ⟨ha, hn, raise_k hk, raise_h hh, hnum, hd, hnow, hdr⟩ R ?_
      rw [hR]
      unfold accS
      rw [if_neg hge, hP]
      cases deaf <;> rfl
set_option maxHeartbeats 8000000 in
set_option maxRecDepth 20000 in
theorem acc2_7 (g0 : Nat) (L : List Sed) (a : Nat) (now : Int) (c : Cas) (deaf : Bool) (draw : Int) (hI : AcI L a now c draw) (R : List Sed × Bool × Int) (hR : R = (L.set a (accS (L.getD a default) now c deaf draw).1, (accS (L.getD a default) now c deaf draw).2, 0)) (a3 : a = 7) :
    Sem Try.prog Try.f11.ntmps 0 (dropC 7 (Try.f11.body.getD Code.ret)) (SA L a now c deaf draw ()).fr (SA L a now c deaf draw ()).H (SA L a now c deaf draw ()).nx (endH T Try.f11.results.toList fun x H _ => FinN (some R.1.length) (encAc R) (entN neS 78 R.1) x H) := by
  obtain ⟨ha, hn, hk, hh, hmn, hnum, hd, hnow, hdr⟩ := hI
  unfold SA
  rw [entG_A]
  obtain ⟨sd, es⟩ : ∃ s, L.getD a default = s := ⟨_, rfl⟩
  rw [es] at hk hh hmn hR ⊢
  subst a3
  refine sem_step (wd := 1) (Q := mkQ (LMa g0)) (by decide) tysOk (q_of (LMa_ok g0)) mixed ?_
  repeat' (first | (apply And.intro <;> intro hc <;> (first | exact Bool.noConfusion hc | (exfalso; first | exact absurd rfl hc | omega) | (simp only [decide_eq_true_eq, decide_eq_false_iff_not, Bool.not_eq_true', Bool.not_eq_false', beq_iff_eq, beq_eq_false_iff_ne, bne_iff_ne, bne_eq_false_iff_eq, Bool.true_eq_false, Bool.false_eq_true, ne_eq, not_true_eq_false] at hc <;> first | exact absurd rfl hc | (exfalso; first | exact absurd rfl hc | omega) | skip) | skip)) | (refine And.intro (by first | exact trivial | decide | omega | (dsimp only; omega) | exact fun _ _ => rfl | exact ⟨by assumption, by first | exact trivial | decide | omega | (dsimp only; omega)⟩) ?_) | (apply And.intro) | (intro s hs; skip) | (refine Exists.intro _ (And.intro ⟨rfl, rfl, rfl⟩ ?_)))
  refine sem_step (wd := 1) (Q := mkQ (LMa g0)) (by decide) tysOk (q_of (LMa_ok g0)) mixed ?_
  repeat' (first | (apply And.intro <;> intro hc <;> (first | exact Bool.noConfusion hc | (exfalso; first | exact absurd rfl hc | omega) | (simp only [decide_eq_true_eq, decide_eq_false_iff_not, Bool.not_eq_true', Bool.not_eq_false', beq_iff_eq, beq_eq_false_iff_ne, bne_iff_ne, bne_eq_false_iff_eq, Bool.true_eq_false, Bool.false_eq_true, ne_eq, not_true_eq_false] at hc <;> first | exact absurd rfl hc | (exfalso; first | exact absurd rfl hc | omega) | skip) | skip)) | (refine And.intro (by first | exact trivial | decide | omega | (dsimp only; omega) | exact fun _ _ => rfl | exact ⟨by assumption, by first | exact trivial | decide | omega | (dsimp only; omega)⟩) ?_) | (apply And.intro) | (intro s hs; skip) | (refine Exists.intro _ (And.intro ⟨rfl, rfl, rfl⟩ ?_)))
  · refine fin_acc (s := sd) (d := 2) (hR.trans ?_) ha rfl (fun p h j => rowA_ne h) rfl rfl rfl rfl rfl rfl rfl fun q hq j hj => (neH.sh _ j hj).le
    unfold accS
    rw [if_pos hc]
  have hge := hc
  have w1 : IntKind.i64.wrap (c.num - 31) = c.num - 31 := IntWalk.i64_in _ (by omega)
  obtain ⟨⟨i, b⟩, hP⟩ : ∃ P, plcH c.num sd.held 0 = P := ⟨_, rfl⟩
  have hle := plc_le (id := c.num) (L := sd.held) (k := 0)
  rw [hP, Nat.zero_add] at hle
  dsimp only at hle
  obtain ⟨hle1, hle2, _⟩ := hle
  cases b with
  | true =>
    have hil := hle2 rfl
    clear hle2
    have hR2 : R = (L.set 7 (hearS sd i), false, 0) := by
      rw [hR]; unfold accS; rw [if_neg (by omega), hP]; rfl
    refine sem_step (wd := 1) (Q := mkQ (LMa g0)) (by decide) tysOk (q_of (LMa_ok g0)) mixed ?_
    repeat' (first | (apply And.intro <;> intro hc <;> (first | exact Bool.noConfusion hc | (exfalso; first | exact absurd rfl hc | omega) | (simp only [decide_eq_true_eq, decide_eq_false_iff_not, Bool.not_eq_true', Bool.not_eq_false', beq_iff_eq, beq_eq_false_iff_ne, bne_iff_ne, bne_eq_false_iff_eq, Bool.true_eq_false, Bool.false_eq_true, ne_eq, not_true_eq_false] at hc <;> first | exact absurd rfl hc | (exfalso; first | exact absurd rfl hc | omega) | skip) | skip)) | (refine And.intro (by first | exact trivial | decide | omega | (dsimp only; omega) | exact fun _ _ => rfl | exact ⟨by assumption, by first | exact trivial | decide | omega | (dsimp only; omega)⟩) ?_) | (apply And.intro) | (intro s hs; (first | (have q := rd_plc hs (toN_row0 neH_rd _) hP; clear hs; subst q) | (have q := rd_hear hs (Nat.zero_add i); clear hs; subst q))) | (refine Exists.intro _ (And.intro ⟨rfl, rfl, rfl⟩ ?_)))
    · exact fun _ _ => ⟨rfl, okD_sl _⟩
    · exact Eq.mpr (congrArg (fun z : List Hel => z.length ≤ 9223372036854775807) (toN_row0 neH_rd _)) (by omega)
    conv => whnf
    have hLh : (hearS sd i).held.length = sd.held.length := List.length_set
    refine fin_acc (s := hearS sd i) (d := 2) hR2 ha rfl (fun p h j => rowA_ne h) rfl rfl (by rw [hLh]; rfl) rfl rfl hLh.symm rfl fun q hq j hj => hel_row hil hj
  | false =>
    clear hle2
    refine sem_step (wd := 1) (Q := mkQ (LMa g0)) (by decide) tysOk (q_of (LMa_ok g0)) mixed ?_
    repeat' (first | (apply And.intro <;> intro hc <;> (first | exact Bool.noConfusion hc | (exfalso; first | exact absurd rfl hc | omega) | (simp only [decide_eq_true_eq, decide_eq_false_iff_not, Bool.not_eq_true', Bool.not_eq_false', beq_iff_eq, beq_eq_false_iff_ne, bne_iff_ne, bne_eq_false_iff_eq, Bool.true_eq_false, Bool.false_eq_true, ne_eq, not_true_eq_false] at hc <;> first | exact absurd rfl hc | (exfalso; first | exact absurd rfl hc | omega) | skip) | skip)) | (refine And.intro (by first | exact trivial | decide | omega | (dsimp only; omega) | exact fun _ _ => rfl | exact ⟨by assumption, by first | exact trivial | decide | omega | (dsimp only; omega)⟩) ?_) | (apply And.intro) | (intro s hs; (first | (have q := rd_plc hs (toN_row0 neH_rd _) hP; clear hs; subst q))) | (refine Exists.intro _ (And.intro ⟨rfl, rfl, rfl⟩ ?_)))
    · exact fun _ _ => ⟨rfl, okD_sl _⟩
    · exact Eq.mpr (congrArg (fun z : List Hel => z.length ≤ 9223372036854775807) (toN_row0 neH_rd _)) (by omega)
    change Sem _ _ _ _ _ _ _ _
    refine sem_cut (wd := 1024) (Q := mkQ (LMa g0)) (by decide) tysOk (q_of (LMa_ok g0)) (mono_of (LMa_ok g0)) mixed (SB L 7 (raiseS sd (c.num - 31)) now c deaf draw) (by intro _; rfl) ?_ ?_
    · repeat' (first | (simp only [w1]) | (apply And.intro <;> intro hc <;> (first | exact Bool.noConfusion hc | (exfalso; first | exact absurd rfl hc | omega) | (simp only [decide_eq_true_eq, decide_eq_false_iff_not, Bool.not_eq_true', Bool.not_eq_false', beq_iff_eq, beq_eq_false_iff_ne, bne_iff_ne, bne_eq_false_iff_eq, Bool.true_eq_false, Bool.false_eq_true, ne_eq, not_true_eq_false] at hc <;> first | exact absurd rfl hc | (exfalso; first | exact absurd rfl hc | omega) | skip) | skip)) | (refine And.intro (by first | exact trivial | decide | omega | (dsimp only; omega) | exact fun _ _ => rfl | exact ⟨by assumption, by first | exact trivial | decide | omega | (dsimp only; omega)⟩) ?_) | (apply And.intro) | (intro s hs; skip) | (refine Exists.intro _ (And.intro ⟨rfl, rfl, rfl⟩ ?_)))
      · exact rfl
      · conv => whnf
        rw [show raiseS sd (c.num - 31) = sd from if_pos hc]
        exact ⟨(), [], rfl, ⟨leF_int rfl, leF_bool rfl, leF_int rfl, leF_ptr rfl, leF_c (leC_os rfl rfl), leF_ptr rfl, trivial⟩, ⟨⟨rfl, leN_varA fun j hj => (neC.sh _ j hj).le⟩, ⟨rfl, ⟨rfl, rfl, rfl, rfl, fun p hp j hj => rowA_le hj rfl⟩⟩, ⟨rfl, leN_entN⟩, trivial⟩⟩
      · exact ⟨rfl, okD_sl _⟩
      · exact Eq.mpr (congrArg KpI (toN_row0 neH_rd _)) hk
      · conv => whnf
        have q : sd.held.filter (wantB (some (c.num - 31))) = s := (hs.trans (by rw [toN_row0 neH_rd])).symm
        clear hs
        rw [show raiseS sd (c.num - 31) = ⟨sd.id, c.num - 31, s⟩ from (if_neg hc).trans (by rw [q])]
        refine ⟨(), [(2, some 4141)], rfl, ⟨leF_int rfl, leF_bool rfl, leF_int rfl, leF_ptr rfl, leF_c (leC_os rfl rfl), leF_ptr rfl, trivial⟩, ⟨⟨rfl, leN_varA fun j hj => (neC.sh _ j hj).le⟩, ⟨rfl, ⟨rfl, rfl, rfl, rfl, fun p hp j hj => ?_⟩⟩, ⟨rfl, leN_entN⟩, trivial⟩⟩
        have hj : j < 3 := hj
        refine rowA_to hj (fun h => (updE_ne h).trans ((updE_ne h).trans (rowA_ne h))) fun h => ?_
        subst h
        rcases j with _ | _ | _ | j
        · exact leC_int rfl
        · exact leC_int rfl
        · exact leC_os rfl rfl
        · omega
    · intro _
      refine acc3 g0 L 7 (raiseS sd (c.num - 31)) now c deaf draw ⟨ha, hn, raise_k hk, raise_h hh, hnum, hd, hnow, hdr⟩ R ?_
      rw [hR]
      unfold accS
      rw [if_neg hge, hP]
      cases deaf <;> rfl
set_option maxHeartbeats 8000000 in
set_option maxRecDepth 20000 in
theorem acc2_8 (g0 : Nat) (L : List Sed) (a : Nat) (now : Int) (c : Cas) (deaf : Bool) (draw : Int) (hI : AcI L a now c draw) (R : List Sed × Bool × Int) (hR : R = (L.set a (accS (L.getD a default) now c deaf draw).1, (accS (L.getD a default) now c deaf draw).2, 0)) (a3 : a = 8) :
    Sem Try.prog Try.f11.ntmps 0 (dropC 7 (Try.f11.body.getD Code.ret)) (SA L a now c deaf draw ()).fr (SA L a now c deaf draw ()).H (SA L a now c deaf draw ()).nx (endH T Try.f11.results.toList fun x H _ => FinN (some R.1.length) (encAc R) (entN neS 78 R.1) x H) := by
  obtain ⟨ha, hn, hk, hh, hmn, hnum, hd, hnow, hdr⟩ := hI
  unfold SA
  rw [entG_A]
  obtain ⟨sd, es⟩ : ∃ s, L.getD a default = s := ⟨_, rfl⟩
  rw [es] at hk hh hmn hR ⊢
  subst a3
  refine sem_step (wd := 1) (Q := mkQ (LMa g0)) (by decide) tysOk (q_of (LMa_ok g0)) mixed ?_
  repeat' (first | (apply And.intro <;> intro hc <;> (first | exact Bool.noConfusion hc | (exfalso; first | exact absurd rfl hc | omega) | (simp only [decide_eq_true_eq, decide_eq_false_iff_not, Bool.not_eq_true', Bool.not_eq_false', beq_iff_eq, beq_eq_false_iff_ne, bne_iff_ne, bne_eq_false_iff_eq, Bool.true_eq_false, Bool.false_eq_true, ne_eq, not_true_eq_false] at hc <;> first | exact absurd rfl hc | (exfalso; first | exact absurd rfl hc | omega) | skip) | skip)) | (refine And.intro (by first | exact trivial | decide | omega | (dsimp only; omega) | exact fun _ _ => rfl | exact ⟨by assumption, by first | exact trivial | decide | omega | (dsimp only; omega)⟩) ?_) | (apply And.intro) | (intro s hs; skip) | (refine Exists.intro _ (And.intro ⟨rfl, rfl, rfl⟩ ?_)))
  refine sem_step (wd := 1) (Q := mkQ (LMa g0)) (by decide) tysOk (q_of (LMa_ok g0)) mixed ?_
  repeat' (first | (apply And.intro <;> intro hc <;> (first | exact Bool.noConfusion hc | (exfalso; first | exact absurd rfl hc | omega) | (simp only [decide_eq_true_eq, decide_eq_false_iff_not, Bool.not_eq_true', Bool.not_eq_false', beq_iff_eq, beq_eq_false_iff_ne, bne_iff_ne, bne_eq_false_iff_eq, Bool.true_eq_false, Bool.false_eq_true, ne_eq, not_true_eq_false] at hc <;> first | exact absurd rfl hc | (exfalso; first | exact absurd rfl hc | omega) | skip) | skip)) | (refine And.intro (by first | exact trivial | decide | omega | (dsimp only; omega) | exact fun _ _ => rfl | exact ⟨by assumption, by first | exact trivial | decide | omega | (dsimp only; omega)⟩) ?_) | (apply And.intro) | (intro s hs; skip) | (refine Exists.intro _ (And.intro ⟨rfl, rfl, rfl⟩ ?_)))
  · refine fin_acc (s := sd) (d := 2) (hR.trans ?_) ha rfl (fun p h j => rowA_ne h) rfl rfl rfl rfl rfl rfl rfl fun q hq j hj => (neH.sh _ j hj).le
    unfold accS
    rw [if_pos hc]
  have hge := hc
  have w1 : IntKind.i64.wrap (c.num - 31) = c.num - 31 := IntWalk.i64_in _ (by omega)
  obtain ⟨⟨i, b⟩, hP⟩ : ∃ P, plcH c.num sd.held 0 = P := ⟨_, rfl⟩
  have hle := plc_le (id := c.num) (L := sd.held) (k := 0)
  rw [hP, Nat.zero_add] at hle
  dsimp only at hle
  obtain ⟨hle1, hle2, _⟩ := hle
  cases b with
  | true =>
    have hil := hle2 rfl
    clear hle2
    have hR2 : R = (L.set 8 (hearS sd i), false, 0) := by
      rw [hR]; unfold accS; rw [if_neg (by omega), hP]; rfl
    refine sem_step (wd := 1) (Q := mkQ (LMa g0)) (by decide) tysOk (q_of (LMa_ok g0)) mixed ?_
    repeat' (first | (apply And.intro <;> intro hc <;> (first | exact Bool.noConfusion hc | (exfalso; first | exact absurd rfl hc | omega) | (simp only [decide_eq_true_eq, decide_eq_false_iff_not, Bool.not_eq_true', Bool.not_eq_false', beq_iff_eq, beq_eq_false_iff_ne, bne_iff_ne, bne_eq_false_iff_eq, Bool.true_eq_false, Bool.false_eq_true, ne_eq, not_true_eq_false] at hc <;> first | exact absurd rfl hc | (exfalso; first | exact absurd rfl hc | omega) | skip) | skip)) | (refine And.intro (by first | exact trivial | decide | omega | (dsimp only; omega) | exact fun _ _ => rfl | exact ⟨by assumption, by first | exact trivial | decide | omega | (dsimp only; omega)⟩) ?_) | (apply And.intro) | (intro s hs; (first | (have q := rd_plc hs (toN_row0 neH_rd _) hP; clear hs; subst q) | (have q := rd_hear hs (Nat.zero_add i); clear hs; subst q))) | (refine Exists.intro _ (And.intro ⟨rfl, rfl, rfl⟩ ?_)))
    · exact fun _ _ => ⟨rfl, okD_sl _⟩
    · exact Eq.mpr (congrArg (fun z : List Hel => z.length ≤ 9223372036854775807) (toN_row0 neH_rd _)) (by omega)
    conv => whnf
    have hLh : (hearS sd i).held.length = sd.held.length := List.length_set
    refine fin_acc (s := hearS sd i) (d := 2) hR2 ha rfl (fun p h j => rowA_ne h) rfl rfl (by rw [hLh]; rfl) rfl rfl hLh.symm rfl fun q hq j hj => hel_row hil hj
  | false =>
    clear hle2
    refine sem_step (wd := 1) (Q := mkQ (LMa g0)) (by decide) tysOk (q_of (LMa_ok g0)) mixed ?_
    repeat' (first | (apply And.intro <;> intro hc <;> (first | exact Bool.noConfusion hc | (exfalso; first | exact absurd rfl hc | omega) | (simp only [decide_eq_true_eq, decide_eq_false_iff_not, Bool.not_eq_true', Bool.not_eq_false', beq_iff_eq, beq_eq_false_iff_ne, bne_iff_ne, bne_eq_false_iff_eq, Bool.true_eq_false, Bool.false_eq_true, ne_eq, not_true_eq_false] at hc <;> first | exact absurd rfl hc | (exfalso; first | exact absurd rfl hc | omega) | skip) | skip)) | (refine And.intro (by first | exact trivial | decide | omega | (dsimp only; omega) | exact fun _ _ => rfl | exact ⟨by assumption, by first | exact trivial | decide | omega | (dsimp only; omega)⟩) ?_) | (apply And.intro) | (intro s hs; (first | (have q := rd_plc hs (toN_row0 neH_rd _) hP; clear hs; subst q))) | (refine Exists.intro _ (And.intro ⟨rfl, rfl, rfl⟩ ?_)))
    · exact fun _ _ => ⟨rfl, okD_sl _⟩
    · exact Eq.mpr (congrArg (fun z : List Hel => z.length ≤ 9223372036854775807) (toN_row0 neH_rd _)) (by omega)
    change Sem _ _ _ _ _ _ _ _
    refine sem_cut (wd := 1024) (Q := mkQ (LMa g0)) (by decide) tysOk (q_of (LMa_ok g0)) (mono_of (LMa_ok g0)) mixed (SB L 8 (raiseS sd (c.num - 31)) now c deaf draw) (by intro _; rfl) ?_ ?_
    · repeat' (first | (simp only [w1]) | (apply And.intro <;> intro hc <;> (first | exact Bool.noConfusion hc | (exfalso; first | exact absurd rfl hc | omega) | (simp only [decide_eq_true_eq, decide_eq_false_iff_not, Bool.not_eq_true', Bool.not_eq_false', beq_iff_eq, beq_eq_false_iff_ne, bne_iff_ne, bne_eq_false_iff_eq, Bool.true_eq_false, Bool.false_eq_true, ne_eq, not_true_eq_false] at hc <;> first | exact absurd rfl hc | (exfalso; first | exact absurd rfl hc | omega) | skip) | skip)) | (refine And.intro (by first | exact trivial | decide | omega | (dsimp only; omega) | exact fun _ _ => rfl | exact ⟨by assumption, by first | exact trivial | decide | omega | (dsimp only; omega)⟩) ?_) | (apply And.intro) | (intro s hs; skip) | (refine Exists.intro _ (And.intro ⟨rfl, rfl, rfl⟩ ?_)))
      · exact rfl
      · conv => whnf
        rw [show raiseS sd (c.num - 31) = sd from if_pos hc]
        exact ⟨(), [], rfl, ⟨leF_int rfl, leF_bool rfl, leF_int rfl, leF_ptr rfl, leF_c (leC_os rfl rfl), leF_ptr rfl, trivial⟩, ⟨⟨rfl, leN_varA fun j hj => (neC.sh _ j hj).le⟩, ⟨rfl, ⟨rfl, rfl, rfl, rfl, fun p hp j hj => rowA_le hj rfl⟩⟩, ⟨rfl, leN_entN⟩, trivial⟩⟩
      · exact ⟨rfl, okD_sl _⟩
      · exact Eq.mpr (congrArg KpI (toN_row0 neH_rd _)) hk
      · conv => whnf
        have q : sd.held.filter (wantB (some (c.num - 31))) = s := (hs.trans (by rw [toN_row0 neH_rd])).symm
        clear hs
        rw [show raiseS sd (c.num - 31) = ⟨sd.id, c.num - 31, s⟩ from (if_neg hc).trans (by rw [q])]
        refine ⟨(), [(2, some 4141)], rfl, ⟨leF_int rfl, leF_bool rfl, leF_int rfl, leF_ptr rfl, leF_c (leC_os rfl rfl), leF_ptr rfl, trivial⟩, ⟨⟨rfl, leN_varA fun j hj => (neC.sh _ j hj).le⟩, ⟨rfl, ⟨rfl, rfl, rfl, rfl, fun p hp j hj => ?_⟩⟩, ⟨rfl, leN_entN⟩, trivial⟩⟩
        have hj : j < 3 := hj
        refine rowA_to hj (fun h => (updE_ne h).trans ((updE_ne h).trans (rowA_ne h))) fun h => ?_
        subst h
        rcases j with _ | _ | _ | j
        · exact leC_int rfl
        · exact leC_int rfl
        · exact leC_os rfl rfl
        · omega
    · intro _
      refine acc3 g0 L 8 (raiseS sd (c.num - 31)) now c deaf draw ⟨ha, hn, raise_k hk, raise_h hh, hnum, hd, hnow, hdr⟩ R ?_
      rw [hR]
      unfold accS
      rw [if_neg hge, hP]
      cases deaf <;> rfl
theorem acc2 (g0 : Nat) (L : List Sed) (a : Nat) (now : Int) (c : Cas) (deaf : Bool) (draw : Int) (hI : AcI L a now c draw) (R : List Sed × Bool × Int) (hR : R = (L.set a (accS (L.getD a default) now c deaf draw).1, (accS (L.getD a default) now c deaf draw).2, 0)) :
    Sem Try.prog Try.f11.ntmps 0 (dropC 7 (Try.f11.body.getD Code.ret)) (SA L a now c deaf draw ()).fr (SA L a now c deaf draw ()).H (SA L a now c deaf draw ()).nx (endH T Try.f11.results.toList fun x H _ => FinN (some R.1.length) (encAc R) (entN neS 78 R.1) x H) := by
  have h : a = 0 ∨ a = 1 ∨ a = 2 ∨ a = 3 ∨ a = 4 ∨ a = 5 ∨ a = 6 ∨ a = 7 ∨ a = 8 := by have := hI.lt; have := hI.n; omega
  rcases h with h | h | h | h | h | h | h | h | h
  · exact acc2_0 g0 L a now c deaf draw hI R hR h
  · exact acc2_1 g0 L a now c deaf draw hI R hR h
  · exact acc2_2 g0 L a now c deaf draw hI R hR h
  · exact acc2_3 g0 L a now c deaf draw hI R hR h
  · exact acc2_4 g0 L a now c deaf draw hI R hR h
  · exact acc2_5 g0 L a now c deaf draw hI R hR h
  · exact acc2_6 g0 L a now c deaf draw hI R hR h
  · exact acc2_7 g0 L a now c deaf draw hI R hR h
  · exact acc2_8 g0 L a now c deaf draw hI R hR h
end Go.Proofs.Ytfaibcgakcmhcaa.AX

/- Package multicast by AX2: Accept, up to the sender's place. -/
namespace Go.Proofs.Ytfaibcgakcmhcaa.AX
open Go.RowKit
set_option linter.unusedVariables false
set_option linter.unusedSimpArgs false
theorem time_rng {t : Int} (h : isTimeT t = true) : 0 ≤ t ∧ t ≤ 1099511627776 := by
  unfold isTimeT at h
  simp only [Bool.and_eq_true, decide_eq_true_eq] at h
  omega
theorem rd_validL {s V : Bool} {M L : List Sed} (hs : s = validL M) (h : M = L) (hV : validL L = V) : V = s := by rw [hs, h, hV]
theorem rd_fnd {s F : Nat × Bool} {id : Int} {M L : List Sed} (hs : s = fndS id M 0) (h : M = L) (hF : fndS id L 0 = F) : F = s := by rw [hs, h, hF]
set_option maxHeartbeats 8000000 in
set_option maxRecDepth 20000 in
theorem acc1 (L : List Sed) (now : Int) (c : Cas) (deaf : Bool) (draw : Int) (hL : LHn L) (hdr : drawOk draw) : NewOk Try.prog 11 [(cNS neS neS_sz).enc L, (cI .i64).enc now, (cN neC).enc c, cB.enc deaf, (cI .u32).enc draw] (some (acceptF L now c deaf draw).1.length) (encAc (acceptF L now c deaf draw)) (entN neS 78 (acceptF L now c deaf draw).1) := by
  obtain ⟨R, hR⟩ : ∃ R, acceptF L now c deaf draw = R := ⟨_, rfl⟩
  rw [hR]
  obtain ⟨g, hg⟩ : ∃ g, (if (fndS c.id L 0).2 = true then (fndS c.id L 0).1 else L.length) = g := ⟨_, rfl⟩
  obtain ⟨V, hV⟩ : ∃ V, validL L = V := ⟨_, rfl⟩
  obtain ⟨F, hF⟩ : ∃ F, fndS c.id L 0 = F := ⟨_, rfl⟩
  obtain ⟨B, hB⟩ : ∃ B, isTimeT now = B := ⟨_, rfl⟩
  have g1 : True := trivial
  have g2 : True := trivial
  have g3 : True := trivial
  have hV0 : V = false → R = ([], false, 1) := fun h => by rw [← hR]; unfold acceptF; rw [if_pos (.inl (hV.trans h))]
  have hI0 : c.id = 0 → R = ([], false, 1) := fun h => by rw [← hR]; unfold acceptF; rw [if_pos (.inr (.inl h))]
  have hD0 : 64 < c.data.length → R = ([], false, 1) := fun h => by rw [← hR]; unfold acceptF; rw [if_pos (.inr (.inr h))]
  have h1 : V = true → ¬ c.id = 0 → ¬ 64 < c.data.length → R = if isTimeT now = false ∨ c.num < 0 ∨ 1073741824 ≤ c.num then ([], false, 2) else
      if F.2 = false ∧ 8 ≤ L.length then ([], false, 10) else
      ((accL c L).set F.1 (accS ((accL c L).getD F.1 default) now c deaf draw).1, (accS ((accL c L).getD F.1 default) now c deaf draw).2, 0) := fun ha hb hd => by
    rw [← hR]; unfold acceptF; rw [if_neg (by rw [hV, ha]; simp; omega), hF]
  clear hR
  refine new_introS tysOk Try.func11 rfl _ (by show 5 ≤ _; decide) (fun i _ j hj => rowN_nf _ hj) ?_
  refine sem_step (wd := 1) (Q := mkQ (LMa g)) (by decide) tysOk (q_of (LMa_ok g)) mixed ?_
  refine sem_step (wd := 1) (Q := mkQ (LMa g)) (by decide) tysOk (q_of (LMa_ok g)) mixed ?_
  repeat' (first | (apply And.intro <;> intro hc <;> (first | exact Bool.noConfusion hc | (exfalso; first | exact absurd rfl hc) | (simp only [decide_eq_true_eq, decide_eq_false_iff_not, Bool.not_eq_true', Bool.not_eq_false', beq_iff_eq, beq_eq_false_iff_ne, bne_iff_ne, bne_eq_false_iff_eq, Bool.true_eq_false, Bool.false_eq_true, ne_eq, not_true_eq_false] at hc <;> first | exact absurd rfl hc | (exfalso; first | exact absurd rfl hc) | skip) | skip)) | (refine And.intro (by first | exact trivial | decide | omega | (dsimp only; omega) | exact fun _ _ => rfl | exact ⟨by assumption, by first | exact trivial | decide | omega | (dsimp only; omega)⟩) ?_) | (apply And.intro) | (intro s hs; (have q : V = s := rd_validL hs (toN_row neS_rd _) hV; clear hs; subst q)) | (refine Exists.intro _ (And.intro ⟨rfl, rfl, rfl⟩ ?_)))
  · exact fun _ _ => ⟨rfl, okHs_sl _⟩
  · exact Eq.mpr (congrArg LHn (toN_row neS_rd _)) hL
  · exact fin_err (hV0 (by assumption))
  · exact fin_err (hI0 (by assumption))
  · exact fin_err (hD0 (by omega))
  rename_i hi
  have h2 := h1 (by assumption) hi (by omega)
  clear h1 hV0 hI0 hD0
  refine sem_step (wd := 1) (Q := mkQ (LMa g)) (by decide) tysOk (q_of (LMa_ok g)) mixed ?_
  repeat' (first | (apply And.intro <;> intro hc <;> (first | exact Bool.noConfusion hc | (exfalso; first | exact absurd rfl hc) | (simp only [decide_eq_true_eq, decide_eq_false_iff_not, Bool.not_eq_true', Bool.not_eq_false', beq_iff_eq, beq_eq_false_iff_ne, bne_iff_ne, bne_eq_false_iff_eq, Bool.true_eq_false, Bool.false_eq_true, ne_eq, not_true_eq_false] at hc <;> first | exact absurd rfl hc | (exfalso; first | exact absurd rfl hc) | skip) | skip)) | (refine And.intro (by first | exact trivial | decide | omega | (dsimp only; omega) | exact fun _ _ => rfl | exact ⟨by assumption, by first | exact trivial | decide | omega | (dsimp only; omega)⟩) ?_) | (apply And.intro) | (intro s hs; (have q : B = s := hB.symm.trans hs.symm; clear hs; subst q)) | (refine Exists.intro _ (And.intro ⟨rfl, rfl, rfl⟩ ?_)))
  · exact fin_err (h2.trans (if_pos (.inl (hB.trans (by assumption)))))
  · exact fin_err (h2.trans (if_pos (.inr (.inl (by assumption)))))
  · exact fin_err (h2.trans (if_pos (.inr (.inr hc))))
  rename_i hn
  have h3 := h2.trans (if_neg (by rw [hB, show B = true by assumption]; simp; omega))
  clear h2
  have hVt : validL L = true := hV.trans (by assumption)
  have hCl := vl_cl hVt
  have hl8 := vl_len hVt
  refine sem_step (wd := 1) (Q := mkQ (LMa g)) (by decide) tysOk (q_of (LMa_ok g)) mixed ?_
  repeat' (first | (apply And.intro <;> intro hc <;> (first | exact Bool.noConfusion hc | (exfalso; first | exact absurd rfl hc) | (simp only [decide_eq_true_eq, decide_eq_false_iff_not, Bool.not_eq_true', Bool.not_eq_false', beq_iff_eq, beq_eq_false_iff_ne, bne_iff_ne, bne_eq_false_iff_eq, Bool.true_eq_false, Bool.false_eq_true, ne_eq, not_true_eq_false] at hc <;> first | exact absurd rfl hc | (exfalso; first | exact absurd rfl hc) | skip) | skip)) | (refine And.intro (by first | exact trivial | decide | omega | (dsimp only; omega) | exact fun _ _ => rfl | exact ⟨by assumption, by first | exact trivial | decide | omega | (dsimp only; omega)⟩) ?_) | (apply And.intro) | (intro s hs; (have q : F = s := rd_fnd hs (toN_row neS_rd _) hF; clear hs; subst q)) | (refine Exists.intro _ (And.intro ⟨rfl, rfl, rfl⟩ ?_)))
  · exact fun _ _ => ⟨rfl, okHs_sl _⟩
  · exact Eq.mpr (congrArg (fun z : List Sed => z.length ≤ 9223372036854775807) (toN_row neS_rd _)) hL.n
  refine sem_step (wd := 1) (Q := mkQ (LMa g)) (by decide) tysOk (q_of (LMa_ok g)) mixed ?_
  repeat' (first | (apply And.intro <;> intro hc <;> (first | exact Bool.noConfusion hc | (exfalso; first | exact absurd rfl hc) | (simp only [decide_eq_true_eq, decide_eq_false_iff_not, Bool.not_eq_true', Bool.not_eq_false', beq_iff_eq, beq_eq_false_iff_ne, bne_iff_ne, bne_eq_false_iff_eq, Bool.true_eq_false, Bool.false_eq_true, ne_eq, not_true_eq_false] at hc <;> first | exact absurd rfl hc | (exfalso; first | exact absurd rfl hc) | skip) | skip)) | (refine And.intro (by first | exact trivial | decide | omega | (dsimp only; omega) | exact fun _ _ => rfl | exact ⟨by assumption, by first | exact trivial | decide | omega | (dsimp only; omega)⟩) ?_) | (apply And.intro) | (intro s hs; skip) | (refine Exists.intro _ (And.intro ⟨rfl, rfl, rfl⟩ ?_)))
  · exact fin_err (h3.trans (if_pos ⟨by assumption, by omega⟩))
  · rename_i hu
    have h4 := h3.trans (if_neg (by omega))
    clear h3
    rw [hF, if_neg (by rw [hu]; simp)] at hg
    have eA : accL c L = insA F.1 ⟨c.id, c.num, []⟩ L := by
      unfold accL; rw [hF, if_neg (by rw [hu]; simp)]
    obtain ⟨f1, _, _⟩ := fnd_le (id := c.id) (L := L) (k := 0)
    rw [hF, Nat.zero_add] at f1
    have w1 : IntKind.i64.wrap ((F.1 : Int) + 1) = ((F.1 + 1 : Nat) : Int) := (IntWalk.i64_in _ (by omega)).trans (by omega)
    refine sem_step (wd := 2) (Q := mkQ (LMa g)) (by decide) tysOk (q_of (LMa_ok g)) mixed ?_
    repeat' (first | (apply And.intro <;> intro hc <;> (first | exact Bool.noConfusion hc | (exfalso; first | exact absurd rfl hc) | (simp only [decide_eq_true_eq, decide_eq_false_iff_not, Bool.not_eq_true', Bool.not_eq_false', beq_iff_eq, beq_eq_false_iff_ne, bne_iff_ne, bne_eq_false_iff_eq, Bool.true_eq_false, Bool.false_eq_true, ne_eq, not_true_eq_false] at hc <;> first | exact absurd rfl hc | (exfalso; first | exact absurd rfl hc) | skip) | skip)) | (refine And.intro (by first | exact trivial | decide | omega | (dsimp only; omega) | exact fun _ _ => rfl | exact ⟨by assumption, by first | exact trivial | decide | omega | (dsimp only; omega)⟩) ?_) | (apply And.intro) | (intro s hs; (have q : L = s := (hs.trans (toN_row neS_rd _)).symm; clear hs; subst q)) | (refine Exists.intro _ (And.intro ⟨rfl, rfl, rfl⟩ ?_)))
    · exact fun _ _ => ⟨rfl, okHs_sl _⟩
    · exact Eq.mpr (congrArg ClI (toN_row neS_rd _)) hCl
    change Sem _ _ _ _ _ _ _ _
    refine sem_cut (wd := 1) (Q := mkQ (LMa g)) (by decide) tysOk (q_of (LMa_ok g)) (mono_of (LMa_ok g)) mixed (SA (accL c L) F.1 now c deaf draw) (by intro _; rfl) ?_ ?_
    · repeat' (first | (simp only [w1]) | (apply And.intro <;> intro hc <;> (first | exact Bool.noConfusion hc | (exfalso; first | exact absurd rfl hc | (rw [hu] at hc; exact Bool.noConfusion hc)) | (simp only [decide_eq_true_eq, decide_eq_false_iff_not, Bool.not_eq_true', Bool.not_eq_false', beq_iff_eq, beq_eq_false_iff_ne, bne_iff_ne, bne_eq_false_iff_eq, Bool.true_eq_false, Bool.false_eq_true, ne_eq, not_true_eq_false] at hc <;> first | exact absurd rfl hc | (exfalso; first | exact absurd rfl hc | (rw [hu] at hc; exact Bool.noConfusion hc)) | skip) | skip)) | (refine And.intro (by first | exact trivial | decide | omega | (dsimp only; omega) | exact fun _ _ => rfl | exact ⟨by assumption, by first | exact trivial | decide | omega | (dsimp only; omega)⟩) ?_) | (apply And.intro) | (intro s hs; skip) | (refine Exists.intro _ (And.intro ⟨rfl, rfl, rfl⟩ ?_)))
      conv => whnf
      refine ⟨(), [(1, some 58), (2, none)], rfl, ⟨leF_int rfl, leF_bool rfl, leF_int rfl, leF_ptr rfl, leF_int rfl, leF_c (leC_os rfl (by rw [eA, insA_len f1])), trivial⟩, ⟨⟨rfl, leN_varA fun j hj => (neC.sh _ j hj).le⟩, ⟨rfl, ⟨rfl, by show L.length + 1 = (accL c L).length; rw [eA, insA_len f1], rfl, rfl, fun p hp j hj => ?_⟩⟩, ?_, trivial⟩⟩
      · have hj : j < 3 := hj
        have hp : p < L.length + 1 := hp
        show LeC _ _ (rowG 2 F.1 (accL c L) p j)
        refine ins_cells (r := rowG 50 g L) f1 ?_ hp (fun h => ?_) (fun h => ?_) (fun h => ?_)
        · show min (L.length + 1 - F.1) (L.length + 1 - (F.1 + 1)) = _
          omega
        · rw [rowG_i (.inl (by omega)), rowG_i (.inl (by omega)), eA, show rowN neS (insA F.1 ⟨c.id, c.num, []⟩ L) p j = rowN neS L p j from congrArg (fun z => neS.cell z j) (insA_lt f1 h)]
          exact (neS.sh _ j hj).le
        · subst h
          rcases j with _ | _ | _ | j
          · rw [rowG_i (.inr (by decide)), eA, show rowN neS (insA F.1 ⟨c.id, c.num, []⟩ L) F.1 0 = _ from congrArg (fun z => neS.cell z 0) (insA_eq f1)]
            exact leC_int rfl
          · rw [rowG_i (.inr (by decide)), eA, show rowN neS (insA F.1 ⟨c.id, c.num, []⟩ L) F.1 1 = _ from congrArg (fun z => neS.cell z 1) (insA_eq f1)]
            exact leC_int rfl
          · rw [rowG_g, eA, insA_eq f1]
            exact leC_nils_os rfl
          · omega
        · rw [rowG_i (.inl (by omega)), rowG_i (.inl (by omega)), eA, show rowN neS (insA F.1 ⟨c.id, c.num, []⟩ L) p j = rowN neS L (p - 1) j from congrArg (fun z => neS.cell z j) (insA_gt f1 h)]
          exact (neS.sh _ j hj).le
      · rw [eA, insA_eq f1]
        exact ⟨rfl, rfl, rfl, Nat.le_of_ble_eq_true rfl⟩
    · intro _
      refine acc2 g (accL c L) F.1 now c deaf draw ⟨?_, ?_, ?_, ?_, ?_, ⟨by omega, by omega⟩, by omega, time_rng (hB.trans (by assumption)), hdr⟩ R h4
      · rw [eA, insA_len f1]; omega
      · rw [eA, insA_len f1]; omega
      · rw [eA, insA_eq f1]; exact ⟨Nat.zero_le _, fun x hx => by cases hx⟩
      · rw [eA, insA_eq f1]; exact Nat.zero_le _
      · rw [eA, insA_eq f1]; exact ⟨by dsimp only; omega, by dsimp only; omega⟩
  · rename_i hu
    have h4 := h3.trans (if_neg (by rw [hu]; simp))
    clear h3
    rw [hF, if_pos hu] at hg
    have eA : accL c L = L := by
      unfold accL; rw [hF, if_pos hu]
    obtain ⟨_, f2, _⟩ := fnd_le (id := c.id) (L := L) (k := 0)
    rw [hF, Nat.zero_add] at f2
    have hlt := f2 hu
    refine sem_step (wd := 2) (Q := mkQ (LMa g)) (by decide) tysOk (q_of (LMa_ok g)) mixed ?_
    repeat' (first | (apply And.intro <;> intro hc <;> (first | exact Bool.noConfusion hc | (exfalso; first | exact absurd rfl hc) | (simp only [decide_eq_true_eq, decide_eq_false_iff_not, Bool.not_eq_true', Bool.not_eq_false', beq_iff_eq, beq_eq_false_iff_ne, bne_iff_ne, bne_eq_false_iff_eq, Bool.true_eq_false, Bool.false_eq_true, ne_eq, not_true_eq_false] at hc <;> first | exact absurd rfl hc | (exfalso; first | exact absurd rfl hc) | skip) | skip)) | (refine And.intro (by first | exact trivial | decide | omega | (dsimp only; omega) | exact fun _ _ => rfl | exact ⟨by assumption, by first | exact trivial | decide | omega | (dsimp only; omega)⟩) ?_) | (apply And.intro) | (intro s hs; (have q : L = s := (hs.trans (toN_row neS_rd _)).symm; clear hs; subst q)) | (refine Exists.intro _ (And.intro ⟨rfl, rfl, rfl⟩ ?_)))
    · exact fun _ _ => ⟨rfl, okHs_sl _⟩
    · exact Eq.mpr (congrArg ClI (toN_row neS_rd _)) hCl
    change Sem _ _ _ _ _ _ _ _
    refine sem_cut (wd := 1) (Q := mkQ (LMa g)) (by decide) tysOk (q_of (LMa_ok g)) (mono_of (LMa_ok g)) mixed (SA (accL c L) F.1 now c deaf draw) (by intro _; rfl) ?_ ?_
    · repeat' (first | (apply And.intro <;> intro hc <;> (first | exact Bool.noConfusion hc | (exfalso; first | exact absurd rfl hc | (rw [hu] at hc; exact Bool.noConfusion hc)) | (simp only [decide_eq_true_eq, decide_eq_false_iff_not, Bool.not_eq_true', Bool.not_eq_false', beq_iff_eq, beq_eq_false_iff_ne, bne_iff_ne, bne_eq_false_iff_eq, Bool.true_eq_false, Bool.false_eq_true, ne_eq, not_true_eq_false] at hc <;> first | exact absurd rfl hc | (exfalso; first | exact absurd rfl hc | (rw [hu] at hc; exact Bool.noConfusion hc)) | skip) | skip)) | (refine And.intro (by first | exact trivial | decide | omega | (dsimp only; omega) | exact fun _ _ => rfl | exact ⟨by assumption, by first | exact trivial | decide | omega | (dsimp only; omega)⟩) ?_) | (apply And.intro) | (intro s hs; skip) | (refine Exists.intro _ (And.intro ⟨rfl, rfl, rfl⟩ ?_)))
      conv => whnf
      rw [eA]
      subst hg
      exact ⟨(), [(1, some 49), (2, some 50)], rfl, ⟨leF_int rfl, leF_bool rfl, leF_int rfl, leF_ptr rfl, leF_int rfl, leF_c (leC_os rfl rfl), trivial⟩, ⟨⟨rfl, leN_varA fun j hj => (neC.sh _ j hj).le⟩, ⟨rfl, ⟨rfl, rfl, rfl, rfl, fun p hp j hj => rowG_le hj fun _ => rfl⟩⟩, ⟨rfl, leN_entN⟩, trivial⟩⟩
    · intro _
      have hS := (vl_mem hVt _ (getD_mem hlt)).2
      refine acc2 g (accL c L) F.1 now c deaf draw ⟨?_, ?_, ?_, ?_, ?_, ⟨by omega, by omega⟩, by omega, time_rng (hB.trans (by assumption)), hdr⟩ R h4
      · rw [eA]; exact hlt
      · rw [eA]; omega
      · rw [eA]; exact hS.k
      · rw [eA]; exact hS.n
      · rw [eA]; exact hS.mn
structure AccP (L : List Sed) (d : Int) : Prop where
  h : LHn L
  d : drawOk d
abbrev acceptE : Entry := newE (AC.cons (cNS neS neS_sz) (AC.cons (cI .i64) (AC.cons (cN neC) (AC.cons cB (AC.cons (cI .u32) AC.nil))))) (fun a => AccP a.1 a.2.2.2.2.1) (fun a => acceptF a.1 a.2.1 a.2.2.1 a.2.2.2.1 a.2.2.2.2.1) (fun s => some s.1.length) encAc (fun s => entN neS 78 s.1)
theorem acceptE_ok : EntOk Try.prog 11 acceptE := newE_ok ⟨_, Try.func11, rfl, by kernel_rfl⟩ (fun s l h x hx => by
  injection h with h
  subst h
  rcases List.mem_cons.1 hx with rfl | hx
  · exact nfE_c nf_bool
  · rcases List.mem_cons.1 hx with rfl | hx
    · exact nfE_c nf_int
    · cases hx) fun a h => acc1 a.1 a.2.1 a.2.2.1 a.2.2.2.1 a.2.2.2.2.1 h.h h.d
end Go.Proofs.Ytfaibcgakcmhcaa.AX

/- Multicast, plain: find and place in sorted lists; Accept keeps lists valid. -/
namespace Go.Proofs.Ytfaibcgakcmhcaa.AX
set_option linter.unusedVariables false
set_option linter.unusedSimpArgs false
theorem getD_cons1 {α : Type} {x d : α} {l : List α} {i : Nat} : (x :: l).getD (i + 1) d = l.getD i d := by simp [List.getD_eq_getElem?_getD]
theorem vs_cons {last : Int} {a : Sed} {t : List Sed} : validSs last (a :: t) = true ↔ last < a.id ∧ validSd a = true ∧ validSs a.id t = true := by
  show (decide (last < a.id) && validSd a && validSs a.id t) = true ↔ _
  simp only [Bool.and_eq_true, decide_eq_true_eq, and_assoc]
theorem fnd_mem : ∀ {L : List Sed} {last : Int} {k : Nat} {x : Sed}, validSs last L = true → x ∈ L → (fndS x.id L k).2 = true ∧ L.getD ((fndS x.id L k).1 - k) default = x := by
  intro L
  induction L with
  | nil => intro _ _ _ _ h; cases h
  | cons a t ih =>
    intro last k x hv hx
    rw [vs_cons] at hv
    rcases List.mem_cons.1 hx with rfl | hx
    · unfold fndS
      rw [if_pos (Int.le_refl _), Nat.sub_self]
      exact ⟨decide_eq_true rfl, rfl⟩
    · have h1 := vs_mem hv.2.2 x hx
      unfold fndS
      rw [if_neg (by have := h1.1; omega)]
      obtain ⟨g1, g2⟩ := ih (k := k + 1) hv.2.2 hx
      refine ⟨g1, ?_⟩
      have := (fnd_le (id := x.id) (L := t) (k := k + 1)).2.2
      rw [show (fndS x.id t (k + 1)).1 - k = ((fndS x.id t (k + 1)).1 - (k + 1)) + 1 by omega, getD_cons1]
      exact g2
theorem fnd_true : ∀ {L : List Sed} {k : Nat} {id : Int}, (fndS id L k).2 = true → (L.getD ((fndS id L k).1 - k) default).id = id ∧ (fndS id L k).1 - k < L.length := by
  intro L
  induction L with
  | nil => intro _ _ h; cases h
  | cons a t ih =>
    intro k id h
    unfold fndS at h ⊢
    by_cases hc : id ≤ a.id
    · rw [if_pos hc] at h ⊢
      rw [Nat.sub_self]
      exact ⟨of_decide_eq_true h, by simp⟩
    · rw [if_neg hc] at h ⊢
      have := (fnd_le (id := id) (L := t) (k := k + 1)).2.2
      obtain ⟨g1, g2⟩ := ih h
      rw [show (fndS id t (k + 1)).1 - k = ((fndS id t (k + 1)).1 - (k + 1)) + 1 by omega, getD_cons1, List.length_cons]
      exact ⟨g1, by omega⟩
theorem vs_ins : ∀ {L : List Sed} {last : Int} {k : Nat} {x : Sed}, validSs last L = true → last < x.id → validSd x = true → (fndS x.id L k).2 = false → validSs last (insA ((fndS x.id L k).1 - k) x L) = true := by
  intro L
  induction L with
  | nil =>
    intro last k x _ hl hx _
    show validSs last (insA (k - k) x []) = true
    rw [Nat.sub_self]
    exact vs_cons.2 ⟨hl, hx, rfl⟩
  | cons a t ih =>
    intro last k x hv hl hx hf
    have hv' := vs_cons.1 hv
    unfold fndS at hf ⊢
    by_cases hc : x.id ≤ a.id
    · rw [if_pos hc] at hf ⊢
      have hne : ¬ a.id = x.id := of_decide_eq_false hf
      rw [Nat.sub_self]
      exact vs_cons.2 ⟨hl, hx, vs_cons.2 ⟨by omega, hv'.2⟩⟩
    · rw [if_neg hc] at hf ⊢
      have := (fnd_le (id := x.id) (L := t) (k := k + 1)).2.2
      rw [show (fndS x.id t (k + 1)).1 - k = ((fndS x.id t (k + 1)).1 - (k + 1)) + 1 by omega]
      exact vs_cons.2 ⟨hv'.1, hv'.2.1, ih hv'.2.2 (by omega) hx hf⟩
theorem vs_set : ∀ {L : List Sed} {last : Int} {i : Nat} {x : Sed}, validSs last L = true → i < L.length → x.id = (L.getD i default).id → validSd x = true → validSs last (L.set i x) = true := by
  intro L
  induction L with
  | nil => intro _ _ _ _ h; exact absurd h (Nat.not_lt_zero _)
  | cons a t ih =>
    intro last i x hv hi hid hx
    have hv' := vs_cons.1 hv
    cases i with
    | zero =>
      have hid : x.id = a.id := hid
      exact vs_cons.2 ⟨by omega, hx, by rw [hid]; exact hv'.2.2⟩
    | succ i =>
      rw [getD_cons1] at hid
      exact vs_cons.2 ⟨hv'.1, hv'.2.1, ih hv'.2.2 (by simpa using hi) hid hx⟩
/-! ### The messages of a sender -/
structure HelOk (mn : Int) (h : Hel) : Prop where
  w : h.num < mn + 32
  b : h.num < 1073741824
  d : h.data.length ≤ 64
  t : validT h.tm = true
  u : isTimeT h.til = true
theorem vh_cons {mn last : Int} {a : Hel} {t : List Hel} : validHs mn last (a :: t) = true ↔ last < a.num ∧ HelOk mn a ∧ validHs mn a.num t = true := by
  show (decide (last < a.num) && decide (a.num < mn + 32) && decide (a.num < 1073741824) && decide (a.data.length ≤ 64) && validT a.tm && isTimeT a.til && validHs mn a.num t) = true ↔ _
  simp only [Bool.and_eq_true, decide_eq_true_eq]
  constructor
  · rintro ⟨⟨⟨⟨⟨⟨h1, h2⟩, h3⟩, h4⟩, h5⟩, h6⟩, h7⟩
    exact ⟨h1, ⟨h2, h3, h4, h5, h6⟩, h7⟩
  · rintro ⟨h1, ⟨h2, h3, h4, h5, h6⟩, h7⟩
    exact ⟨⟨⟨⟨⟨⟨h1, h2⟩, h3⟩, h4⟩, h5⟩, h6⟩, h7⟩
theorem plc_mem {mn : Int} : ∀ {L : List Hel} {last : Int} {k : Nat} {x : Hel}, validHs mn last L = true → x ∈ L → (plcH x.num L k).2 = true ∧ L.getD ((plcH x.num L k).1 - k) default = x := by
  intro L
  induction L with
  | nil => intro _ _ _ _ h; cases h
  | cons a t ih =>
    intro last k x hv hx
    rw [vh_cons] at hv
    rcases List.mem_cons.1 hx with rfl | hx
    · unfold plcH
      rw [if_pos (Int.le_refl _), Nat.sub_self]
      exact ⟨decide_eq_true rfl, rfl⟩
    · have h1 := vh_mem hv.2.2 x hx
      unfold plcH
      rw [if_neg (by have := h1.1; omega)]
      obtain ⟨g1, g2⟩ := ih (k := k + 1) hv.2.2 hx
      refine ⟨g1, ?_⟩
      have := (plc_le (id := x.num) (L := t) (k := k + 1)).2.2
      rw [show (plcH x.num t (k + 1)).1 - k = ((plcH x.num t (k + 1)).1 - (k + 1)) + 1 by omega, getD_cons1]
      exact g2
theorem plc_true : ∀ {L : List Hel} {k : Nat} {id : Int}, (plcH id L k).2 = true → (L.getD ((plcH id L k).1 - k) default).num = id ∧ (plcH id L k).1 - k < L.length := by
  intro L
  induction L with
  | nil => intro _ _ h; cases h
  | cons a t ih =>
    intro k id h
    unfold plcH at h ⊢
    by_cases hc : id ≤ a.num
    · rw [if_pos hc] at h ⊢
      rw [Nat.sub_self]
      exact ⟨of_decide_eq_true h, by simp⟩
    · rw [if_neg hc] at h ⊢
      have := (plc_le (id := id) (L := t) (k := k + 1)).2.2
      obtain ⟨g1, g2⟩ := ih h
      rw [show (plcH id t (k + 1)).1 - k = ((plcH id t (k + 1)).1 - (k + 1)) + 1 by omega, getD_cons1, List.length_cons]
      exact ⟨g1, by omega⟩
theorem getD_in {α : Type} [Inhabited α] {L : List α} {i : Nat} (h : i < L.length) : L.getD i default ∈ L := by
  rw [List.getD_eq_getElem?_getD, List.getElem?_eq_getElem h]
  exact List.getElem_mem h
/-- A message that is not there is not there in a part of the list. -/
theorem plc_filter {mn last num : Int} {L : List Hel} {f : Hel → Bool} (hv : validHs mn last L = true) (h : (plcH num L 0).2 = false) : (plcH num (L.filter f) 0).2 = false := by
  cases hc : (plcH num (L.filter f) 0).2 with
  | false => rfl
  | true =>
    obtain ⟨g1, g2⟩ := plc_true hc
    have hm := getD_in g2
    have := (plc_mem (k := 0) hv (List.mem_filter.1 hm).1).1
    rw [g1, h] at this
    cases this
theorem vh_ins {mn : Int} : ∀ {L : List Hel} {last : Int} {k : Nat} {x : Hel}, validHs mn last L = true → last < x.num → HelOk mn x → (plcH x.num L k).2 = false → validHs mn last (insA ((plcH x.num L k).1 - k) x L) = true := by
  intro L
  induction L with
  | nil =>
    intro last k x _ hl hx _
    show validHs mn last (insA (k - k) x []) = true
    rw [Nat.sub_self]
    exact vh_cons.2 ⟨hl, hx, rfl⟩
  | cons a t ih =>
    intro last k x hv hl hx hf
    have hv' := vh_cons.1 hv
    unfold plcH at hf ⊢
    by_cases hc : x.num ≤ a.num
    · rw [if_pos hc] at hf ⊢
      have hne : ¬ a.num = x.num := of_decide_eq_false hf
      rw [Nat.sub_self]
      exact vh_cons.2 ⟨hl, hx, vh_cons.2 ⟨by omega, hv'.2⟩⟩
    · rw [if_neg hc] at hf ⊢
      have := (plc_le (id := x.num) (L := t) (k := k + 1)).2.2
      rw [show (plcH x.num t (k + 1)).1 - k = ((plcH x.num t (k + 1)).1 - (k + 1)) + 1 by omega]
      exact vh_cons.2 ⟨hv'.1, hv'.2.1, ih hv'.2.2 (by omega) hx hf⟩
theorem vh_set {mn : Int} : ∀ {L : List Hel} {last : Int} {i : Nat} {x : Hel}, validHs mn last L = true → i < L.length → x.num = (L.getD i default).num → HelOk mn x → validHs mn last (L.set i x) = true := by
  intro L
  induction L with
  | nil => intro _ _ _ _ h; exact absurd h (Nat.not_lt_zero _)
  | cons a t ih =>
    intro last i x hv hi hid hx
    have hv' := vh_cons.1 hv
    cases i with
    | zero =>
      have hid : x.num = a.num := hid
      exact vh_cons.2 ⟨by omega, hx, by rw [hid]; exact hv'.2.2⟩
    | succ i =>
      rw [getD_cons1] at hid
      exact vh_cons.2 ⟨hv'.1, hv'.2.1, ih hv'.2.2 (by simpa using hi) hid hx⟩
theorem vh_filter {mn l : Int} (hl : mn ≤ l) : ∀ {L : List Hel} {last last' : Int}, validHs mn last L = true → (last' ≤ last ∨ last' < l) → validHs l last' (L.filter (wantB (some l))) = true := by
  intro L
  induction L with
  | nil => intros; rfl
  | cons a t ih =>
    intro last last' hv hl'
    have hv' := vh_cons.1 hv
    rw [List.filter_cons]
    by_cases hw : wantB (some l) a = true
    · rw [if_pos hw]
      have hw' : l ≤ a.num := of_decide_eq_true hw
      exact vh_cons.2 ⟨by omega, ⟨by have := hv'.2.1.w; omega, hv'.2.1.b, hv'.2.1.d, hv'.2.1.t, hv'.2.1.u⟩, ih hv'.2.2 (.inl (Int.le_refl _))⟩
    · rw [if_neg hw]
      refine ih hv'.2.2 ?_
      have hw' : ¬ l ≤ a.num := fun h => hw (decide_eq_true h)
      omega
theorem sd_of {s : Sed} (h : SdOk s) : validSd s = true := by
  unfold validSd
  rw [decide_eq_true h.mn.1, decide_eq_true h.mn.2, decide_eq_true h.n, h.h]; rfl
theorem raise_ok {s : Sed} {l : Int} (h : SdOk s) (hl : l ≤ 1073741824) : SdOk (raiseS s l) := by
  unfold raiseS
  split
  · exact h
  · rename_i hc
    exact ⟨⟨by have := h.mn; show 0 ≤ l; omega, hl⟩, Nat.le_trans (List.length_filter_le _ _) h.n, (show validHs l (l - 1) (s.held.filter (wantB (some l))) = true from vh_filter (by omega) h.h (.inr (by omega)))⟩
theorem raise_mn {s : Sed} {l : Int} : l ≤ (raiseS s l).mn ∧ s.mn ≤ (raiseS s l).mn := by
  unfold raiseS
  split
  · exact ⟨by assumption, Int.le_refl _⟩
  · exact ⟨Int.le_refl _, by dsimp only; omega⟩
theorem raise_id {s : Sed} {l : Int} : (raiseS s l).id = s.id := by
  unfold raiseS
  split <;> rfl
theorem hear_valid {t : Trk} (h : validT t = true) : validT (hearT t) = true := by
  have hn := validT_num h
  obtain ⟨p1, p2⟩ := validT_parts h
  unfold hearT
  rw [if_pos h]
  split
  · exact validT_mk p1 p2 (by show 0 ≤ t.heard + 1 ∧ t.heard + 1 ≤ _; omega) hn.2.2.2.2.1 hn.2.2.2.2.2
  · exact h
theorem hels_ok {s : Sed} (h : SdOk s) {x : Hel} (hx : x ∈ s.held) : HelOk s.mn x := by
  obtain ⟨_, h1, h2, h3, h4, h5⟩ := vh_mem h.h x hx
  exact ⟨h1, h2, h3, h4, h5⟩
theorem hearS_ok {s : Sed} {i : Nat} (h : SdOk s) (hi : i < s.held.length) : SdOk (hearS s i) := by
  have hx := hels_ok h (getD_in hi)
  exact ⟨h.mn, by show (s.held.set _ _).length ≤ 32; rw [List.length_set]; exact h.n, vh_set h.h hi rfl ⟨hx.w, hx.b, hx.d, hear_valid hx.t, hx.u⟩⟩
/-- A list of numbers that rise and lie in a window is short. -/
theorem vh_len {mn : Int} : ∀ {L : List Hel} {last : Int}, validHs mn last L = true → (L.length : Int) ≤ mn + 32 - last - 1 ∨ L = [] := by
  intro L
  induction L with
  | nil => intro _ _; exact .inr rfl
  | cons a t ih =>
    intro last hv
    have hv' := vh_cons.1 hv
    have hw := hv'.2.1.w
    left
    rw [List.length_cons]
    rcases ih hv'.2.2 with h | h
    · omega
    · subst h
      show ((0 + 1 : Nat) : Int) ≤ _
      omega
theorem add_ok35 {s : Sed} {c : Cas} {now draw : Int} (h : SdOk s) (hn : 0 ≤ now ∧ now ≤ 1099511627776) (hd : c.data.length ≤ 64) (h1 : s.mn ≤ c.num) (h2 : c.num < s.mn + 32) (h3 : c.num < 1073741824) (hf : (plcH c.num s.held 0).2 = false) : SdOk (addSd s (newH c now draw) (plcH c.num s.held 0).1) := by
  have hx : HelOk s.mn (newH c now draw) := ⟨h2, h3, hd, new_valid rfl hn, isTimeT_iff.2 (by unfold newH; dsimp only; split <;> omega)⟩
  have hv : validHs s.mn (s.mn - 1) (insA (plcH c.num s.held 0).1 (newH c now draw) s.held) = true := vh_ins (k := 0) (x := newH c now draw) h.h (by show s.mn - 1 < c.num; omega) hx hf
  refine ⟨h.mn, ?_, hv⟩
  show (insA _ _ s.held).length ≤ 32
  rcases vh_len hv with g | g
  · omega
  · rw [g]; exact Nat.zero_le _
structure AccV (s s' : Sed) : Prop where
  id : s'.id = s.id
  ok : SdOk s'
theorem acc_ok {s : Sed} {now : Int} {c : Cas} {deaf : Bool} {draw : Int} (h : SdOk s) (hn : 0 ≤ now ∧ now ≤ 1099511627776) (hd : c.data.length ≤ 64) (h3 : c.num < 1073741824) : AccV s (accS s now c deaf draw).1 := by
  unfold accS
  split
  · exact ⟨rfl, h⟩
  · rename_i hm
    split
    · rename_i hp
      exact ⟨rfl, hearS_ok h (plc_true hp).2⟩
    · rename_i hp
      have hr := raise_ok (l := c.num - 31) h (by omega)
      split
      · exact ⟨by rw [raise_id, raise_id], raise_ok hr (by omega)⟩
      · refine ⟨raise_id, add_ok35 hr hn hd ?_ ?_ h3 ?_⟩
        · unfold raiseS; split
          · omega
          · dsimp only; omega
        · have := (raise_mn (s := s) (l := c.num - 31)).1; omega
        · unfold raiseS
          split
          · simpa using hp
          · exact plc_filter h.h (by simpa using hp)
theorem accL_ok {L : List Sed} {c : Cas} (hv : validL L = true) (hc0 : 0 < c.id) (hn : 0 ≤ c.num ∧ c.num ≤ 1073741824) (hl : (fndS c.id L 0).2 = true ∨ L.length < 8) : validL (accL c L) = true ∧ (fndS c.id L 0).1 < (accL c L).length ∧ ((accL c L).getD (fndS c.id L 0).1 default).id = c.id := by
  have hle := fnd_le (id := c.id) (L := L) (k := 0)
  unfold accL
  split
  · rename_i h
    exact ⟨hv, by have := hle.2.1 h; omega, (fnd_true h).1⟩
  · rename_i h
    have h8 : L.length < 8 := hl.resolve_left h
    unfold validL at hv ⊢
    simp only [Bool.and_eq_true, decide_eq_true_eq] at hv ⊢
    refine ⟨⟨by rw [insA_len (by omega)]; omega, ?_⟩, by rw [insA_len (by omega)]; omega, by rw [insA_eq (by omega)]⟩
    exact vs_ins (k := 0) (x := ⟨c.id, c.num, []⟩) hv.2 hc0 (sd_of ⟨hn, Nat.zero_le _, rfl⟩) (by simpa using h)
theorem acceptF_ok {L : List Sed} {now : Int} {c : Cas} {deaf : Bool} {draw : Int} (hid : 0 ≤ c.id) (h : (acceptF L now c deaf draw).2.2 = 0) : validL (acceptF L now c deaf draw).1 = true := by
  unfold acceptF at h ⊢
  split at h
  · cases h
  · rename_i h1
    rw [if_neg h1]
    split at h
    · cases h
    · rename_i h2
      rw [if_neg h2]
      split at h
      · cases h
      · rename_i h3
        rw [if_neg h3]
        have hv : validL L = true := by
          cases hh : validL L with
          | true => rfl
          | false => exact absurd (.inl hh) h1
        have ht : isTimeT now = true := by
          cases hh : isTimeT now with
          | true => rfl
          | false => exact absurd (.inl hh) h2
        have hl : (fndS c.id L 0).2 = true ∨ L.length < 8 := by
          cases hh : (fndS c.id L 0).2 with
          | true => exact .inl rfl
          | false => exact .inr (by rcases Nat.lt_or_ge L.length 8 with g | g; exact g; exact absurd ⟨hh, g⟩ h3)
        obtain ⟨g1, g2, g3⟩ := accL_ok (c := c) hv (by omega) (by omega) hl
        have hs := vl_mem g1 _ (getD_in g2)
        obtain ⟨a1, a2⟩ := acc_ok (now := now) (c := c) (deaf := deaf) (draw := draw) hs.2 (isTimeT_iff.1 ht) (by omega) (by omega)
        unfold validL at g1 ⊢
        simp only [Bool.and_eq_true, decide_eq_true_eq] at g1 ⊢
        exact ⟨by rw [List.length_set]; exact g1.1, vs_set g1.2 g2 a1 (sd_of a2)⟩
end Go.Proofs.Ytfaibcgakcmhcaa.AX

/- Layer 35: known. -/
namespace Go.Proofs.Ytfaibcgakcmhcaa.AX
open Go.RowKit
set_option linter.unusedVariables false
set_option linter.unusedSimpArgs false
theorem vl_hn {L : List Sed} (h : validL L = true) : LHn L := ⟨fun x hx => by have := (vl_mem h x hx).2.n; omega, by have := vl_len h; omega⟩
theorem okD_nil : okD .nils := by first | exact trivial | exact .nils | exact .inl rfl | exact rfl
def kc35 : Cas := ⟨7, 5, [1]⟩
def ka35 : List Sed × Bool × Int := acceptF [] 3 kc35 false 0
def kb35 : List Sed × Bool × Int := acceptF ka35.1 4 kc35 false 0
def kd35 : List Sed × Bool × Int := acceptF kb35.1 4 ⟨7, 4, []⟩ false 0
theorem kn35 : ka35.2 = (true, 0) ∧ kb35.2 = (false, 0) ∧ kd35.2 = (false, 0) ∧ kb35.1.length = 1 ∧ (kb35.1.getD 0 default).held.length = 1 ∧ ((kb35.1.getD 0 default).held.getD 0 default).tm.heard = 1 := by decide +kernel
theorem rd_acc {s K : List Sed × Bool × Int} {M L : List Sed} {now : Int} {c c' : Cas} {deaf : Bool} {draw : Int} (hs : s = acceptF M now c' deaf draw) (h : M = L) (hc : c' = c) (hK : acceptF L now c deaf draw = K) : K = s := by rw [hs, h, hc, hK]
def LMd : CsL := (11, some acceptE) :: []
theorem LMd_ok : AllOk Try.prog LMd := ⟨acceptE_ok, trivial⟩
def SKn (_ : Unit) : Hd := ⟨[(1, one (.ptr 0 0 0 false))], [(0, some ⟨32, 1, 3, true, fun _ => neC.cell kc35⟩)], 1⟩
theorem dr0 : drawOk 0 := by unfold drawOk; omega
set_option maxHeartbeats 8000000 in
set_option maxRecDepth 20000 in
theorem known35_ok : PureOk Try.prog 12 [] (cB.enc true) := by
  obtain ⟨k1, k2, k3, k4, k5, k6⟩ := kn35
  have v1 : LHn ka35.1 := vl_hn (acceptF_ok (by decide) (congrArg Prod.snd k1))
  have v2 : LHn kb35.1 := vl_hn (acceptF_ok (by decide) (congrArg Prod.snd k2))
  obtain ⟨A, eA⟩ : ∃ A, ka35 = A := ⟨_, rfl⟩
  obtain ⟨B, eB'⟩ : ∃ A, kb35 = A := ⟨_, rfl⟩
  obtain ⟨D, eD⟩ : ∃ A, kd35 = A := ⟨_, rfl⟩
  have hA : acceptF [] 3 kc35 false 0 = A := eA
  have hB : acceptF A.1 4 kc35 false 0 = B := by rw [← eA]; exact eB'
  have hD : acceptF B.1 4 ⟨7, 4, []⟩ false 0 = D := by rw [← eB']; exact eD
  rw [eA] at k1 v1
  rw [eB'] at k2 k4 k5 k6 v2
  rw [eD] at k3
  clear eA eB' eD
  obtain ⟨a1, a2, a3⟩ := A
  obtain ⟨b1, b2, b3⟩ := B
  obtain ⟨d1, d2, d3⟩ := D
  dsimp only at k1 k2 k3 k4 k5 k6 v1 v2
  injection k1 with k1 k1'
  injection k2 with k2 k2'
  injection k3 with k3 k3'
  subst k1 k1' k2 k2' k3 k3'
  refine pure_introS tysOk Try.func12 rfl _ (by show 0 ≤ _; decide) _ ?_
  refine sem_step (wd := 1) (Q := mkQ LMd) (by decide) tysOk (q_of LMd_ok) mixed ?_
  change Sem _ _ _ _ _ _ _ _
  refine sem_cut (wd := 1) (Q := mkQ LMd) (by decide) tysOk (q_of LMd_ok) (mono_of LMd_ok) mixed SKn (by intro _; rfl) ?_ ?_
  · conv => whnf
    refine ⟨(), [(0, some 3)], rfl, ⟨leF_ptr rfl, trivial⟩, ⟨⟨rfl, leN_varA fun j hj => ?_⟩, trivial⟩⟩
    rcases j with _ | _ | _ | j
    · exact leC_int rfl
    · exact leC_int rfl
    · refine leC_os_sl rfl rfl rfl rfl (Nat.le_refl _) fun q hq j hj => ?_
      rcases q with _ | q
      · rcases j with _ | j
        · exact leC_int rfl
        · exact absurd hj (by show ¬ _ < 1; omega)
      · exact absurd hq (by omega)
    · exact absurd hj (by show ¬ _ < 3; omega)
  intro _
  refine sem_exec (wd := 1) (Q := mkQ LMd) (by decide) tysOk (q_of LMd_ok) mixed ?_
  repeat' (first | (apply And.intro <;> intro hc <;> (first | exact Bool.noConfusion hc | (exfalso; first | exact absurd rfl hc | omega) | (simp only [decide_eq_true_eq, decide_eq_false_iff_not, Bool.not_eq_true', Bool.not_eq_false', beq_iff_eq, beq_eq_false_iff_ne, bne_iff_ne, bne_eq_false_iff_eq, Bool.true_eq_false, Bool.false_eq_true, ne_eq, not_true_eq_false] at hc <;> first | exact absurd rfl hc | (exfalso; first | exact absurd rfl hc | omega) | skip) | skip)) | (refine And.intro (by first | exact trivial | decide | omega | (dsimp only; omega) | exact fun _ _ => rfl | exact ⟨by assumption, by first | exact trivial | decide | omega | (dsimp only; omega)⟩) ?_) | (apply And.intro) | (intro s hs; (first | (have q := rd_acc hs rfl (neC_rd _) hA; clear hs; subst q) | (have q := rd_acc hs (toN_row0 neS_rd _) (neC_rd _) hB; clear hs; subst q) | (have q := rd_acc hs (toN_row0 neS_rd _) rfl hD; clear hs; subst q))) | (refine Exists.intro _ (And.intro ⟨rfl, rfl, rfl⟩ ?_)))
  · exact ⟨rfl, okD_sl _⟩
  · exact ⟨⟨fun x hx => (List.not_mem_nil hx).elim, Nat.zero_le _⟩, dr0⟩
  · exact fun _ _ => ⟨rfl, okHs_sl _⟩
  · exact ⟨rfl, okD_sl _⟩
  · exact ⟨Eq.mpr (congrArg LHn (toN_row0 neS_rd _)) v1, dr0⟩
  · exact fun _ _ => ⟨rfl, okHs_sl _⟩
  · exact ⟨rfl, okD_nil⟩
  · exact ⟨Eq.mpr (congrArg LHn (toN_row0 neS_rd _)) v2, dr0⟩
  · conv => whnf
    exact Done.mk (leF_bool (decide_eq_true k6))
  · exact absurd (congrArg (fun n : Nat => (n : Int)) k5) hc
abbrev known35E : Entry := pureE AC.nil (fun _ => True) (fun _ => true) cB.enc
theorem known35E_ok : EntOk Try.prog 12 known35E := pureE_ok ⟨_, Try.func12, rfl, by kernel_rfl⟩ fun a _ => known35_ok
end Go.Proofs.Ytfaibcgakcmhcaa.AX

/- MulticastDeaf, plain. -/
namespace Go.Proofs.Ytfaibcgakcmhcaa.AX
set_option linter.unusedVariables false
set_option linter.unusedSimpArgs false
theorem vs_lenb {b : Int} : ∀ {L : List Sed} {last : Int}, validSs last L = true → (∀ x ∈ L, x.id ≤ b) → (L.length : Int) ≤ b - last ∨ L = [] := by
  intro L
  induction L with
  | nil => intro _ _ _; exact .inr rfl
  | cons a t ih =>
    intro last hv hb
    have hv' := vs_cons.1 hv
    have hab := hb a (List.mem_cons_self ..)
    left
    rw [List.length_cons]
    rcases ih hv'.2.2 (fun x hx => hb x (List.mem_cons_of_mem _ hx)) with h | h
    · omega
    · subst h
      show ((0 + 1 : Nat) : Int) ≤ _
      omega
theorem insA_mem {α : Type} {k : Nat} {x y : α} {L : List α} : y ∈ insA k x L ↔ y = x ∨ y ∈ L := by
  unfold insA
  rw [List.mem_append, List.mem_cons]
  constructor
  · rintro (h | h | h)
    · exact .inr (List.mem_of_mem_take h)
    · exact .inl h
    · exact .inr (List.mem_of_mem_drop h)
  · rintro (h | h)
    · exact .inr (.inl h)
    · rw [← List.take_append_drop k L] at h
      rcases List.mem_append.1 h with h | h
      · exact .inl h
      · exact .inr (.inr h)
theorem set_mem_at {L : List Sed} {i : Nat} {x : Sed} (h : i < L.length) : x ∈ L.set i x := by
  have h2 : i < (L.set i x).length := by rw [List.length_set]; exact h
  have := List.getElem_mem h2
  rwa [List.getElem_set_self] at this
theorem set_mem_ne {L : List Sed} {i : Nat} {x y : Sed} (h : y ∈ L) (hne : y ≠ L.getD i default) : y ∈ L.set i x := by
  obtain ⟨k, hk, e⟩ := List.getElem_of_mem h
  have hki : i ≠ k := fun h2 => hne (by subst h2; rw [List.getD_eq_getElem?_getD, List.getElem?_eq_getElem hk, e]; rfl)
  have h2 : k < (L.set i x).length := by rw [List.length_set]; exact hk
  have := List.getElem_mem h2
  rwa [List.getElem_set_ne hki, e] at this
theorem vs_uniq {last : Int} {L : List Sed} {x y : Sed} (hv : validSs last L = true) (hx : x ∈ L) (hy : y ∈ L) (h : x.id = y.id) : x = y := by
  have h1 := (fnd_mem (k := 0) hv hx).2
  have h2 := (fnd_mem (k := 0) hv hy).2
  rw [← h1, ← h2, h]
theorem vl_vs {L : List Sed} (h : validL L = true) : validSs 0 L = true := by
  unfold validL at h
  simp only [Bool.and_eq_true, decide_eq_true_eq] at h
  exact h.2
theorem accL_mem {c : Cas} {L : List Sed} {x : Sed} (h : x ∈ accL c L) : x ∈ L ∨ x = ⟨c.id, c.num, []⟩ := by
  unfold accL at h
  split at h
  · exact .inl h
  · rcases insA_mem.1 h with h | h
    · exact .inr h
    · exact .inl h
theorem accL_mem2 {c : Cas} {L : List Sed} {x : Sed} (h : x ∈ L) : x ∈ accL c L := by
  unfold accL
  split
  · exact h
  · exact insA_mem.2 (.inr h)
/-- Accept where nothing is wrong. -/
theorem accept_eq {L : List Sed} {now : Int} {c : Cas} {deaf : Bool} {draw : Int} (hv : validL L = true) (h0 : c.id ≠ 0) (hd : c.data.length ≤ 64) (ht : isTimeT now = true) (hn : 0 ≤ c.num ∧ c.num < 1073741824) (hl : (fndS c.id L 0).2 = true ∨ L.length < 8) :
    acceptF L now c deaf draw = ((accL c L).set (fndS c.id L 0).1 (accS ((accL c L).getD (fndS c.id L 0).1 default) now c deaf draw).1, (accS ((accL c L).getD (fndS c.id L 0).1 default) now c deaf draw).2, 0) := by
  unfold acceptF
  rw [if_neg (by rw [hv]; simp; omega), if_neg (by rw [ht]; simp; omega), if_neg (by rintro ⟨h1, h2⟩; rcases hl with h | h; rw [h] at h1; cases h1; omega)]
structure DfI (l : List Sed) (H : List (Int × Int)) : Prop where
  v : validL l = true
  e : ∀ x ∈ l, (1 ≤ x.id ∧ x.id ≤ 3) ∧ x.held = []
  h : ∀ p ∈ H, ((1 ≤ p.1 ∧ p.1 ≤ 3) ∧ 0 ≤ p.2 ∧ p.2 < 40) ∧ ∃ x ∈ l, x.id = p.1 ∧ p.2 < x.mn
end Go.Proofs.Ytfaibcgakcmhcaa.AX

/- Multicast, plain: Step. -/
namespace Go.Proofs.Ytfaibcgakcmhcaa.AX
set_option linter.unusedVariables false
set_option linter.unusedSimpArgs false
/-- The number behind the last message whose time has ended. -/
def lastF (now : Int) : List Hel → Int → Int
  | [], l => l
  | h :: t, l => lastF now t (if h.til ≤ now then h.num + 1 else l)
def clsS (now : Int) (s : Sed) : Sed := raiseS s (lastF now s.held s.mn)
def runH (id now draw : Int) : List Hel → Nat → List Hel × List Cas
  | [], _ => ([], [])
  | h :: t, b =>
    if h.tm.start ≤ now then
      ({ h with tm := (stepT h.tm now (IntKind.u32.wrap (draw + (b : Int)))).1 } :: (runH id now draw t (b + 1)).1,
       if (stepT h.tm now (IntKind.u32.wrap (draw + (b : Int)))).2.1 = true then ⟨id, h.num, h.data⟩ :: (runH id now draw t (b + 1)).2 else (runH id now draw t (b + 1)).2)
    else (h :: (runH id now draw t (b + 1)).1, (runH id now draw t (b + 1)).2)
def runL (now draw : Int) : List Sed → Nat → List Sed × List Cas
  | [], _ => ([], [])
  | s :: t, b => ({ s with held := (runH s.id now draw s.held b).1 } :: (runL now draw t (b + s.held.length)).1, (runH s.id now draw s.held b).2 ++ (runL now draw t (b + s.held.length)).2)
def mstepF (L : List Sed) (now draw : Int) : List Sed × List Cas × Int :=
  if validL L = false then ([], [], 1) else
  if isTimeT now = false then ([], [], 2) else
  ((runL now draw (L.map (clsS now)) 0).1, (runL now draw (L.map (clsS now)) 0).2, 0)
theorem lastF_le {now : Int} : ∀ {L : List Hel} {l b : Int}, (∀ h ∈ L, h.num < b) → l ≤ b → lastF now L l ≤ b := by
  intro L
  induction L with
  | nil => intro l b _ h; exact h
  | cons a t ih =>
    intro l b hb hl
    refine ih (fun h hh => hb h (List.mem_cons_of_mem _ hh)) ?_
    have := hb a (List.mem_cons_self ..)
    split <;> omega
theorem cls_ok {s : Sed} {now : Int} (h : SdOk s) : SdOk (clsS now s) := raise_ok h (lastF_le (fun x hx => by have := (vh_mem h.h x hx).2.2.1; omega) h.mn.2)
theorem runH_len {id now draw : Int} : ∀ {L : List Hel} {b : Nat}, (runH id now draw L b).1.length = L.length := by
  intro L
  induction L with
  | nil => intro _; rfl
  | cons a t ih =>
    intro b
    unfold runH
    split <;> simp [ih]
theorem runH_ok {id now draw mn : Int} (hn : 0 ≤ now ∧ now ≤ 1099511627776) : ∀ {L : List Hel} {b : Nat} {last : Int}, validHs mn last L = true → validHs mn last (runH id now draw L b).1 = true := by
  intro L
  induction L with
  | nil => intro _ _ _; rfl
  | cons a t ih =>
    intro b last hv
    have hv' := vh_cons.1 hv
    unfold runH
    split
    · rename_i hs
      refine vh_cons.2 ⟨hv'.1, ⟨hv'.2.1.w, hv'.2.1.b, hv'.2.1.d, step_valid hv'.2.1.t hn hs, hv'.2.1.u⟩, ih hv'.2.2⟩
    · exact vh_cons.2 ⟨hv'.1, hv'.2.1, ih hv'.2.2⟩
theorem vs_map {f : Sed → Sed} (hid : ∀ s, (f s).id = s.id) (hok : ∀ s, SdOk s → SdOk (f s)) : ∀ {L : List Sed} {last : Int}, validSs last L = true → validSs last (L.map f) = true := by
  intro L
  induction L with
  | nil => intro _ _; rfl
  | cons a t ih =>
    intro last hv
    have hv' := vs_cons.1 hv
    exact vs_cons.2 ⟨by rw [hid]; exact hv'.1, sd_of (hok a (sd_ok hv'.2.1)), by rw [hid]; exact ih hv'.2.2⟩
theorem runL_ok {now draw : Int} (hn : 0 ≤ now ∧ now ≤ 1099511627776) : ∀ {L : List Sed} {b : Nat} {last : Int}, validSs last L = true → validSs last (runL now draw L b).1 = true := by
  intro L
  induction L with
  | nil => intro _ _ _; rfl
  | cons a t ih =>
    intro b last hv
    have hv' := vs_cons.1 hv
    have ha := sd_ok hv'.2.1
    exact vs_cons.2 ⟨hv'.1, sd_of ⟨ha.mn, by show (runH _ _ _ _ _).1.length ≤ 32; rw [runH_len]; exact ha.n, runH_ok hn ha.h⟩, ih hv'.2.2⟩
theorem runL_len {now draw : Int} : ∀ {L : List Sed} {b : Nat}, (runL now draw L b).1.length = L.length := by
  intro L
  induction L with
  | nil => intro _; rfl
  | cons a t ih => intro b; show ((runL now draw t _).1.length + 1) = t.length + 1; rw [ih]
theorem mstepF_ok {L : List Sed} {now draw : Int} (h : (mstepF L now draw).2.2 = 0) : validL (mstepF L now draw).1 = true := by
  unfold mstepF at h ⊢
  split at h
  · cases h
  · rename_i h1
    rw [if_neg h1]
    split at h
    · cases h
    · rename_i h2
      rw [if_neg h2]
      have hv : validL L = true := by
        cases hh : validL L with
        | true => rfl
        | false => exact absurd hh h1
      have ht : isTimeT now = true := by
        cases hh : isTimeT now with
        | true => rfl
        | false => exact absurd hh h2
      have h8 := vl_len hv
      unfold validL
      simp only [Bool.and_eq_true, decide_eq_true_eq]
      exact ⟨by rw [runL_len, List.length_map]; exact h8, runL_ok (isTimeT_iff.1 ht) (vs_map (fun s => raise_id) (fun s => cls_ok) (vl_vs hv))⟩
end Go.Proofs.Ytfaibcgakcmhcaa.AX

/- MulticastOnce, plain. -/
namespace Go.Proofs.Ytfaibcgakcmhcaa.AX
set_option linter.unusedVariables false
set_option linter.unusedSimpArgs false
/-- The number is closed, or its message is held. -/
def hasS (s : Sed) (n : Int) : Prop := n < s.mn ∨ n ∈ s.held.map Hel.num
theorem has_raise {s : Sed} {n l : Int} (h : hasS s n) : hasS (raiseS s l) n := by
  unfold raiseS
  split
  · exact h
  · rename_i hl
    rcases h with h | h
    · exact .inl (by dsimp only; omega)
    · obtain ⟨x, hx, rfl⟩ := List.mem_map.1 h
      by_cases hlx : l ≤ x.num
      · exact .inr (List.mem_map.2 ⟨x, List.mem_filter.2 ⟨hx, decide_eq_true hlx⟩, rfl⟩)
      · exact .inl (by dsimp only; omega)
theorem map_set {L : List Hel} {i : Nat} {t : Trk} : (L.set i { L.getD i default with tm := t }).map Hel.num = L.map Hel.num := by
  apply List.ext_getElem
  · simp
  · intro k h1 h2
    rw [List.getElem_map, List.getElem_map, List.getElem_set]
    split
    · rename_i e
      subst e
      have hk : i < L.length := by simpa using h2
      rw [List.getD_eq_getElem?_getD, List.getElem?_eq_getElem hk]; rfl
    · rfl
theorem has_hear {s : Sed} {n : Int} {i : Nat} (h : hasS s n) : hasS (hearS s i) n := by
  rcases h with h | h
  · exact .inl h
  · refine .inr ?_
    unfold hearS
    dsimp only
    rw [map_set]; exact h
theorem has_add {s : Sed} {n : Int} {x : Hel} {i : Nat} (h : hasS s n ∨ n = x.num) : hasS (addSd s x i) n := by
  rcases h with (h | h) | h
  · exact .inl h
  · obtain ⟨y, hy, rfl⟩ := List.mem_map.1 h
    exact .inr (List.mem_map.2 ⟨y, insA_mem.2 (.inr hy), rfl⟩)
  · subst h
    exact .inr (List.mem_map.2 ⟨x, insA_mem.2 (.inl rfl), rfl⟩)
theorem has_acc {s : Sed} {now : Int} {c : Cas} {deaf : Bool} {draw n : Int} (h : hasS s n) : hasS (accS s now c deaf draw).1 n := by
  unfold accS
  split
  · exact h
  · split
    · exact has_hear h
    · split
      · exact has_raise (has_raise h)
      · exact has_add (.inl (has_raise h))
theorem acc_true {s : Sed} {now : Int} {c : Cas} {deaf : Bool} {draw : Int} (hs : SdOk s) (h : (accS s now c deaf draw).2 = true) : ¬ hasS s c.num ∧ hasS (accS s now c deaf draw).1 c.num := by
  unfold accS at h ⊢
  split at h
  · cases h
  · rename_i h1
    rw [if_neg h1]
    split at h
    · cases h
    · rename_i h2
      rw [if_neg h2]
      split at h
      · cases h
      · rename_i h3
        rw [if_neg h3]
        refine ⟨?_, has_add (.inr rfl)⟩
        rintro (g | g)
        · exact h1 g
        · obtain ⟨x, hx, e⟩ := List.mem_map.1 g
          have := (plc_mem (k := 0) hs.h hx).1
          rw [e] at this
          exact h2 this
def keyS (s : Sed) : Int × Int × List Int := (s.id, s.mn, s.held.map Hel.num)
theorem runH_num {id now draw : Int} : ∀ {L : List Hel} {b : Nat}, (runH id now draw L b).1.map Hel.num = L.map Hel.num := by
  intro L
  induction L with
  | nil => intro _; rfl
  | cons a t ih =>
    intro b
    unfold runH
    split
    · show _ :: _ = _; rw [ih]; rfl
    · show _ :: _ = _; rw [ih]; rfl
theorem runL_key {now draw : Int} : ∀ {L : List Sed} {b : Nat}, (runL now draw L b).1.map keyS = L.map keyS := by
  intro L
  induction L with
  | nil => intro _; rfl
  | cons a t ih =>
    intro b
    show keyS { a with held := (runH a.id now draw a.held b).1 } :: ((runL now draw t _).1.map keyS) = keyS a :: t.map keyS
    rw [ih]
    unfold keyS
    dsimp only
    rw [runH_num]
/-- What was delivered is closed or held. -/
structure OnI (l : List Sed) (G : Nat → Bool) : Prop where
  v : validL l = true
  r : ∀ x ∈ l, 1 ≤ x.id ∧ x.id ≤ 5
  g : ∀ i n : Nat, i ≤ 5 → n < 64 → G (i * 64 + n) = true → ∃ x ∈ l, x.id = (i : Int) ∧ hasS x (n : Int)
theorem on_nil : OnI [] (fun _ => false) := ⟨rfl, fun x hx => (List.not_mem_nil hx).elim, fun _ _ _ _ h => by cases h⟩
theorem on_len {l : List Sed} {G : Nat → Bool} (h : OnI l G) : l.length ≤ 5 := by
  rcases vs_lenb (b := 5) (vl_vs h.v) (fun x hx => (h.r x hx).2) with g | g
  · omega
  · rw [g]; exact Nat.zero_le _
def putG (G : Nat → Bool) (j : Nat) (b : Bool) (k : Nat) : Bool := bif Nat.beq k j then b else G k
theorem on_accept {l : List Sed} {G : Nat → Bool} {id num now draw : Int} (hI : OnI l G) (hid : 1 ≤ id ∧ id ≤ 5) (hn : 0 ≤ num ∧ num < 64) (ht : 0 ≤ now ∧ now ≤ 1099511627776) :
    ∃ l' b, acceptF l now ⟨id, num, []⟩ false draw = (l', b, 0) ∧ (b = true → G (id.toNat * 64 + num.toNat) = false) ∧ OnI l' (putG G (id.toNat * 64 + num.toNat) (G (id.toNat * 64 + num.toNat) || b)) := by
  obtain ⟨c, hc⟩ : ∃ c : Cas, (⟨id, num, []⟩ : Cas) = c := ⟨_, rfl⟩
  have c1 : c.id = id := by rw [← hc]
  have c2 : c.num = num := by rw [← hc]
  have c3 : c.data = [] := by rw [← hc]
  rw [hc]
  have hlen := on_len hI
  have hl : (fndS c.id l 0).2 = true ∨ l.length < 8 := .inr (by omega)
  have he := accept_eq (now := now) (c := c) (deaf := false) (draw := draw) hI.v (by omega) (by rw [c3]; simp) (isTimeT_iff.2 ht) (by omega) hl
  have hok := acceptF_ok (L := l) (now := now) (c := c) (deaf := false) (draw := draw) (by omega) (by rw [he])
  obtain ⟨g1, g2, g3⟩ := accL_ok (c := c) hI.v (by omega) (by omega) hl
  obtain ⟨s, es⟩ : ∃ s, (accL c l).getD (fndS c.id l 0).1 default = s := ⟨_, rfl⟩
  rw [es] at g3
  have hsm : s ∈ accL c l := by rw [← es]; exact getD_in g2
  have hS := (vl_mem g1 s hsm).2
  have hE : ∀ x ∈ accL c l, 1 ≤ x.id ∧ x.id ≤ 5 := fun x hx => by
    rcases accL_mem hx with h | h
    · exact hI.r x h
    · subst h; dsimp only; omega
  obtain ⟨s', b, ea⟩ : ∃ s' b, accS s now c false draw = (s', b) := ⟨_, _, rfl⟩
  have a1 : (accS s now c false draw).1 = s' := by rw [ea]
  have a2 : (accS s now c false draw).2 = b := by rw [ea]
  have aid : s'.id = s.id := by rw [← a1]; exact (acc_ok hS ht (by rw [c3]; exact Nat.zero_le _) (by omega)).id
  rw [es, ea] at he
  have old : ∀ i n : Nat, i ≤ 5 → n < 64 → G (i * 64 + n) = true → ∃ x ∈ accL c l, x.id = (i : Int) ∧ hasS x (n : Int) := fun i n h1 h2 h3 => by
    obtain ⟨x, hx, e1, e2⟩ := hI.g i n h1 h2 h3
    exact ⟨x, accL_mem2 hx, e1, e2⟩
  have hs' : s' ∈ (accL c l).set (fndS c.id l 0).1 s' := set_mem_at g2
  refine ⟨_, b, he, fun hb => ?_, ⟨by rw [he] at hok; exact hok, fun x hx => ?_, fun i n h1 h2 h3 => ?_⟩⟩
  · cases hG : G (id.toNat * 64 + num.toNat) with
    | false => rfl
    | true =>
      obtain ⟨x, hx, e1, e2⟩ := old id.toNat num.toNat (by omega) (by omega) hG
      have hxs : x = s := vs_uniq (vl_vs g1) hx hsm (by rw [e1, g3, c1]; omega)
      subst hxs
      have := (acc_true hS (by rw [a2]; exact hb)).1
      exact absurd (by rw [c2]; rwa [show (num.toNat : Int) = num by omega] at e2) this
  · rcases List.mem_or_eq_of_mem_set hx with h | h
    · exact hE x h
    · subst h; rw [aid]; exact hE s hsm
  · have hcase : (i = id.toNat ∧ n = num.toNat ∧ b = true) ∨ G (i * 64 + n) = true := by
      unfold putG at h3
      cases hb : Nat.beq (i * 64 + n) (id.toNat * 64 + num.toNat) with
      | false => rw [hb] at h3; exact .inr h3
      | true =>
        have e := Nat.eq_of_beq_eq_true hb
        rw [hb] at h3
        have h3 : (G (id.toNat * 64 + num.toNat) || b) = true := h3
        rw [Bool.or_eq_true] at h3
        rcases h3 with h3 | h3
        · rw [e]; exact .inr h3
        · exact .inl ⟨by omega, by omega, h3⟩
    rcases hcase with ⟨e1, e2, hb⟩ | hG
    · refine ⟨s', hs', by rw [aid, g3, c1]; omega, ?_⟩
      have := (acc_true hS (by rw [a2]; exact hb)).2
      rw [a1, c2] at this
      rwa [show (n : Int) = num by omega]
    · obtain ⟨x, hx, e1, e2⟩ := old i n h1 h2 hG
      by_cases hxs : x = s
      · subst hxs
        refine ⟨s', hs', by rw [aid]; exact e1, ?_⟩
        rw [← a1]; exact has_acc e2
      · exact ⟨x, set_mem_ne hx (fun h => hxs (by rw [h, es])), e1, e2⟩
theorem mstep_eq {L : List Sed} {now draw : Int} (hv : validL L = true) (ht : isTimeT now = true) : mstepF L now draw = ((runL now draw (L.map (clsS now)) 0).1, (runL now draw (L.map (clsS now)) 0).2, 0) := by
  unfold mstepF
  rw [if_neg (by rw [hv]; simp), if_neg (by rw [ht]; simp)]
theorem on_step {l : List Sed} {G : Nat → Bool} {now draw : Int} (hI : OnI l G) (ht : 0 ≤ now ∧ now ≤ 1099511627776) : ∃ l' Z, mstepF l now draw = (l', Z, 0) ∧ OnI l' G := by
  have he := mstep_eq (draw := draw) hI.v (isTimeT_iff.2 ht)
  have hok := mstepF_ok (L := l) (now := now) (draw := draw) (by rw [he])
  rw [he] at hok
  have hk := runL_key (now := now) (draw := draw) (L := l.map (clsS now)) (b := 0)
  refine ⟨_, _, he, ⟨hok, fun x hx => ?_, fun i n h1 h2 h3 => ?_⟩⟩
  · have : keyS x ∈ (runL now draw (l.map (clsS now)) 0).1.map keyS := List.mem_map.2 ⟨x, hx, rfl⟩
    rw [hk] at this
    obtain ⟨y, hy, e⟩ := List.mem_map.1 this
    obtain ⟨z, hz, rfl⟩ := List.mem_map.1 hy
    have e1 : (clsS now z).id = x.id := congrArg Prod.fst e
    have e2 : (clsS now z).id = z.id := raise_id
    rw [← e1, e2]; exact hI.r z hz
  · obtain ⟨z, hz, e1, e2⟩ := hI.g i n h1 h2 h3
    have hm : keyS (clsS now z) ∈ (runL now draw (l.map (clsS now)) 0).1.map keyS := by
      rw [hk]; exact List.mem_map.2 ⟨_, List.mem_map.2 ⟨z, hz, rfl⟩, rfl⟩
    obtain ⟨y, hy, e⟩ := List.mem_map.1 hm
    have k1 : y.id = (clsS now z).id := congrArg Prod.fst e
    have k2 : y.mn = (clsS now z).mn := congrArg (fun p => p.2.1) e
    have k3 : y.held.map Hel.num = (clsS now z).held.map Hel.num := congrArg (fun p => p.2.2) e
    refine ⟨y, hy, by rw [k1]; exact raise_id.trans e1, ?_⟩
    have : hasS (clsS now z) (n : Int) := has_raise e2
    unfold hasS at this ⊢
    rw [k2, k3]; exact this
end Go.Proofs.Ytfaibcgakcmhcaa.AX

/- Package multicast by AX2: clone; the messages of each sender (at most eight) stay the caller's own, in blocks of their own. -/
namespace Go.Proofs.Ytfaibcgakcmhcaa.AX
open Go.RowKit
set_option linter.unusedVariables false
set_option linter.unusedSimpArgs false
/-- The rows of the outer block: the messages of the i-th sender lie in the block d + i. -/
def rowP (d : Nat) (L : List Sed) (i j : Nat) : CV := bif Nat.beq j 2 then .os (d + i) 0 (L.getD i default).held.length else sedC (L.getD i default) j
def entP (d : Nat) (n : Nat) (L : List Sed) : Ent := ⟨78, n, 3, false, rowP d L⟩
def hldP (L : List Sed) (i k : Nat) : List Hel := bif Nat.blt k i then (L.getD k default).held else []
abbrev entH (l : List Hel) : Ent := entN neH 85 l
theorem hldP_n {L : List Sed} {k : Nat} : hldP L L.length k = (L.getD k default).held := by
  unfold hldP
  cases hb : Nat.blt k L.length with
  | true => rfl
  | false =>
    have : ¬ k < L.length := fun h => by
      have h1 : Nat.blt k L.length = true := Nat.ble_eq_true_of_le h
      rw [h1] at hb; cases hb
    rw [List.getD_eq_getElem?_getD, List.getElem?_eq_none (by omega)]; rfl
/-- The blocks of the eight places, from the name b on. -/
def hepP (b : Nat) (L : List Sed) : List (Nat × Option Ent) := [(b + 0, some (entH (L.getD 0 default).held)), (b + 1, some (entH (L.getD 1 default).held)), (b + 2, some (entH (L.getD 2 default).held)), (b + 3, some (entH (L.getD 3 default).held)), (b + 4, some (entH (L.getD 4 default).held)), (b + 5, some (entH (L.getD 5 default).held)), (b + 6, some (entH (L.getD 6 default).held)), (b + 7, some (entH (L.getD 7 default).held))]
theorem rowP_le {c : Wc} {d d' : Nat} {L : List Sed} {i j : Nat} (hj : j < 3) (h : c.src (d' + i) = some (d + i)) : LeC c (rowP d L i j) (rowP d' L i j) := by
  rcases j with _ | _ | _ | j
  · exact leC_int rfl
  · exact leC_int rfl
  · exact leC_os h rfl
  · omega
theorem sft_rowP {nm : Nat} {L : List Sed} {i j : Nat} (hj : j < 3) (hi : i < 8) : Sft 9 nm (rowP (0 + 1) L i j) (rowP (nm + 1) L i j) := by
  rcases j with _ | _ | _ | j
  · exact sft_int
  · exact sft_int
  · have h : Sft 9 nm (.os (0 + 1 + i) 0 (L.getD i default).held.length) (.os (nm + (0 + 1 + i)) 0 (L.getD i default).held.length) := sft_os (by omega)
    rw [show nm + (0 + 1 + i) = nm + 1 + i by omega] at h
    exact h
  · omega
def LMl8 : CsL := (56, some keepE) :: []
theorem LMl8_ok : AllOk Try.prog LMl8 := ⟨keepE_ok, trivial⟩
structure Cl8 (L : List Sed) : Prop where
  n : L.length ≤ 8
  k : ∀ x ∈ L, KpI x.held
theorem vl_c8 {L : List Sed} (h : validL L = true) : Cl8 L := ⟨vl_len h, (vl_cl h).k⟩
def Ents8 (d : Nat) (L : List Sed) : List Ent := entP d L.length L :: [entH (L.getD 0 default).held, entH (L.getD 1 default).held, entH (L.getD 2 default).held, entH (L.getD 3 default).held, entH (L.getD 4 default).held, entH (L.getD 5 default).held, entH (L.getD 6 default).held, entH (L.getD 7 default).held]
set_option maxHeartbeats 8000000 in
set_option maxRecDepth 20000 in
theorem clone8_ok (L : List Sed) (hL : Cl8 L) : NewsOk Try.prog 34 [(cNS neS neS_sz).enc L] (one (.os 0 0 L.length)) (Ents8 1 L) := by
  have hn := hL.n
  refine news_intro (wd := 1) (Q := mkQ LMl8) (by decide) tysOk (q_of LMl8_ok) mixed Try.func34 rfl _ (by show 1 ≤ _; decide) ?_
  have w0 : IntKind.i64.wrap ((L.length : Int) + 1) = ((L.length + 1 : Nat) : Int) := (IntWalk.i64_in _ (by omega)).trans (by omega)
  repeat' (first | (simp only [w0]) | (apply And.intro <;> intro hc <;> (first | exact Bool.noConfusion hc | (exfalso; first | exact absurd rfl hc | omega) | (simp only [decide_eq_true_eq, decide_eq_false_iff_not, Bool.not_eq_true', Bool.not_eq_false', beq_iff_eq, beq_eq_false_iff_ne, bne_iff_ne, bne_eq_false_iff_eq, Bool.true_eq_false, Bool.false_eq_true, ne_eq, not_true_eq_false] at hc <;> first | exact absurd rfl hc | (exfalso; first | exact absurd rfl hc | omega) | skip) | skip)) | (refine And.intro (by first | exact trivial | decide | omega | (dsimp only; omega) | exact fun _ _ => rfl | exact ⟨by assumption, by first | exact trivial | decide | omega | (dsimp only; omega)⟩) ?_) | (apply And.intro) | (intro s hs; skip) | (refine Exists.intro _ (And.intro ⟨rfl, rfl, rfl⟩ ?_)))
  conv => whnf
  refine loop_intro (mono_of LMl8_ok) (fun s : {i : Nat // i ≤ L.length} => (⟨[(3, one (.os 50 0 s.1)), (10, one (slBN neS L)), (11, one (.int .i64 (L.length : Int))), (12, one (.int .i64 (s.1 : Int)))], [(50, some (entP 51 s.1 L)), (51, some (entH (hldP L s.1 0))), (52, some (entH (hldP L s.1 1))), (53, some (entH (hldP L s.1 2))), (54, some (entH (hldP L s.1 3))), (55, some (entH (hldP L s.1 4))), (56, some (entH (hldP L s.1 5))), (57, some (entH (hldP L s.1 6))), (58, some (entH (hldP L s.1 7)))], 59⟩ : Hd)) (fun s => L.length - s.1) (fun _ => rfl) ?_ ⟨0, Nat.zero_le _⟩ [(50, some 4), (51, none), (52, none), (53, none), (54, none), (55, none), (56, none), (57, none), (58, none)] ⟨rfl, ⟨leF_c (leC_os rfl rfl), leF_c (leC_cl (cl_slBN L)), leF_int rfl, leF_int rfl, trivial⟩, ⟨rfl, ⟨rfl, rfl, rfl, rfl, fun i hi => absurd hi (Nat.not_lt_zero i)⟩⟩, ⟨rfl, rfl, rfl, Nat.le_of_ble_eq_true rfl⟩, ⟨rfl, rfl, rfl, Nat.le_of_ble_eq_true rfl⟩, ⟨rfl, rfl, rfl, Nat.le_of_ble_eq_true rfl⟩, ⟨rfl, rfl, rfl, Nat.le_of_ble_eq_true rfl⟩, ⟨rfl, rfl, rfl, Nat.le_of_ble_eq_true rfl⟩, ⟨rfl, rfl, rfl, Nat.le_of_ble_eq_true rfl⟩, ⟨rfl, rfl, rfl, Nat.le_of_ble_eq_true rfl⟩, ⟨rfl, rfl, rfl, Nat.le_of_ble_eq_true rfl⟩, trivial⟩
  rintro ⟨i, hi⟩
  dsimp only at hi ⊢
  unfold slBN
  by_cases hil : i < L.length
  · have w3 : IntKind.i64.wrap ((i : Int) + 1) = ((i + 1 : Nat) : Int) := (IntWalk.i64_in _ (by omega)).trans (by omega)
    have hk := hL.k _ (getD_mem hil)
    rcases (show i = 0 ∨ i = 1 ∨ i = 2 ∨ i = 3 ∨ i = 4 ∨ i = 5 ∨ i = 6 ∨ i = 7 by omega) with rfl | rfl | rfl | rfl | rfl | rfl | rfl | rfl
    · repeat' (first | (apply And.intro <;> intro hc <;> (first | exact Bool.noConfusion hc | (exfalso; first | exact absurd rfl hc | omega) | (simp only [decide_eq_true_eq, decide_eq_false_iff_not, Bool.not_eq_true', Bool.not_eq_false', beq_iff_eq, beq_eq_false_iff_ne, bne_iff_ne, bne_eq_false_iff_eq, Bool.true_eq_false, Bool.false_eq_true, ne_eq, not_true_eq_false] at hc <;> first | exact absurd rfl hc | (exfalso; first | exact absurd rfl hc | omega) | skip) | skip)) | (refine And.intro (by first | exact trivial | decide | omega | (dsimp only; omega) | exact fun _ _ => rfl | exact ⟨by assumption, by first | exact trivial | decide | omega | (dsimp only; omega)⟩) ?_) | (apply And.intro) | (intro s hs; (have q : s = (L.getD 0 default).held := hs.trans (by show (toN neH _ _).filter (wantB none) = _; rw [filter_all]; exact toN_row neH_rd _); clear hs; subst q)) | (refine Exists.intro _ (And.intro ⟨rfl, rfl, rfl⟩ ?_)))
      · exact fun _ _ => ⟨rfl, okD_sl _⟩
      · exact Eq.mpr (congrArg KpI (toN_row neH_rd _)) hk
      · refine ⟨⟨1, hil⟩, [(50, some 72), (51, some 66)], by dsimp only; omega, rfl, ⟨leF_c (leC_os rfl rfl), leF_c (leC_cl (cl_slBN L)), leF_int rfl, leF_int w3, trivial⟩, ⟨⟨rfl, ⟨rfl, rfl, rfl, rfl, fun p hp j hj => ?_⟩⟩, ⟨rfl, leN_entN⟩, ⟨rfl, leN_entN⟩, ⟨rfl, leN_entN⟩, ⟨rfl, leN_entN⟩, ⟨rfl, leN_entN⟩, ⟨rfl, leN_entN⟩, ⟨rfl, leN_entN⟩, ⟨rfl, leN_entN⟩, trivial⟩⟩
        have hp' : p < 1 := hp
        have hj' : j < 3 := hj
        show LeC _ (selC (Nat.blt p 0) (rowP 51 L p j) _) (rowP 51 L p j)
        by_cases hpi : p < 0
        · refine selC_in (Nat.ble_eq_true_of_le hpi) ?_
          exact absurd hpi (Nat.not_lt_zero p)
        · obtain rfl : p = 0 := by omega
          refine selC_out (blt_self _) ?_
          rcases j with _ | _ | _ | j
          · exact leC_int rfl
          · exact leC_int rfl
          · exact leC_os rfl rfl
          · omega
    · repeat' (first | (apply And.intro <;> intro hc <;> (first | exact Bool.noConfusion hc | (exfalso; first | exact absurd rfl hc | omega) | (simp only [decide_eq_true_eq, decide_eq_false_iff_not, Bool.not_eq_true', Bool.not_eq_false', beq_iff_eq, beq_eq_false_iff_ne, bne_iff_ne, bne_eq_false_iff_eq, Bool.true_eq_false, Bool.false_eq_true, ne_eq, not_true_eq_false] at hc <;> first | exact absurd rfl hc | (exfalso; first | exact absurd rfl hc | omega) | skip) | skip)) | (refine And.intro (by first | exact trivial | decide | omega | (dsimp only; omega) | exact fun _ _ => rfl | exact ⟨by assumption, by first | exact trivial | decide | omega | (dsimp only; omega)⟩) ?_) | (apply And.intro) | (intro s hs; (have q : s = (L.getD 1 default).held := hs.trans (by show (toN neH _ _).filter (wantB none) = _; rw [filter_all]; exact toN_row neH_rd _); clear hs; subst q)) | (refine Exists.intro _ (And.intro ⟨rfl, rfl, rfl⟩ ?_)))
      · exact fun _ _ => ⟨rfl, okD_sl _⟩
      · exact Eq.mpr (congrArg KpI (toN_row neH_rd _)) hk
      · refine ⟨⟨2, hil⟩, [(50, some 72), (52, some 66)], by dsimp only; omega, rfl, ⟨leF_c (leC_os rfl rfl), leF_c (leC_cl (cl_slBN L)), leF_int rfl, leF_int w3, trivial⟩, ⟨⟨rfl, ⟨rfl, rfl, rfl, rfl, fun p hp j hj => ?_⟩⟩, ⟨rfl, leN_entN⟩, ⟨rfl, leN_entN⟩, ⟨rfl, leN_entN⟩, ⟨rfl, leN_entN⟩, ⟨rfl, leN_entN⟩, ⟨rfl, leN_entN⟩, ⟨rfl, leN_entN⟩, ⟨rfl, leN_entN⟩, trivial⟩⟩
        have hp' : p < 2 := hp
        have hj' : j < 3 := hj
        show LeC _ (selC (Nat.blt p 1) (rowP 51 L p j) _) (rowP 51 L p j)
        by_cases hpi : p < 1
        · refine selC_in (Nat.ble_eq_true_of_le hpi) ?_
          rcases (show p = 0 by omega) with rfl <;> exact rowP_le hj' rfl
        · obtain rfl : p = 1 := by omega
          refine selC_out (blt_self _) ?_
          rcases j with _ | _ | _ | j
          · exact leC_int rfl
          · exact leC_int rfl
          · exact leC_os rfl rfl
          · omega
    · repeat' (first | (apply And.intro <;> intro hc <;> (first | exact Bool.noConfusion hc | (exfalso; first | exact absurd rfl hc | omega) | (simp only [decide_eq_true_eq, decide_eq_false_iff_not, Bool.not_eq_true', Bool.not_eq_false', beq_iff_eq, beq_eq_false_iff_ne, bne_iff_ne, bne_eq_false_iff_eq, Bool.true_eq_false, Bool.false_eq_true, ne_eq, not_true_eq_false] at hc <;> first | exact absurd rfl hc | (exfalso; first | exact absurd rfl hc | omega) | skip) | skip)) | (refine And.intro (by first | exact trivial | decide | omega | (dsimp only; omega) | exact fun _ _ => rfl | exact ⟨by assumption, by first | exact trivial | decide | omega | (dsimp only; omega)⟩) ?_) | (apply And.intro) | (intro s hs; (have q : s = (L.getD 2 default).held := hs.trans (by show (toN neH _ _).filter (wantB none) = _; rw [filter_all]; exact toN_row neH_rd _); clear hs; subst q)) | (refine Exists.intro _ (And.intro ⟨rfl, rfl, rfl⟩ ?_)))
      · exact fun _ _ => ⟨rfl, okD_sl _⟩
      · exact Eq.mpr (congrArg KpI (toN_row neH_rd _)) hk
      · refine ⟨⟨3, hil⟩, [(50, some 72), (53, some 66)], by dsimp only; omega, rfl, ⟨leF_c (leC_os rfl rfl), leF_c (leC_cl (cl_slBN L)), leF_int rfl, leF_int w3, trivial⟩, ⟨⟨rfl, ⟨rfl, rfl, rfl, rfl, fun p hp j hj => ?_⟩⟩, ⟨rfl, leN_entN⟩, ⟨rfl, leN_entN⟩, ⟨rfl, leN_entN⟩, ⟨rfl, leN_entN⟩, ⟨rfl, leN_entN⟩, ⟨rfl, leN_entN⟩, ⟨rfl, leN_entN⟩, ⟨rfl, leN_entN⟩, trivial⟩⟩
        have hp' : p < 3 := hp
        have hj' : j < 3 := hj
        show LeC _ (selC (Nat.blt p 2) (rowP 51 L p j) _) (rowP 51 L p j)
        by_cases hpi : p < 2
        · refine selC_in (Nat.ble_eq_true_of_le hpi) ?_
          rcases (show p = 0 ∨ p = 1 by omega) with rfl | rfl <;> exact rowP_le hj' rfl
        · obtain rfl : p = 2 := by omega
          refine selC_out (blt_self _) ?_
          rcases j with _ | _ | _ | j
          · exact leC_int rfl
          · exact leC_int rfl
          · exact leC_os rfl rfl
          · omega
    · repeat' (first | (apply And.intro <;> intro hc <;> (first | exact Bool.noConfusion hc | (exfalso; first | exact absurd rfl hc | omega) | (simp only [decide_eq_true_eq, decide_eq_false_iff_not, Bool.not_eq_true', Bool.not_eq_false', beq_iff_eq, beq_eq_false_iff_ne, bne_iff_ne, bne_eq_false_iff_eq, Bool.true_eq_false, Bool.false_eq_true, ne_eq, not_true_eq_false] at hc <;> first | exact absurd rfl hc | (exfalso; first | exact absurd rfl hc | omega) | skip) | skip)) | (refine And.intro (by first | exact trivial | decide | omega | (dsimp only; omega) | exact fun _ _ => rfl | exact ⟨by assumption, by first | exact trivial | decide | omega | (dsimp only; omega)⟩) ?_) | (apply And.intro) | (intro s hs; (have q : s = (L.getD 3 default).held := hs.trans (by show (toN neH _ _).filter (wantB none) = _; rw [filter_all]; exact toN_row neH_rd _); clear hs; subst q)) | (refine Exists.intro _ (And.intro ⟨rfl, rfl, rfl⟩ ?_)))
      · exact fun _ _ => ⟨rfl, okD_sl _⟩
      · exact Eq.mpr (congrArg KpI (toN_row neH_rd _)) hk
      · refine ⟨⟨4, hil⟩, [(50, some 72), (54, some 66)], by dsimp only; omega, rfl, ⟨leF_c (leC_os rfl rfl), leF_c (leC_cl (cl_slBN L)), leF_int rfl, leF_int w3, trivial⟩, ⟨⟨rfl, ⟨rfl, rfl, rfl, rfl, fun p hp j hj => ?_⟩⟩, ⟨rfl, leN_entN⟩, ⟨rfl, leN_entN⟩, ⟨rfl, leN_entN⟩, ⟨rfl, leN_entN⟩, ⟨rfl, leN_entN⟩, ⟨rfl, leN_entN⟩, ⟨rfl, leN_entN⟩, ⟨rfl, leN_entN⟩, trivial⟩⟩
        have hp' : p < 4 := hp
        have hj' : j < 3 := hj
        show LeC _ (selC (Nat.blt p 3) (rowP 51 L p j) _) (rowP 51 L p j)
        by_cases hpi : p < 3
        · refine selC_in (Nat.ble_eq_true_of_le hpi) ?_
          rcases (show p = 0 ∨ p = 1 ∨ p = 2 by omega) with rfl | rfl | rfl <;> exact rowP_le hj' rfl
        · obtain rfl : p = 3 := by omega
          refine selC_out (blt_self _) ?_
          rcases j with _ | _ | _ | j
          · exact leC_int rfl
          · exact leC_int rfl
          · exact leC_os rfl rfl
          · omega
    · repeat' (first | (apply And.intro <;> intro hc <;> (first | exact Bool.noConfusion hc | (exfalso; first | exact absurd rfl hc | omega) | (simp only [decide_eq_true_eq, decide_eq_false_iff_not, Bool.not_eq_true', Bool.not_eq_false', beq_iff_eq, beq_eq_false_iff_ne, bne_iff_ne, bne_eq_false_iff_eq, Bool.true_eq_false, Bool.false_eq_true, ne_eq, not_true_eq_false] at hc <;> first | exact absurd rfl hc | (exfalso; first | exact absurd rfl hc | omega) | skip) | skip)) | (refine And.intro (by first | exact trivial | decide | omega | (dsimp only; omega) | exact fun _ _ => rfl | exact ⟨by assumption, by first | exact trivial | decide | omega | (dsimp only; omega)⟩) ?_) | (apply And.intro) | (intro s hs; (have q : s = (L.getD 4 default).held := hs.trans (by show (toN neH _ _).filter (wantB none) = _; rw [filter_all]; exact toN_row neH_rd _); clear hs; subst q)) | (refine Exists.intro _ (And.intro ⟨rfl, rfl, rfl⟩ ?_)))
      · exact fun _ _ => ⟨rfl, okD_sl _⟩
      · exact Eq.mpr (congrArg KpI (toN_row neH_rd _)) hk
      · refine ⟨⟨5, hil⟩, [(50, some 72), (55, some 66)], by dsimp only; omega, rfl, ⟨leF_c (leC_os rfl rfl), leF_c (leC_cl (cl_slBN L)), leF_int rfl, leF_int w3, trivial⟩, ⟨⟨rfl, ⟨rfl, rfl, rfl, rfl, fun p hp j hj => ?_⟩⟩, ⟨rfl, leN_entN⟩, ⟨rfl, leN_entN⟩, ⟨rfl, leN_entN⟩, ⟨rfl, leN_entN⟩, ⟨rfl, leN_entN⟩, ⟨rfl, leN_entN⟩, ⟨rfl, leN_entN⟩, ⟨rfl, leN_entN⟩, trivial⟩⟩
        have hp' : p < 5 := hp
        have hj' : j < 3 := hj
        show LeC _ (selC (Nat.blt p 4) (rowP 51 L p j) _) (rowP 51 L p j)
        by_cases hpi : p < 4
        · refine selC_in (Nat.ble_eq_true_of_le hpi) ?_
          rcases (show p = 0 ∨ p = 1 ∨ p = 2 ∨ p = 3 by omega) with rfl | rfl | rfl | rfl <;> exact rowP_le hj' rfl
        · obtain rfl : p = 4 := by omega
          refine selC_out (blt_self _) ?_
          rcases j with _ | _ | _ | j
          · exact leC_int rfl
          · exact leC_int rfl
          · exact leC_os rfl rfl
          · omega
    · repeat' (first | (apply And.intro <;> intro hc <;> (first | exact Bool.noConfusion hc | (exfalso; first | exact absurd rfl hc | omega) | (simp only [decide_eq_true_eq, decide_eq_false_iff_not, Bool.not_eq_true', Bool.not_eq_false', beq_iff_eq, beq_eq_false_iff_ne, bne_iff_ne, bne_eq_false_iff_eq, Bool.true_eq_false, Bool.false_eq_true, ne_eq, not_true_eq_false] at hc <;> first | exact absurd rfl hc | (exfalso; first | exact absurd rfl hc | omega) | skip) | skip)) | (refine And.intro (by first | exact trivial | decide | omega | (dsimp only; omega) | exact fun _ _ => rfl | exact ⟨by assumption, by first | exact trivial | decide | omega | (dsimp only; omega)⟩) ?_) | (apply And.intro) | (intro s hs; (have q : s = (L.getD 5 default).held := hs.trans (by show (toN neH _ _).filter (wantB none) = _; rw [filter_all]; exact toN_row neH_rd _); clear hs; subst q)) | (refine Exists.intro _ (And.intro ⟨rfl, rfl, rfl⟩ ?_)))
      · exact fun _ _ => ⟨rfl, okD_sl _⟩
      · exact Eq.mpr (congrArg KpI (toN_row neH_rd _)) hk
      · refine ⟨⟨6, hil⟩, [(50, some 72), (56, some 66)], by dsimp only; omega, rfl, ⟨leF_c (leC_os rfl rfl), leF_c (leC_cl (cl_slBN L)), leF_int rfl, leF_int w3, trivial⟩, ⟨⟨rfl, ⟨rfl, rfl, rfl, rfl, fun p hp j hj => ?_⟩⟩, ⟨rfl, leN_entN⟩, ⟨rfl, leN_entN⟩, ⟨rfl, leN_entN⟩, ⟨rfl, leN_entN⟩, ⟨rfl, leN_entN⟩, ⟨rfl, leN_entN⟩, ⟨rfl, leN_entN⟩, ⟨rfl, leN_entN⟩, trivial⟩⟩
        have hp' : p < 6 := hp
        have hj' : j < 3 := hj
        show LeC _ (selC (Nat.blt p 5) (rowP 51 L p j) _) (rowP 51 L p j)
        by_cases hpi : p < 5
        · refine selC_in (Nat.ble_eq_true_of_le hpi) ?_
          rcases (show p = 0 ∨ p = 1 ∨ p = 2 ∨ p = 3 ∨ p = 4 by omega) with rfl | rfl | rfl | rfl | rfl <;> exact rowP_le hj' rfl
        · obtain rfl : p = 5 := by omega
          refine selC_out (blt_self _) ?_
          rcases j with _ | _ | _ | j
          · exact leC_int rfl
          · exact leC_int rfl
          · exact leC_os rfl rfl
          · omega
    · repeat' (first | (apply And.intro <;> intro hc <;> (first | exact Bool.noConfusion hc | (exfalso; first | exact absurd rfl hc | omega) | (simp only [decide_eq_true_eq, decide_eq_false_iff_not, Bool.not_eq_true', Bool.not_eq_false', beq_iff_eq, beq_eq_false_iff_ne, bne_iff_ne, bne_eq_false_iff_eq, Bool.true_eq_false, Bool.false_eq_true, ne_eq, not_true_eq_false] at hc <;> first | exact absurd rfl hc | (exfalso; first | exact absurd rfl hc | omega) | skip) | skip)) | (refine And.intro (by first | exact trivial | decide | omega | (dsimp only; omega) | exact fun _ _ => rfl | exact ⟨by assumption, by first | exact trivial | decide | omega | (dsimp only; omega)⟩) ?_) | (apply And.intro) | (intro s hs; (have q : s = (L.getD 6 default).held := hs.trans (by show (toN neH _ _).filter (wantB none) = _; rw [filter_all]; exact toN_row neH_rd _); clear hs; subst q)) | (refine Exists.intro _ (And.intro ⟨rfl, rfl, rfl⟩ ?_)))
      · exact fun _ _ => ⟨rfl, okD_sl _⟩
      · exact Eq.mpr (congrArg KpI (toN_row neH_rd _)) hk
      · refine ⟨⟨7, hil⟩, [(50, some 72), (57, some 66)], by dsimp only; omega, rfl, ⟨leF_c (leC_os rfl rfl), leF_c (leC_cl (cl_slBN L)), leF_int rfl, leF_int w3, trivial⟩, ⟨⟨rfl, ⟨rfl, rfl, rfl, rfl, fun p hp j hj => ?_⟩⟩, ⟨rfl, leN_entN⟩, ⟨rfl, leN_entN⟩, ⟨rfl, leN_entN⟩, ⟨rfl, leN_entN⟩, ⟨rfl, leN_entN⟩, ⟨rfl, leN_entN⟩, ⟨rfl, leN_entN⟩, ⟨rfl, leN_entN⟩, trivial⟩⟩
        have hp' : p < 7 := hp
        have hj' : j < 3 := hj
        show LeC _ (selC (Nat.blt p 6) (rowP 51 L p j) _) (rowP 51 L p j)
        by_cases hpi : p < 6
        · refine selC_in (Nat.ble_eq_true_of_le hpi) ?_
          rcases (show p = 0 ∨ p = 1 ∨ p = 2 ∨ p = 3 ∨ p = 4 ∨ p = 5 by omega) with rfl | rfl | rfl | rfl | rfl | rfl <;> exact rowP_le hj' rfl
        · obtain rfl : p = 6 := by omega
          refine selC_out (blt_self _) ?_
          rcases j with _ | _ | _ | j
          · exact leC_int rfl
          · exact leC_int rfl
          · exact leC_os rfl rfl
          · omega
    · repeat' (first | (apply And.intro <;> intro hc <;> (first | exact Bool.noConfusion hc | (exfalso; first | exact absurd rfl hc | omega) | (simp only [decide_eq_true_eq, decide_eq_false_iff_not, Bool.not_eq_true', Bool.not_eq_false', beq_iff_eq, beq_eq_false_iff_ne, bne_iff_ne, bne_eq_false_iff_eq, Bool.true_eq_false, Bool.false_eq_true, ne_eq, not_true_eq_false] at hc <;> first | exact absurd rfl hc | (exfalso; first | exact absurd rfl hc | omega) | skip) | skip)) | (refine And.intro (by first | exact trivial | decide | omega | (dsimp only; omega) | exact fun _ _ => rfl | exact ⟨by assumption, by first | exact trivial | decide | omega | (dsimp only; omega)⟩) ?_) | (apply And.intro) | (intro s hs; (have q : s = (L.getD 7 default).held := hs.trans (by show (toN neH _ _).filter (wantB none) = _; rw [filter_all]; exact toN_row neH_rd _); clear hs; subst q)) | (refine Exists.intro _ (And.intro ⟨rfl, rfl, rfl⟩ ?_)))
      · exact fun _ _ => ⟨rfl, okD_sl _⟩
      · exact Eq.mpr (congrArg KpI (toN_row neH_rd _)) hk
      · refine ⟨⟨8, hil⟩, [(50, some 72), (58, some 66)], by dsimp only; omega, rfl, ⟨leF_c (leC_os rfl rfl), leF_c (leC_cl (cl_slBN L)), leF_int rfl, leF_int w3, trivial⟩, ⟨⟨rfl, ⟨rfl, rfl, rfl, rfl, fun p hp j hj => ?_⟩⟩, ⟨rfl, leN_entN⟩, ⟨rfl, leN_entN⟩, ⟨rfl, leN_entN⟩, ⟨rfl, leN_entN⟩, ⟨rfl, leN_entN⟩, ⟨rfl, leN_entN⟩, ⟨rfl, leN_entN⟩, ⟨rfl, leN_entN⟩, trivial⟩⟩
        have hp' : p < 8 := hp
        have hj' : j < 3 := hj
        show LeC _ (selC (Nat.blt p 7) (rowP 51 L p j) _) (rowP 51 L p j)
        by_cases hpi : p < 7
        · refine selC_in (Nat.ble_eq_true_of_le hpi) ?_
          rcases (show p = 0 ∨ p = 1 ∨ p = 2 ∨ p = 3 ∨ p = 4 ∨ p = 5 ∨ p = 6 by omega) with rfl | rfl | rfl | rfl | rfl | rfl | rfl <;> exact rowP_le hj' rfl
        · obtain rfl : p = 7 := by omega
          refine selC_out (blt_self _) ?_
          rcases j with _ | _ | _ | j
          · exact leC_int rfl
          · exact leC_int rfl
          · exact leC_os rfl rfl
          · omega
  · have hi2 : i = L.length := by omega
    subst hi2
    simp only [hldP_n]
    repeat' (first | (apply And.intro <;> intro hc <;> (first | exact Bool.noConfusion hc | (exfalso; first | exact absurd rfl hc | omega) | (simp only [decide_eq_true_eq, decide_eq_false_iff_not, Bool.not_eq_true', Bool.not_eq_false', beq_iff_eq, beq_eq_false_iff_ne, bne_iff_ne, bne_eq_false_iff_eq, Bool.true_eq_false, Bool.false_eq_true, ne_eq, not_true_eq_false] at hc <;> first | exact absurd rfl hc | (exfalso; first | exact absurd rfl hc | omega) | skip) | skip)) | (refine And.intro (by first | exact trivial | decide | omega | (dsimp only; omega) | exact fun _ _ => rfl | exact ⟨by assumption, by first | exact trivial | decide | omega | (dsimp only; omega)⟩) ?_) | (apply And.intro) | (intro s hs; skip) | (refine Exists.intro _ (And.intro ⟨rfl, rfl, rfl⟩ ?_)))
    conv => whnf
    refine ⟨⟨[(0, some 50), (1, some 51), (2, some 52), (3, some 53), (4, some 54), (5, some 55), (6, some 56), (7, some 57), (8, some 58)], rfl, leF_c (leC_os rfl rfl), ⟨rfl, ⟨rfl, rfl, rfl, rfl, fun p hp j hj => ?_⟩⟩, ⟨rfl, leN_entN⟩, ⟨rfl, leN_entN⟩, ⟨rfl, leN_entN⟩, ⟨rfl, leN_entN⟩, ⟨rfl, leN_entN⟩, ⟨rfl, leN_entN⟩, ⟨rfl, leN_entN⟩, ⟨rfl, leN_entN⟩, trivial⟩⟩
    · have hp' : p < L.length := hp
      have hj' : j < 3 := hj
      rcases (show p = 0 ∨ p = 1 ∨ p = 2 ∨ p = 3 ∨ p = 4 ∨ p = 5 ∨ p = 6 ∨ p = 7 by omega) with rfl | rfl | rfl | rfl | rfl | rfl | rfl | rfl <;> exact rowP_le hj' rfl
abbrev clone8E : Entry := newsE (AC.cons (cNS neS neS_sz) AC.nil) (fun a => Cl8 a.1) (fun a => a.1) 9 (fun nm L => one (.os nm 0 L.length)) (fun nm L => Ents8 (nm + 1) L)
theorem clone8E_ok : EntOk Try.prog 34 clone8E := newsE_ok ⟨_, Try.func34, rfl, by kernel_rfl⟩ (fun _ _ => rfl) (fun nm s => sftF_c (by have h : Sft 9 nm (.os 0 0 s.length) (.os (nm + 0) 0 s.length) := sft_os (by decide); exact h)) (fun nm a ha k e e' h h' => by
  iterate 9 (rcases k with _ | k; · (injection h with h; injection h' with h'; subst h h'; first | exact ⟨rfl, rfl, rfl, rfl, fun i hi j hj => sft_sh (neH.sh _ j hj)⟩ | exact ⟨rfl, rfl, rfl, rfl, fun i hi j hj => sft_rowP hj (Nat.lt_of_lt_of_le hi ha.n)⟩))
  cases h) fun a h => clone8_ok a.1 h
end Go.Proofs.Ytfaibcgakcmhcaa.AX

/- Package multicast by AX2: Step, up to the closing. -/
namespace Go.Proofs.Ytfaibcgakcmhcaa.AX
open Go.RowKit
set_option linter.unusedVariables false
set_option linter.unusedSimpArgs false
def LMs : CsL := (31, some mvalidE) :: (32, some timeE) :: (34, some clone8E) :: (37, some raiseE) :: LTk
theorem LMs_ok : AllOk Try.prog LMs := ⟨pureE_ok ⟨_, Try.func31, rfl, by kernel_rfl⟩ fun a h => mvalid_ok a.1 h, pureE_ok ⟨_, Try.func32, rfl, by kernel_rfl⟩ fun a _ => mcTime_ok a.1, clone8E_ok, raiseE_ok, LTk_ok⟩
/-- The senders are M, each with its messages in a block of its own. -/
def S8 (now draw : Int) (M : List Sed) : Hd := ⟨[(1, one (.int .i64 now)), (2, one (.int .u32 draw)), (9, one (.os 1 0 M.length))], (1, some (entP 2 M.length M)) :: hepP 2 M, 10⟩
structure SlI (L : List Sed) (now : Int) where
  i : Nat
  M : List Sed
  n : M.length = L.length
  hi : i ≤ L.length
  h1 : ∀ p, p < i → M.getD p default = clsS now (L.getD p default)
  h2 : ∀ p, i ≤ p → M.getD p default = L.getD p default
/-- The body of the first loop. -/
def loopIn : Code → Code
  | .loop c => c
  | .block _ c => loopIn c
  | .seq a b => match loopIn a with
    | .skip => loopIn b
    | c => c
  | _ => .skip
theorem leN_eqN {c : Wc} {t : TypeId} {l l' : List Hel} (h : l = l') : LeN c (entN neH t l) (entN neH t l') := by subst h; exact leN_entN
theorem leN_entP {c : Wc} {d : Nat} {M : List Sed} {n : Nat} (hn : n ≤ 8) (h : ∀ p, p < 8 → c.src (d + p) = some (d + p)) : LeN c (entP d n M) (entP d n M) := ⟨rfl, rfl, rfl, rfl, fun p hp j hj => rowP_le hj (h p (Nat.lt_of_lt_of_le hp hn))⟩
theorem lt8 {P : Nat → Prop} (h0 : P 0) (h1 : P 1) (h2 : P 2) (h3 : P 3) (h4 : P 4) (h5 : P 5) (h6 : P 6) (h7 : P 7) : ∀ p, p < 8 → P p := fun p hp => by
  rcases (show p = 0 ∨ p = 1 ∨ p = 2 ∨ p = 3 ∨ p = 4 ∨ p = 5 ∨ p = 6 ∨ p = 7 by omega) with rfl | rfl | rfl | rfl | rfl | rfl | rfl | rfl <;> assumption
theorem set_self {L : List Sed} {i : Nat} (h : i < L.length) : L.set i (L.getD i default) = L := by
  apply List.ext_getElem
  · rw [List.length_set]
  · intro k h1 h2
    rw [List.getElem_set]
    split
    · rename_i e
      subst e
      rw [List.getD_eq_getElem?_getD, List.getElem?_eq_getElem h]; rfl
    · rfl
theorem rowP_set_ne {c : Wc} {d p i j : Nat} {M : List Sed} {x : Sed} {y : CV} (hj : j < 3) (hp : p ≠ i) (hy : y = rowP d M p j) (hs : c.src (d + p) = some (d + p)) : LeC c y (rowP d (M.set i x) p j) := by
  subst hy
  have e : rowP d (M.set i x) p j = rowP d M p j := by unfold rowP; rw [set_ne hp]
  rw [e]
  exact rowP_le hj hs
theorem rowP_set_at {c : Wc} {d i j : Nat} {M : List Sed} {x : Sed} {y : CV} (hi : i < M.length) (h : LeC c y (bif Nat.beq j 2 then .os (d + i) 0 x.held.length else sedC x j)) : LeC c y (rowP d (M.set i x) i j) := by
  have e : rowP d (M.set i x) i j = bif Nat.beq j 2 then .os (d + i) 0 x.held.length else sedC x j := by unfold rowP; rw [set_at hi]
  rw [e]; exact h
/-- The state of the loop that closes. -/
def S1 (L : List Sed) (now draw : Int) (s : SlI L now) : Hd := ⟨[(1, one (.int .i64 now)), (2, one (.int .u32 draw)), (9, one (.os 1 0 s.M.length)), (31, one (.int .i64 (L.length : Int))), (32, one (.int .i64 (s.i : Int)))], (1, some (entP 2 s.M.length s.M)) :: hepP 2 s.M, 10⟩
theorem sl_step {L : List Sed} {now : Int} (s : SlI L now) (h : s.i < L.length) : ∀ p, p < s.i + 1 → (s.M.set s.i (clsS now (s.M.getD s.i default))).getD p default = clsS now (L.getD p default) := fun p hp => by
  by_cases he : p = s.i
  · subst he
    rw [set_at (by rw [s.n]; exact h), s.h2 _ (Nat.le_refl _)]
  · rw [set_ne he]
    exact s.h1 p (by omega)
def SlI.next {L : List Sed} {now : Int} (s : SlI L now) (h : s.i < L.length) (M' : List Sed) (hM : s.M.set s.i (clsS now (s.M.getD s.i default)) = M') : SlI L now := ⟨s.i + 1, M', by rw [← hM, List.length_set]; exact s.n, h, by rw [← hM]; exact sl_step s h, fun p hp => by rw [← hM, set_ne (by omega)]; exact s.h2 p (by omega)⟩
theorem sl_end {L : List Sed} {now : Int} (s : SlI L now) (h : ¬ s.i < L.length) : s.M = L.map (clsS now) := by
  apply List.ext_getElem
  · rw [List.length_map]; exact s.n
  · intro k h1 h2
    have hk : k < L.length := by rw [← s.n]; exact h1
    have e := s.h1 k (by omega)
    rw [List.getD_eq_getElem?_getD, List.getElem?_eq_getElem h1, List.getD_eq_getElem?_getD, List.getElem?_eq_getElem hk] at e
    rw [List.getElem_map]
    exact e
end Go.Proofs.Ytfaibcgakcmhcaa.AX

