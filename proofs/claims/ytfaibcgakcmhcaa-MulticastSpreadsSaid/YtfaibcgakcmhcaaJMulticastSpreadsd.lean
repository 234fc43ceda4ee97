/- Texts of one's own in one file: Ma3, Ma4, Ma5, Mkn, Mqs, Ml8, Ms1, Ms2, Ms4, Ms5. -/
import Derived.Test.YtfaibcgakcmhcaaJMulticastSpreadsc
set_option linter.unusedVariables false
set_option linter.unusedSimpArgs false
set_option maxHeartbeats 16000000
set_option maxRecDepth 20000
namespace Go.Proofs.Ytfaibcgakcmhcaa.AX
open Go.RowKit
structure AcJ (L : List Sed) (a : Nat) (s : Sed) (now : Int) (c : Cas) (draw : Int) : Prop where
 lt : a < L.length
 n : L.length <= 9
 k : KpI s.held
 h : s.held.length <= 32
 num : 0 <= c.num /\ c.num < 1073741824
 d : c.data.length <= 64
 now : 0 <= now /\ now <= 1099511627776
 dr : drawOk draw
theorem acc3_0 (g0 : Nat) (L : List Sed) (a : Nat) (sd : Sed) (now : Int) (c : Cas) (deaf : Bool) (draw : Int) (hI : AcJ L a sd now c draw) (R : List Sed × Bool × Int) (hR : R = (L.set a (if deaf = true then raiseS sd (c.num + 1) else addSd sd (newH c now draw) (plcH c.num sd.held 0).1), !deaf, 0)) (a3 : a = 0) :
 Sem Try.prog Try.f11.ntmps 0 (dropC 11 (Try.f11.body.getD Code.ret)) (SB L a sd now c deaf draw ()).fr (SB L a sd now c deaf draw ()).H (SB L a sd now c deaf draw ()).nx (endH T Try.f11.results.toList fun x H _ => FinN (some R.1.length) (encAc R) (entN neS 78 R.1) x H) := by
 obtain ⟨ha, hn, hk, hh, hnum, hd, hnow, hdr⟩ := hI
 unfold SB
 subst a3
 have w1 : IntKind.i64.wrap (c.num + 1) = c.num + 1 := IntWalk.i64_in _ (by omega)
 have w2 : IntKind.i64.wrap (now + 20) = now + 20 := IntWalk.i64_in _ (by omega)
 cases deaf with
 | true =>
   refine sem_step (wd := 1024) (Q := mkQ (LMa g0)) (by decide) tysOk (q_of (LMa_ok g0)) mixed ?_
   repeat' (first | (simp only [w1]) | (apply And.intro <;> intro hc <;> (first | exact Bool.noConfusion hc | (exfalso; first | exact absurd rfl hc | omega) | (simp only [zb0, ne_eq, not_true_eq_false] at hc <;> first | exact absurd rfl hc | (exfalso; first | exact absurd rfl hc | omega) | skip) | skip)) | (refine And.intro zp1 ?_) | (apply And.intro) | (intro s hs; skip) | (refine Exists.intro _ (And.intro ⟨rfl, rfl, rfl⟩ ?_)))
   . exact rfl
   . conv => whnf
     refine fin_acc (s := sd) (d := 2) (hR.trans ?_) ha rfl (fun p h j => rowA_ne h) rfl rfl rfl rfl rfl rfl rfl fun q hq j hj => (neH.sh _ j hj).le
     rw [if_pos rfl, show raiseS sd (c.num + 1) = sd from if_pos hc]; rfl
   . exact ⟨rfl, okD_sl _⟩
   . exact Eq.mpr (congrArg KpI (toN_row0 neH_rd _)) hk
   . conv => whnf
     have q : sd.held.filter (wantB (some (c.num + 1))) = s := (hs.trans (by rw [toN_row0 neH_rd])).symm
     clear hs
     refine fin_acc (s := ⟨sd.id, c.num + 1, s⟩) (d := 5141) (hR.trans ?_) ha rfl (fun p h j => (updE_ne h).trans ((updE_ne h).trans (rowA_ne h))) rfl rfl rfl rfl rfl rfl rfl fun q hq j hj => (neH.sh _ j hj).le
     rw [if_pos rfl, show raiseS sd (c.num + 1) = ⟨sd.id, c.num + 1, s⟩ from (if_neg hc).trans (by rw [q])]; rfl
 | false =>
   obtain ⟨⟨i, b⟩, hP⟩ : ∃ P, plcH c.num sd.held 0 = P := ⟨_, rfl⟩
   have hle := plc_le (id := c.num) (L := sd.held) (k := 0)
   rw [hP, Nat.zero_add] at hle
   dsimp only at hle
   obtain ⟨hle1, _, _⟩ := hle
   have hR2 : R = (L.set 0 (addSd sd (newH c now draw) i), true, 0) := by rw [hR, hP]; rfl
   clear hR
   have w3 : IntKind.i64.wrap ((i : Int) + 1) = ((i + 1 : Nat) : Int) := (IntWalk.i64_in _ (by omega)).trans (by omega)
   obtain ⟨tr, hT⟩ : ∃ r, newT 2 3 2 now draw = r := ⟨_, rfl⟩
   refine sem_step (wd := 1) (Q := mkQ (LMa g0)) (by decide) tysOk (q_of (LMa_ok g0)) mixed ?_
   repeat' (first | (simp only [w2]) | (apply And.intro <;> intro hc <;> (first | exact Bool.noConfusion hc | (exfalso; first | exact absurd rfl hc | omega) | (simp only [zb0, ne_eq, not_true_eq_false] at hc <;> first | exact absurd rfl hc | (exfalso; first | exact absurd rfl hc | omega) | skip) | skip)) | (refine And.intro zp1 ?_) | (apply And.intro) | (intro s hs; skip) | (refine Exists.intro _ (And.intro ⟨rfl, rfl, rfl⟩ ?_)))
   refine sem_step (wd := 1) (Q := mkQ (LMa g0)) (by decide) tysOk (q_of (LMa_ok g0)) mixed ?_
   repeat' (first | (simp only [w2]) | (apply And.intro <;> intro hc <;> (first | exact Bool.noConfusion hc | (exfalso; first | exact absurd rfl hc | omega) | (simp only [zb0, ne_eq, not_true_eq_false] at hc <;> first | exact absurd rfl hc | (exfalso; first | exact absurd rfl hc | omega) | skip) | skip)) | (refine And.intro zp1 ?_) | (apply And.intro) | (intro s hs; (have q : tr = s := hT.symm.trans hs.symm; clear hs; subst q)) | (refine Exists.intro _ (And.intro ⟨rfl, rfl, rfl⟩ ?_)))
   refine sem_step (wd := 1) (Q := mkQ (LMa g0)) (by decide) tysOk (q_of (LMa_ok g0)) mixed ?_
   repeat' (first | (simp only [w2]) | (apply And.intro <;> intro hc <;> (first | exact Bool.noConfusion hc | (exfalso; first | exact absurd rfl hc | omega) | (simp only [zb0, ne_eq, not_true_eq_false] at hc <;> first | exact absurd rfl hc | (exfalso; first | exact absurd rfl hc | omega) | skip) | skip)) | (refine And.intro zp1 ?_) | (apply And.intro) | (intro s hs; skip) | (refine Exists.intro _ (And.intro ⟨rfl, rfl, rfl⟩ ?_)))
   refine sem_step (wd := 1) (Q := mkQ (LMa g0)) (by decide) tysOk (q_of (LMa_ok g0)) mixed ?_
   repeat' (first | (simp only [w2, w3]) | (apply And.intro <;> intro hc <;> (first | exact Bool.noConfusion hc | (exfalso; first | exact absurd rfl hc | omega) | (simp only [zb0, ne_eq, not_true_eq_false] at hc <;> first | exact absurd rfl hc | (exfalso; first | exact absurd rfl hc | omega) | skip) | skip)) | (refine And.intro zp1 ?_) | (apply And.intro) | (intro s hs; (have q := rd_plc hs (toN_row0 neH_rd _) hP; clear hs; subst q)) | (refine Exists.intro _ (And.intro ⟨rfl, rfl, rfl⟩ ?_)))
   . exact fun _ _ => ⟨rfl, okD_sl _⟩
   . exact Eq.mpr (congrArg (fun z : List Hel => z.length <= 9223372036854775807) (toN_row0 neH_rd _)) (by omega)
   refine sem_step (wd := 1) (Q := mkQ (LMa g0)) (by decide) tysOk (q_of (LMa_ok g0)) mixed ?_
   repeat' (first | (simp only [w2, w3]) | (apply And.intro <;> intro hc <;> (first | exact Bool.noConfusion hc | (exfalso; first | exact absurd rfl hc | omega) | (simp only [zb0, ne_eq, not_true_eq_false] at hc <;> first | exact absurd rfl hc | (exfalso; first | exact absurd rfl hc | omega) | skip) | skip)) | (refine And.intro zp1 ?_) | (apply And.intro) | (intro s hs; skip) | (refine Exists.intro _ (And.intro ⟨rfl, rfl, rfl⟩ ?_)))
   refine sem_step (wd := 1) (Q := mkQ (LMa g0)) (by decide) tysOk (q_of (LMa_ok g0)) mixed ?_
   repeat' (first | (simp only [w2, w3]) | (apply And.intro <;> intro hc <;> (first | exact Bool.noConfusion hc | (exfalso; first | exact absurd rfl hc | omega) | (simp only [zb0, ne_eq, not_true_eq_false] at hc <;> first | exact absurd rfl hc | (exfalso; first | exact absurd rfl hc | omega) | skip) | skip)) | (refine And.intro zp1 ?_) | (apply And.intro) | (intro s hs; skip) | (refine Exists.intro _ (And.intro ⟨rfl, rfl, rfl⟩ ?_)))
   refine sem_exec (wd := 1) (Q := mkQ (LMa g0)) (by decide) tysOk (q_of (LMa_ok g0)) mixed ?_
   repeat' (first | (simp only [w2, w3]) | (apply And.intro <;> intro hc <;> (first | exact Bool.noConfusion hc | (exfalso; first | exact absurd rfl hc | omega) | (simp only [zb0, ne_eq, not_true_eq_false] at hc <;> first | exact absurd rfl hc | (exfalso; first | exact absurd rfl hc | omega) | skip) | skip)) | (refine And.intro zp1 ?_) | (apply And.intro) | (intro s hs; skip) | (refine Exists.intro _ (And.intro ⟨rfl, rfl, rfl⟩ ?_)))
   conv => whnf
   have hAl : (addSd sd (newH c now draw) i).held.length = sd.held.length + 1 := insA_len hle1
   refine fin_acc (s := addSd sd (newH c now draw) i) (d := 44) hR2 ha rfl (fun p h j => (updE_ne h).trans (rowA_ne h)) rfl rfl (by rw [hAl]; rfl) rfl rfl hAl.symm rfl fun q hq j hj => ?_
   rw [hAl] at hq
   show LeC _ _ (rowN neH (insA i (newH c now draw) sd.held) q j)
   refine ins_cells (r := rowN neH sd.held) hle1 ?_ hq (fun h => ?_) (fun h => ?_) (fun h => ?_)
   . show min (sd.held.length + 1 - i) (sd.held.length + 1 - (i + 1)) = _
     omega
   . rw [show rowN neH (insA i (newH c now draw) sd.held) q j = rowN neH sd.held q j from congrArg (fun z => neH.cell z j) (insA_lt hle1 h)]
     exact (neH.sh _ j hj).le
   . subst h
     rw [show rowN neH (insA q (newH c now draw) sd.held) q j = neH.cell (newH c now draw) j from congrArg (fun z => neH.cell z j) (insA_eq hle1)]
     have e0 : newH c now draw = ⟨c.num, c.data, tr.1, if 1099511627776 < now + 20 then 1099511627776 else now + 20⟩ := by unfold newH; rw [hT]
     rw [e0]
     iterate 11 (rcases j with _ | j; · first | exact leC_int rfl | exact leC_bool rfl | exact leC_os_sl rfl rfl rfl (by first | rfl | exact Nat.zero_add _) (by first | exact Nat.le_refl _ | (simp; done)) fun q hq j hj => leC_cell (E := eB) (congrArg (fun z => c.data.getD z default) (Nat.zero_add q)))
     exact absurd hj (by omega)
   . rw [show rowN neH (insA i (newH c now draw) sd.held) q j = rowN neH sd.held (q - 1) j from congrArg (fun z => neH.cell z j) (insA_gt hle1 h)]
     exact (neH.sh _ j hj).le
theorem acc3_1 (g0 : Nat) (L : List Sed) (a : Nat) (sd : Sed) (now : Int) (c : Cas) (deaf : Bool) (draw : Int) (hI : AcJ L a sd now c draw) (R : List Sed × Bool × Int) (hR : R = (L.set a (if deaf = true then raiseS sd (c.num + 1) else addSd sd (newH c now draw) (plcH c.num sd.held 0).1), !deaf, 0)) (a3 : a = 1) :
 Sem Try.prog Try.f11.ntmps 0 (dropC 11 (Try.f11.body.getD Code.ret)) (SB L a sd now c deaf draw ()).fr (SB L a sd now c deaf draw ()).H (SB L a sd now c deaf draw ()).nx (endH T Try.f11.results.toList fun x H _ => FinN (some R.1.length) (encAc R) (entN neS 78 R.1) x H) := by
 obtain ⟨ha, hn, hk, hh, hnum, hd, hnow, hdr⟩ := hI
 unfold SB
 subst a3
 have w1 : IntKind.i64.wrap (c.num + 1) = c.num + 1 := IntWalk.i64_in _ (by omega)
 have w2 : IntKind.i64.wrap (now + 20) = now + 20 := IntWalk.i64_in _ (by omega)
 cases deaf with
 | true =>
   refine sem_step (wd := 1024) (Q := mkQ (LMa g0)) (by decide) tysOk (q_of (LMa_ok g0)) mixed ?_
   repeat' (first | (simp only [w1]) | (apply And.intro <;> intro hc <;> (first | exact Bool.noConfusion hc | (exfalso; first | exact absurd rfl hc | omega) | (simp only [zb0, ne_eq, not_true_eq_false] at hc <;> first | exact absurd rfl hc | (exfalso; first | exact absurd rfl hc | omega) | skip) | skip)) | (refine And.intro zp1 ?_) | (apply And.intro) | (intro s hs; skip) | (refine Exists.intro _ (And.intro ⟨rfl, rfl, rfl⟩ ?_)))
   . exact rfl
   . conv => whnf
     refine fin_acc (s := sd) (d := 2) (hR.trans ?_) ha rfl (fun p h j => rowA_ne h) rfl rfl rfl rfl rfl rfl rfl fun q hq j hj => (neH.sh _ j hj).le
     rw [if_pos rfl, show raiseS sd (c.num + 1) = sd from if_pos hc]; rfl
   . exact ⟨rfl, okD_sl _⟩
   . exact Eq.mpr (congrArg KpI (toN_row0 neH_rd _)) hk
   . conv => whnf
     have q : sd.held.filter (wantB (some (c.num + 1))) = s := (hs.trans (by rw [toN_row0 neH_rd])).symm
     clear hs
     refine fin_acc (s := ⟨sd.id, c.num + 1, s⟩) (d := 5141) (hR.trans ?_) ha rfl (fun p h j => (updE_ne h).trans ((updE_ne h).trans (rowA_ne h))) rfl rfl rfl rfl rfl rfl rfl fun q hq j hj => (neH.sh _ j hj).le
     rw [if_pos rfl, show raiseS sd (c.num + 1) = ⟨sd.id, c.num + 1, s⟩ from (if_neg hc).trans (by rw [q])]; rfl
 | false =>
   obtain ⟨⟨i, b⟩, hP⟩ : ∃ P, plcH c.num sd.held 0 = P := ⟨_, rfl⟩
   have hle := plc_le (id := c.num) (L := sd.held) (k := 0)
   rw [hP, Nat.zero_add] at hle
   dsimp only at hle
   obtain ⟨hle1, _, _⟩ := hle
   have hR2 : R = (L.set 1 (addSd sd (newH c now draw) i), true, 0) := by rw [hR, hP]; rfl
   clear hR
   have w3 : IntKind.i64.wrap ((i : Int) + 1) = ((i + 1 : Nat) : Int) := (IntWalk.i64_in _ (by omega)).trans (by omega)
   obtain ⟨tr, hT⟩ : ∃ r, newT 2 3 2 now draw = r := ⟨_, rfl⟩
   refine sem_step (wd := 1) (Q := mkQ (LMa g0)) (by decide) tysOk (q_of (LMa_ok g0)) mixed ?_
   repeat' (first | (simp only [w2]) | (apply And.intro <;> intro hc <;> (first | exact Bool.noConfusion hc | (exfalso; first | exact absurd rfl hc | omega) | (simp only [zb0, ne_eq, not_true_eq_false] at hc <;> first | exact absurd rfl hc | (exfalso; first | exact absurd rfl hc | omega) | skip) | skip)) | (refine And.intro zp1 ?_) | (apply And.intro) | (intro s hs; skip) | (refine Exists.intro _ (And.intro ⟨rfl, rfl, rfl⟩ ?_)))
   refine sem_step (wd := 1) (Q := mkQ (LMa g0)) (by decide) tysOk (q_of (LMa_ok g0)) mixed ?_
   repeat' (first | (simp only [w2]) | (apply And.intro <;> intro hc <;> (first | exact Bool.noConfusion hc | (exfalso; first | exact absurd rfl hc | omega) | (simp only [zb0, ne_eq, not_true_eq_false] at hc <;> first | exact absurd rfl hc | (exfalso; first | exact absurd rfl hc | omega) | skip) | skip)) | (refine And.intro zp1 ?_) | (apply And.intro) | (intro s hs; (have q : tr = s := hT.symm.trans hs.symm; clear hs; subst q)) | (refine Exists.intro _ (And.intro ⟨rfl, rfl, rfl⟩ ?_)))
   refine sem_step (wd := 1) (Q := mkQ (LMa g0)) (by decide) tysOk (q_of (LMa_ok g0)) mixed ?_
   repeat' (first | (simp only [w2]) | (apply And.intro <;> intro hc <;> (first | exact Bool.noConfusion hc | (exfalso; first | exact absurd rfl hc | omega) | (simp only [zb0, ne_eq, not_true_eq_false] at hc <;> first | exact absurd rfl hc | (exfalso; first | exact absurd rfl hc | omega) | skip) | skip)) | (refine And.intro zp1 ?_) | (apply And.intro) | (intro s hs; skip) | (refine Exists.intro _ (And.intro ⟨rfl, rfl, rfl⟩ ?_)))
   refine sem_step (wd := 1) (Q := mkQ (LMa g0)) (by decide) tysOk (q_of (LMa_ok g0)) mixed ?_
   repeat' (first | (simp only [w2, w3]) | (apply And.intro <;> intro hc <;> (first | exact Bool.noConfusion hc | (exfalso; first | exact absurd rfl hc | omega) | (simp only [zb0, ne_eq, not_true_eq_false] at hc <;> first | exact absurd rfl hc | (exfalso; first | exact absurd rfl hc | omega) | skip) | skip)) | (refine And.intro zp1 ?_) | (apply And.intro) | (intro s hs; (have q := rd_plc hs (toN_row0 neH_rd _) hP; clear hs; subst q)) | (refine Exists.intro _ (And.intro ⟨rfl, rfl, rfl⟩ ?_)))
   . exact fun _ _ => ⟨rfl, okD_sl _⟩
   . exact Eq.mpr (congrArg (fun z : List Hel => z.length <= 9223372036854775807) (toN_row0 neH_rd _)) (by omega)
   refine sem_step (wd := 1) (Q := mkQ (LMa g0)) (by decide) tysOk (q_of (LMa_ok g0)) mixed ?_
   repeat' (first | (simp only [w2, w3]) | (apply And.intro <;> intro hc <;> (first | exact Bool.noConfusion hc | (exfalso; first | exact absurd rfl hc | omega) | (simp only [zb0, ne_eq, not_true_eq_false] at hc <;> first | exact absurd rfl hc | (exfalso; first | exact absurd rfl hc | omega) | skip) | skip)) | (refine And.intro zp1 ?_) | (apply And.intro) | (intro s hs; skip) | (refine Exists.intro _ (And.intro ⟨rfl, rfl, rfl⟩ ?_)))
   refine sem_step (wd := 1) (Q := mkQ (LMa g0)) (by decide) tysOk (q_of (LMa_ok g0)) mixed ?_
   repeat' (first | (simp only [w2, w3]) | (apply And.intro <;> intro hc <;> (first | exact Bool.noConfusion hc | (exfalso; first | exact absurd rfl hc | omega) | (simp only [zb0, ne_eq, not_true_eq_false] at hc <;> first | exact absurd rfl hc | (exfalso; first | exact absurd rfl hc | omega) | skip) | skip)) | (refine And.intro zp1 ?_) | (apply And.intro) | (intro s hs; skip) | (refine Exists.intro _ (And.intro ⟨rfl, rfl, rfl⟩ ?_)))
   refine sem_exec (wd := 1) (Q := mkQ (LMa g0)) (by decide) tysOk (q_of (LMa_ok g0)) mixed ?_
   repeat' (first | (simp only [w2, w3]) | (apply And.intro <;> intro hc <;> (first | exact Bool.noConfusion hc | (exfalso; first | exact absurd rfl hc | omega) | (simp only [zb0, ne_eq, not_true_eq_false] at hc <;> first | exact absurd rfl hc | (exfalso; first | exact absurd rfl hc | omega) | skip) | skip)) | (refine And.intro zp1 ?_) | (apply And.intro) | (intro s hs; skip) | (refine Exists.intro _ (And.intro ⟨rfl, rfl, rfl⟩ ?_)))
   conv => whnf
   have hAl : (addSd sd (newH c now draw) i).held.length = sd.held.length + 1 := insA_len hle1
   refine fin_acc (s := addSd sd (newH c now draw) i) (d := 44) hR2 ha rfl (fun p h j => (updE_ne h).trans (rowA_ne h)) rfl rfl (by rw [hAl]; rfl) rfl rfl hAl.symm rfl fun q hq j hj => ?_
   rw [hAl] at hq
   show LeC _ _ (rowN neH (insA i (newH c now draw) sd.held) q j)
   refine ins_cells (r := rowN neH sd.held) hle1 ?_ hq (fun h => ?_) (fun h => ?_) (fun h => ?_)
   . show min (sd.held.length + 1 - i) (sd.held.length + 1 - (i + 1)) = _
     omega
   . rw [show rowN neH (insA i (newH c now draw) sd.held) q j = rowN neH sd.held q j from congrArg (fun z => neH.cell z j) (insA_lt hle1 h)]
     exact (neH.sh _ j hj).le
   . subst h
     rw [show rowN neH (insA q (newH c now draw) sd.held) q j = neH.cell (newH c now draw) j from congrArg (fun z => neH.cell z j) (insA_eq hle1)]
     have e0 : newH c now draw = ⟨c.num, c.data, tr.1, if 1099511627776 < now + 20 then 1099511627776 else now + 20⟩ := by unfold newH; rw [hT]
     rw [e0]
     iterate 11 (rcases j with _ | j; · first | exact leC_int rfl | exact leC_bool rfl | exact leC_os_sl rfl rfl rfl (by first | rfl | exact Nat.zero_add _) (by first | exact Nat.le_refl _ | (simp; done)) fun q hq j hj => leC_cell (E := eB) (congrArg (fun z => c.data.getD z default) (Nat.zero_add q)))
     exact absurd hj (by omega)
   . rw [show rowN neH (insA i (newH c now draw) sd.held) q j = rowN neH sd.held (q - 1) j from congrArg (fun z => neH.cell z j) (insA_gt hle1 h)]
     exact (neH.sh _ j hj).le
theorem acc3_2 (g0 : Nat) (L : List Sed) (a : Nat) (sd : Sed) (now : Int) (c : Cas) (deaf : Bool) (draw : Int) (hI : AcJ L a sd now c draw) (R : List Sed × Bool × Int) (hR : R = (L.set a (if deaf = true then raiseS sd (c.num + 1) else addSd sd (newH c now draw) (plcH c.num sd.held 0).1), !deaf, 0)) (a3 : a = 2) :
 Sem Try.prog Try.f11.ntmps 0 (dropC 11 (Try.f11.body.getD Code.ret)) (SB L a sd now c deaf draw ()).fr (SB L a sd now c deaf draw ()).H (SB L a sd now c deaf draw ()).nx (endH T Try.f11.results.toList fun x H _ => FinN (some R.1.length) (encAc R) (entN neS 78 R.1) x H) := by
 obtain ⟨ha, hn, hk, hh, hnum, hd, hnow, hdr⟩ := hI
 unfold SB
 subst a3
 have w1 : IntKind.i64.wrap (c.num + 1) = c.num + 1 := IntWalk.i64_in _ (by omega)
 have w2 : IntKind.i64.wrap (now + 20) = now + 20 := IntWalk.i64_in _ (by omega)
 cases deaf with
 | true =>
   refine sem_step (wd := 1024) (Q := mkQ (LMa g0)) (by decide) tysOk (q_of (LMa_ok g0)) mixed ?_
   repeat' (first | (simp only [w1]) | (apply And.intro <;> intro hc <;> (first | exact Bool.noConfusion hc | (exfalso; first | exact absurd rfl hc | omega) | (simp only [zb0, ne_eq, not_true_eq_false] at hc <;> first | exact absurd rfl hc | (exfalso; first | exact absurd rfl hc | omega) | skip) | skip)) | (refine And.intro zp1 ?_) | (apply And.intro) | (intro s hs; skip) | (refine Exists.intro _ (And.intro ⟨rfl, rfl, rfl⟩ ?_)))
   . exact rfl
   . conv => whnf
     refine fin_acc (s := sd) (d := 2) (hR.trans ?_) ha rfl (fun p h j => rowA_ne h) rfl rfl rfl rfl rfl rfl rfl fun q hq j hj => (neH.sh _ j hj).le
     rw [if_pos rfl, show raiseS sd (c.num + 1) = sd from if_pos hc]; rfl
   . exact ⟨rfl, okD_sl _⟩
   . exact Eq.mpr (congrArg KpI (toN_row0 neH_rd _)) hk
   . conv => whnf
     have q : sd.held.filter (wantB (some (c.num + 1))) = s := (hs.trans (by rw [toN_row0 neH_rd])).symm
     clear hs
     refine fin_acc (s := ⟨sd.id, c.num + 1, s⟩) (d := 5141) (hR.trans ?_) ha rfl (fun p h j => (updE_ne h).trans ((updE_ne h).trans (rowA_ne h))) rfl rfl rfl rfl rfl rfl rfl fun q hq j hj => (neH.sh _ j hj).le
     rw [if_pos rfl, show raiseS sd (c.num + 1) = ⟨sd.id, c.num + 1, s⟩ from (if_neg hc).trans (by rw [q])]; rfl
 | false =>
   obtain ⟨⟨i, b⟩, hP⟩ : ∃ P, plcH c.num sd.held 0 = P := ⟨_, rfl⟩
   have hle := plc_le (id := c.num) (L := sd.held) (k := 0)
   rw [hP, Nat.zero_add] at hle
   dsimp only at hle
   obtain ⟨hle1, _, _⟩ := hle
   have hR2 : R = (L.set 2 (addSd sd (newH c now draw) i), true, 0) := by rw [hR, hP]; rfl
   clear hR
   have w3 : IntKind.i64.wrap ((i : Int) + 1) = ((i + 1 : Nat) : Int) := (IntWalk.i64_in _ (by omega)).trans (by omega)
   obtain ⟨tr, hT⟩ : ∃ r, newT 2 3 2 now draw = r := ⟨_, rfl⟩
   refine sem_step (wd := 1) (Q := mkQ (LMa g0)) (by decide) tysOk (q_of (LMa_ok g0)) mixed ?_
   repeat' (first | (simp only [w2]) | (apply And.intro <;> intro hc <;> (first | exact Bool.noConfusion hc | (exfalso; first | exact absurd rfl hc | omega) | (simp only [zb0, ne_eq, not_true_eq_false] at hc <;> first | exact absurd rfl hc | (exfalso; first | exact absurd rfl hc | omega) | skip) | skip)) | (refine And.intro zp1 ?_) | (apply And.intro) | (intro s hs; skip) | (refine Exists.intro _ (And.intro ⟨rfl, rfl, rfl⟩ ?_)))
   refine sem_step (wd := 1) (Q := mkQ (LMa g0)) (by decide) tysOk (q_of (LMa_ok g0)) mixed ?_
   repeat' (first | (simp only [w2]) | (apply And.intro <;> intro hc <;> (first | exact Bool.noConfusion hc | (exfalso; first | exact absurd rfl hc | omega) | (simp only [zb0, ne_eq, not_true_eq_false] at hc <;> first | exact absurd rfl hc | (exfalso; first | exact absurd rfl hc | omega) | skip) | skip)) | (refine And.intro zp1 ?_) | (apply And.intro) | (intro s hs; (have q : tr = s := hT.symm.trans hs.symm; clear hs; subst q)) | (refine Exists.intro _ (And.intro ⟨rfl, rfl, rfl⟩ ?_)))
   refine sem_step (wd := 1) (Q := mkQ (LMa g0)) (by decide) tysOk (q_of (LMa_ok g0)) mixed ?_
   repeat' (first | (simp only [w2]) | (apply And.intro <;> intro hc <;> (first | exact Bool.noConfusion hc | (exfalso; first | exact absurd rfl hc | omega) | (simp only [zb0, ne_eq, not_true_eq_false] at hc <;> first | exact absurd rfl hc | (exfalso; first | exact absurd rfl hc | omega) | skip) | skip)) | (refine And.intro zp1 ?_) | (apply And.intro) | (intro s hs; skip) | (refine Exists.intro _ (And.intro ⟨rfl, rfl, rfl⟩ ?_)))
   refine sem_step (wd := 1) (Q := mkQ (LMa g0)) (by decide) tysOk (q_of (LMa_ok g0)) mixed ?_
   repeat' (first | (simp only [w2, w3]) | (apply And.intro <;> intro hc <;> (first | exact Bool.noConfusion hc | (exfalso; first | exact absurd rfl hc | omega) | (simp only [zb0, ne_eq, not_true_eq_false] at hc <;> first | exact absurd rfl hc | (exfalso; first | exact absurd rfl hc | omega) | skip) | skip)) | (refine And.intro zp1 ?_) | (apply And.intro) | (intro s hs; (have q := rd_plc hs (toN_row0 neH_rd _) hP; clear hs; subst q)) | (refine Exists.intro _ (And.intro ⟨rfl, rfl, rfl⟩ ?_)))
   . exact fun _ _ => ⟨rfl, okD_sl _⟩
   . exact Eq.mpr (congrArg (fun z : List Hel => z.length <= 9223372036854775807) (toN_row0 neH_rd _)) (by omega)
   refine sem_step (wd := 1) (Q := mkQ (LMa g0)) (by decide) tysOk (q_of (LMa_ok g0)) mixed ?_
   repeat' (first | (simp only [w2, w3]) | (apply And.intro <;> intro hc <;> (first | exact Bool.noConfusion hc | (exfalso; first | exact absurd rfl hc | omega) | (simp only [zb0, ne_eq, not_true_eq_false] at hc <;> first | exact absurd rfl hc | (exfalso; first | exact absurd rfl hc | omega) | skip) | skip)) | (refine And.intro zp1 ?_) | (apply And.intro) | (intro s hs; skip) | (refine Exists.intro _ (And.intro ⟨rfl, rfl, rfl⟩ ?_)))
   refine sem_step (wd := 1) (Q := mkQ (LMa g0)) (by decide) tysOk (q_of (LMa_ok g0)) mixed ?_
   repeat' (first | (simp only [w2, w3]) | (apply And.intro <;> intro hc <;> (first | exact Bool.noConfusion hc | (exfalso; first | exact absurd rfl hc | omega) | (simp only [zb0, ne_eq, not_true_eq_false] at hc <;> first | exact absurd rfl hc | (exfalso; first | exact absurd rfl hc | omega) | skip) | skip)) | (refine And.intro zp1 ?_) | (apply And.intro) | (intro s hs; skip) | (refine Exists.intro _ (And.intro ⟨rfl, rfl, rfl⟩ ?_)))
   refine sem_exec (wd := 1) (Q := mkQ (LMa g0)) (by decide) tysOk (q_of (LMa_ok g0)) mixed ?_
   repeat' (first | (simp only [w2, w3]) | (apply And.intro <;> intro hc <;> (first | exact Bool.noConfusion hc | (exfalso; first | exact absurd rfl hc | omega) | (simp only [zb0, ne_eq, not_true_eq_false] at hc <;> first | exact absurd rfl hc | (exfalso; first | exact absurd rfl hc | omega) | skip) | skip)) | (refine And.intro zp1 ?_) | (apply And.intro) | (intro s hs; skip) | (refine Exists.intro _ (And.intro ⟨rfl, rfl, rfl⟩ ?_)))
   conv => whnf
   have hAl : (addSd sd (newH c now draw) i).held.length = sd.held.length + 1 := insA_len hle1
   refine fin_acc (s := addSd sd (newH c now draw) i) (d := 44) hR2 ha rfl (fun p h j => (updE_ne h).trans (rowA_ne h)) rfl rfl (by rw [hAl]; rfl) rfl rfl hAl.symm rfl fun q hq j hj => ?_
   rw [hAl] at hq
   show LeC _ _ (rowN neH (insA i (newH c now draw) sd.held) q j)
   refine ins_cells (r := rowN neH sd.held) hle1 ?_ hq (fun h => ?_) (fun h => ?_) (fun h => ?_)
   . show min (sd.held.length + 1 - i) (sd.held.length + 1 - (i + 1)) = _
     omega
   . rw [show rowN neH (insA i (newH c now draw) sd.held) q j = rowN neH sd.held q j from congrArg (fun z => neH.cell z j) (insA_lt hle1 h)]
     exact (neH.sh _ j hj).le
   . subst h
     rw [show rowN neH (insA q (newH c now draw) sd.held) q j = neH.cell (newH c now draw) j from congrArg (fun z => neH.cell z j) (insA_eq hle1)]
     have e0 : newH c now draw = ⟨c.num, c.data, tr.1, if 1099511627776 < now + 20 then 1099511627776 else now + 20⟩ := by unfold newH; rw [hT]
     rw [e0]
     iterate 11 (rcases j with _ | j; · first | exact leC_int rfl | exact leC_bool rfl | exact leC_os_sl rfl rfl rfl (by first | rfl | exact Nat.zero_add _) (by first | exact Nat.le_refl _ | (simp; done)) fun q hq j hj => leC_cell (E := eB) (congrArg (fun z => c.data.getD z default) (Nat.zero_add q)))
     exact absurd hj (by omega)
   . rw [show rowN neH (insA i (newH c now draw) sd.held) q j = rowN neH sd.held (q - 1) j from congrArg (fun z => neH.cell z j) (insA_gt hle1 h)]
     exact (neH.sh _ j hj).le
theorem acc3_3 (g0 : Nat) (L : List Sed) (a : Nat) (sd : Sed) (now : Int) (c : Cas) (deaf : Bool) (draw : Int) (hI : AcJ L a sd now c draw) (R : List Sed × Bool × Int) (hR : R = (L.set a (if deaf = true then raiseS sd (c.num + 1) else addSd sd (newH c now draw) (plcH c.num sd.held 0).1), !deaf, 0)) (a3 : a = 3) :
 Sem Try.prog Try.f11.ntmps 0 (dropC 11 (Try.f11.body.getD Code.ret)) (SB L a sd now c deaf draw ()).fr (SB L a sd now c deaf draw ()).H (SB L a sd now c deaf draw ()).nx (endH T Try.f11.results.toList fun x H _ => FinN (some R.1.length) (encAc R) (entN neS 78 R.1) x H) := by
 obtain ⟨ha, hn, hk, hh, hnum, hd, hnow, hdr⟩ := hI
 unfold SB
 subst a3
 have w1 : IntKind.i64.wrap (c.num + 1) = c.num + 1 := IntWalk.i64_in _ (by omega)
 have w2 : IntKind.i64.wrap (now + 20) = now + 20 := IntWalk.i64_in _ (by omega)
 cases deaf with
 | true =>
   refine sem_step (wd := 1024) (Q := mkQ (LMa g0)) (by decide) tysOk (q_of (LMa_ok g0)) mixed ?_
   repeat' (first | (simp only [w1]) | (apply And.intro <;> intro hc <;> (first | exact Bool.noConfusion hc | (exfalso; first | exact absurd rfl hc | omega) | (simp only [zb0, ne_eq, not_true_eq_false] at hc <;> first | exact absurd rfl hc | (exfalso; first | exact absurd rfl hc | omega) | skip) | skip)) | (refine And.intro zp1 ?_) | (apply And.intro) | (intro s hs; skip) | (refine Exists.intro _ (And.intro ⟨rfl, rfl, rfl⟩ ?_)))
   . exact rfl
   . conv => whnf
     refine fin_acc (s := sd) (d := 2) (hR.trans ?_) ha rfl (fun p h j => rowA_ne h) rfl rfl rfl rfl rfl rfl rfl fun q hq j hj => (neH.sh _ j hj).le
     rw [if_pos rfl, show raiseS sd (c.num + 1) = sd from if_pos hc]; rfl
   . exact ⟨rfl, okD_sl _⟩
   . exact Eq.mpr (congrArg KpI (toN_row0 neH_rd _)) hk
   . conv => whnf
     have q : sd.held.filter (wantB (some (c.num + 1))) = s := (hs.trans (by rw [toN_row0 neH_rd])).symm
     clear hs
     refine fin_acc (s := ⟨sd.id, c.num + 1, s⟩) (d := 5141) (hR.trans ?_) ha rfl (fun p h j => (updE_ne h).trans ((updE_ne h).trans (rowA_ne h))) rfl rfl rfl rfl rfl rfl rfl fun q hq j hj => (neH.sh _ j hj).le
     rw [if_pos rfl, show raiseS sd (c.num + 1) = ⟨sd.id, c.num + 1, s⟩ from (if_neg hc).trans (by rw [q])]; rfl
 | false =>
   obtain ⟨⟨i, b⟩, hP⟩ : ∃ P, plcH c.num sd.held 0 = P := ⟨_, rfl⟩
   have hle := plc_le (id := c.num) (L := sd.held) (k := 0)
   rw [hP, Nat.zero_add] at hle
   dsimp only at hle
   obtain ⟨hle1, _, _⟩ := hle
   have hR2 : R = (L.set 3 (addSd sd (newH c now draw) i), true, 0) := by rw [hR, hP]; rfl
   clear hR
   have w3 : IntKind.i64.wrap ((i : Int) + 1) = ((i + 1 : Nat) : Int) := (IntWalk.i64_in _ (by omega)).trans (by omega)
   obtain ⟨tr, hT⟩ : ∃ r, newT 2 3 2 now draw = r := ⟨_, rfl⟩
   refine sem_step (wd := 1) (Q := mkQ (LMa g0)) (by decide) tysOk (q_of (LMa_ok g0)) mixed ?_
   repeat' (first | (simp only [w2]) | (apply And.intro <;> intro hc <;> (first | exact Bool.noConfusion hc | (exfalso; first | exact absurd rfl hc | omega) | (simp only [zb0, ne_eq, not_true_eq_false] at hc <;> first | exact absurd rfl hc | (exfalso; first | exact absurd rfl hc | omega) | skip) | skip)) | (refine And.intro zp1 ?_) | (apply And.intro) | (intro s hs; skip) | (refine Exists.intro _ (And.intro ⟨rfl, rfl, rfl⟩ ?_)))
   refine sem_step (wd := 1) (Q := mkQ (LMa g0)) (by decide) tysOk (q_of (LMa_ok g0)) mixed ?_
   repeat' (first | (simp only [w2]) | (apply And.intro <;> intro hc <;> (first | exact Bool.noConfusion hc | (exfalso; first | exact absurd rfl hc | omega) | (simp only [zb0, ne_eq, not_true_eq_false] at hc <;> first | exact absurd rfl hc | (exfalso; first | exact absurd rfl hc | omega) | skip) | skip)) | (refine And.intro zp1 ?_) | (apply And.intro) | (intro s hs; (have q : tr = s := hT.symm.trans hs.symm; clear hs; subst q)) | (refine Exists.intro _ (And.intro ⟨rfl, rfl, rfl⟩ ?_)))
   refine sem_step (wd := 1) (Q := mkQ (LMa g0)) (by decide) tysOk (q_of (LMa_ok g0)) mixed ?_
   repeat' (first | (simp only [w2]) | (apply And.intro <;> intro hc <;> (first | exact Bool.noConfusion hc | (exfalso; first | exact absurd rfl hc | omega) | (simp only [zb0, ne_eq, not_true_eq_false] at hc <;> first | exact absurd rfl hc | (exfalso; first | exact absurd rfl hc | omega) | skip) | skip)) | (refine And.intro zp1 ?_) | (apply And.intro) | (intro s hs; skip) | (refine Exists.intro _ (And.intro ⟨rfl, rfl, rfl⟩ ?_)))
   refine sem_step (wd := 1) (Q := mkQ (LMa g0)) (by decide) tysOk (q_of (LMa_ok g0)) mixed ?_
   repeat' (first | (simp only [w2, w3]) | (apply And.intro <;> intro hc <;> (first | exact Bool.noConfusion hc | (exfalso; first | exact absurd rfl hc | omega) | (simp only [zb0, ne_eq, not_true_eq_false] at hc <;> first | exact absurd rfl hc | (exfalso; first | exact absurd rfl hc | omega) | skip) | skip)) | (refine And.intro zp1 ?_) | (apply And.intro) | (intro s hs; (have q := rd_plc hs (toN_row0 neH_rd _) hP; clear hs; subst q)) | (refine Exists.intro _ (And.intro ⟨rfl, rfl, rfl⟩ ?_)))
   . exact fun _ _ => ⟨rfl, okD_sl _⟩
   . exact Eq.mpr (congrArg (fun z : List Hel => z.length <= 9223372036854775807) (toN_row0 neH_rd _)) (by omega)
   refine sem_step (wd := 1) (Q := mkQ (LMa g0)) (by decide) tysOk (q_of (LMa_ok g0)) mixed ?_
   repeat' (first | (simp only [w2, w3]) | (apply And.intro <;> intro hc <;> (first | exact Bool.noConfusion hc | (exfalso; first | exact absurd rfl hc | omega) | (simp only [zb0, ne_eq, not_true_eq_false] at hc <;> first | exact absurd rfl hc | (exfalso; first | exact absurd rfl hc | omega) | skip) | skip)) | (refine And.intro zp1 ?_) | (apply And.intro) | (intro s hs; skip) | (refine Exists.intro _ (And.intro ⟨rfl, rfl, rfl⟩ ?_)))
   refine sem_step (wd := 1) (Q := mkQ (LMa g0)) (by decide) tysOk (q_of (LMa_ok g0)) mixed ?_
   repeat' (first | (simp only [w2, w3]) | (apply And.intro <;> intro hc <;> (first | exact Bool.noConfusion hc | (exfalso; first | exact absurd rfl hc | omega) | (simp only [zb0, ne_eq, not_true_eq_false] at hc <;> first | exact absurd rfl hc | (exfalso; first | exact absurd rfl hc | omega) | skip) | skip)) | (refine And.intro zp1 ?_) | (apply And.intro) | (intro s hs; skip) | (refine Exists.intro _ (And.intro ⟨rfl, rfl, rfl⟩ ?_)))
   refine sem_exec (wd := 1) (Q := mkQ (LMa g0)) (by decide) tysOk (q_of (LMa_ok g0)) mixed ?_
   repeat' (first | (simp only [w2, w3]) | (apply And.intro <;> intro hc <;> (first | exact Bool.noConfusion hc | (exfalso; first | exact absurd rfl hc | omega) | (simp only [zb0, ne_eq, not_true_eq_false] at hc <;> first | exact absurd rfl hc | (exfalso; first | exact absurd rfl hc | omega) | skip) | skip)) | (refine And.intro zp1 ?_) | (apply And.intro) | (intro s hs; skip) | (refine Exists.intro _ (And.intro ⟨rfl, rfl, rfl⟩ ?_)))
   conv => whnf
   have hAl : (addSd sd (newH c now draw) i).held.length = sd.held.length + 1 := insA_len hle1
   refine fin_acc (s := addSd sd (newH c now draw) i) (d := 44) hR2 ha rfl (fun p h j => (updE_ne h).trans (rowA_ne h)) rfl rfl (by rw [hAl]; rfl) rfl rfl hAl.symm rfl fun q hq j hj => ?_
   rw [hAl] at hq
   show LeC _ _ (rowN neH (insA i (newH c now draw) sd.held) q j)
   refine ins_cells (r := rowN neH sd.held) hle1 ?_ hq (fun h => ?_) (fun h => ?_) (fun h => ?_)
   . show min (sd.held.length + 1 - i) (sd.held.length + 1 - (i + 1)) = _
     omega
   . rw [show rowN neH (insA i (newH c now draw) sd.held) q j = rowN neH sd.held q j from congrArg (fun z => neH.cell z j) (insA_lt hle1 h)]
     exact (neH.sh _ j hj).le
   . subst h
     rw [show rowN neH (insA q (newH c now draw) sd.held) q j = neH.cell (newH c now draw) j from congrArg (fun z => neH.cell z j) (insA_eq hle1)]
     have e0 : newH c now draw = ⟨c.num, c.data, tr.1, if 1099511627776 < now + 20 then 1099511627776 else now + 20⟩ := by unfold newH; rw [hT]
     rw [e0]
     iterate 11 (rcases j with _ | j; · first | exact leC_int rfl | exact leC_bool rfl | exact leC_os_sl rfl rfl rfl (by first | rfl | exact Nat.zero_add _) (by first | exact Nat.le_refl _ | (simp; done)) fun q hq j hj => leC_cell (E := eB) (congrArg (fun z => c.data.getD z default) (Nat.zero_add q)))
     exact absurd hj (by omega)
   . rw [show rowN neH (insA i (newH c now draw) sd.held) q j = rowN neH sd.held (q - 1) j from congrArg (fun z => neH.cell z j) (insA_gt hle1 h)]
     exact (neH.sh _ j hj).le
theorem acc3_4 (g0 : Nat) (L : List Sed) (a : Nat) (sd : Sed) (now : Int) (c : Cas) (deaf : Bool) (draw : Int) (hI : AcJ L a sd now c draw) (R : List Sed × Bool × Int) (hR : R = (L.set a (if deaf = true then raiseS sd (c.num + 1) else addSd sd (newH c now draw) (plcH c.num sd.held 0).1), !deaf, 0)) (a3 : a = 4) :
 Sem Try.prog Try.f11.ntmps 0 (dropC 11 (Try.f11.body.getD Code.ret)) (SB L a sd now c deaf draw ()).fr (SB L a sd now c deaf draw ()).H (SB L a sd now c deaf draw ()).nx (endH T Try.f11.results.toList fun x H _ => FinN (some R.1.length) (encAc R) (entN neS 78 R.1) x H) := by
 obtain ⟨ha, hn, hk, hh, hnum, hd, hnow, hdr⟩ := hI
 unfold SB
 subst a3
 have w1 : IntKind.i64.wrap (c.num + 1) = c.num + 1 := IntWalk.i64_in _ (by omega)
 have w2 : IntKind.i64.wrap (now + 20) = now + 20 := IntWalk.i64_in _ (by omega)
 cases deaf with
 | true =>
   refine sem_step (wd := 1024) (Q := mkQ (LMa g0)) (by decide) tysOk (q_of (LMa_ok g0)) mixed ?_
   repeat' (first | (simp only [w1]) | (apply And.intro <;> intro hc <;> (first | exact Bool.noConfusion hc | (exfalso; first | exact absurd rfl hc | omega) | (simp only [zb0, ne_eq, not_true_eq_false] at hc <;> first | exact absurd rfl hc | (exfalso; first | exact absurd rfl hc | omega) | skip) | skip)) | (refine And.intro zp1 ?_) | (apply And.intro) | (intro s hs; skip) | (refine Exists.intro _ (And.intro ⟨rfl, rfl, rfl⟩ ?_)))
   . exact rfl
   . conv => whnf
     refine fin_acc (s := sd) (d := 2) (hR.trans ?_) ha rfl (fun p h j => rowA_ne h) rfl rfl rfl rfl rfl rfl rfl fun q hq j hj => (neH.sh _ j hj).le
     rw [if_pos rfl, show raiseS sd (c.num + 1) = sd from if_pos hc]; rfl
   . exact ⟨rfl, okD_sl _⟩
   . exact Eq.mpr (congrArg KpI (toN_row0 neH_rd _)) hk
   . conv => whnf
     have q : sd.held.filter (wantB (some (c.num + 1))) = s := (hs.trans (by rw [toN_row0 neH_rd])).symm
     clear hs
     refine fin_acc (s := ⟨sd.id, c.num + 1, s⟩) (d := 5141) (hR.trans ?_) ha rfl (fun p h j => (updE_ne h).trans ((updE_ne h).trans (rowA_ne h))) rfl rfl rfl rfl rfl rfl rfl fun q hq j hj => (neH.sh _ j hj).le
     rw [if_pos rfl, show raiseS sd (c.num + 1) = ⟨sd.id, c.num + 1, s⟩ from (if_neg hc).trans (by rw [q])]; rfl
 | false =>
   obtain ⟨⟨i, b⟩, hP⟩ : ∃ P, plcH c.num sd.held 0 = P := ⟨_, rfl⟩
   have hle := plc_le (id := c.num) (L := sd.held) (k := 0)
   rw [hP, Nat.zero_add] at hle
   dsimp only at hle
   obtain ⟨hle1, _, _⟩ := hle
   have hR2 : R = (L.set 4 (addSd sd (newH c now draw) i), true, 0) := by rw [hR, hP]; rfl
   clear hR
   have w3 : IntKind.i64.wrap ((i : Int) + 1) = ((i + 1 : Nat) : Int) := (IntWalk.i64_in _ (by omega)).trans (by omega)
   obtain ⟨tr, hT⟩ : ∃ r, newT 2 3 2 now draw = r := ⟨_, rfl⟩
   refine sem_step (wd := 1) (Q := mkQ (LMa g0)) (by decide) tysOk (q_of (LMa_ok g0)) mixed ?_
   repeat' (first | (simp only [w2]) | (apply And.intro <;> intro hc <;> (first | exact Bool.noConfusion hc | (exfalso; first | exact absurd rfl hc | omega) | (simp only [zb0, ne_eq, not_true_eq_false] at hc <;> first | exact absurd rfl hc | (exfalso; first | exact absurd rfl hc | omega) | skip) | skip)) | (refine And.intro zp1 ?_) | (apply And.intro) | (intro s hs; skip) | (refine Exists.intro _ (And.intro ⟨rfl, rfl, rfl⟩ ?_)))
   refine sem_step (wd := 1) (Q := mkQ (LMa g0)) (by decide) tysOk (q_of (LMa_ok g0)) mixed ?_
   repeat' (first | (simp only [w2]) | (apply And.intro <;> intro hc <;> (first | exact Bool.noConfusion hc | (exfalso; first | exact absurd rfl hc | omega) | (simp only [zb0, ne_eq, not_true_eq_false] at hc <;> first | exact absurd rfl hc | (exfalso; first | exact absurd rfl hc | omega) | skip) | skip)) | (refine And.intro zp1 ?_) | (apply And.intro) | (intro s hs; (have q : tr = s := hT.symm.trans hs.symm; clear hs; subst q)) | (refine Exists.intro _ (And.intro ⟨rfl, rfl, rfl⟩ ?_)))
   refine sem_step (wd := 1) (Q := mkQ (LMa g0)) (by decide) tysOk (q_of (LMa_ok g0)) mixed ?_
   repeat' (first | (simp only [w2]) | (apply And.intro <;> intro hc <;> (first | exact Bool.noConfusion hc | (exfalso; first | exact absurd rfl hc | omega) | (simp only [zb0, ne_eq, not_true_eq_false] at hc <;> first | exact absurd rfl hc | (exfalso; first | exact absurd rfl hc | omega) | skip) | skip)) | (refine And.intro zp1 ?_) | (apply And.intro) | (intro s hs; skip) | (refine Exists.intro _ (And.intro ⟨rfl, rfl, rfl⟩ ?_)))
   refine sem_step (wd := 1) (Q := mkQ (LMa g0)) (by decide) tysOk (q_of (LMa_ok g0)) mixed ?_
   repeat' (first | (simp only [w2, w3]) | (apply And.intro <;> intro hc <;> (first | exact Bool.noConfusion hc | (exfalso; first | exact absurd rfl hc | omega) | (simp only [zb0, ne_eq, not_true_eq_false] at hc <;> first | exact absurd rfl hc | (exfalso; first | exact absurd rfl hc | omega) | skip) | skip)) | (refine And.intro zp1 ?_) | (apply And.intro) | (intro s hs; (have q := rd_plc hs (toN_row0 neH_rd _) hP; clear hs; subst q)) | (refine Exists.intro _ (And.intro ⟨rfl, rfl, rfl⟩ ?_)))
   . exact fun _ _ => ⟨rfl, okD_sl _⟩
   . exact Eq.mpr (congrArg (fun z : List Hel => z.length <= 9223372036854775807) (toN_row0 neH_rd _)) (by omega)
   refine sem_step (wd := 1) (Q := mkQ (LMa g0)) (by decide) tysOk (q_of (LMa_ok g0)) mixed ?_
   repeat' (first | (simp only [w2, w3]) | (apply And.intro <;> intro hc <;> (first | exact Bool.noConfusion hc | (exfalso; first | exact absurd rfl hc | omega) | (simp only [zb0, ne_eq, not_true_eq_false] at hc <;> first | exact absurd rfl hc | (exfalso; first | exact absurd rfl hc | omega) | skip) | skip)) | (refine And.intro zp1 ?_) | (apply And.intro) | (intro s hs; skip) | (refine Exists.intro _ (And.intro ⟨rfl, rfl, rfl⟩ ?_)))
   refine sem_step (wd := 1) (Q := mkQ (LMa g0)) (by decide) tysOk (q_of (LMa_ok g0)) mixed ?_
   repeat' (first | (simp only [w2, w3]) | (apply And.intro <;> intro hc <;> (first | exact Bool.noConfusion hc | (exfalso; first | exact absurd rfl hc | omega) | (simp only [zb0, ne_eq, not_true_eq_false] at hc <;> first | exact absurd rfl hc | (exfalso; first | exact absurd rfl hc | omega) | skip) | skip)) | (refine And.intro zp1 ?_) | (apply And.intro) | (intro s hs; skip) | (refine Exists.intro _ (And.intro ⟨rfl, rfl, rfl⟩ ?_)))
   refine sem_exec (wd := 1) (Q := mkQ (LMa g0)) (by decide) tysOk (q_of (LMa_ok g0)) mixed ?_
   repeat' (first | (simp only [w2, w3]) | (apply And.intro <;> intro hc <;> (first | exact Bool.noConfusion hc | (exfalso; first | exact absurd rfl hc | omega) | (simp only [zb0, ne_eq, not_true_eq_false] at hc <;> first | exact absurd rfl hc | (exfalso; first | exact absurd rfl hc | omega) | skip) | skip)) | (refine And.intro zp1 ?_) | (apply And.intro) | (intro s hs; skip) | (refine Exists.intro _ (And.intro ⟨rfl, rfl, rfl⟩ ?_)))
   conv => whnf
   have hAl : (addSd sd (newH c now draw) i).held.length = sd.held.length + 1 := insA_len hle1
   refine fin_acc (s := addSd sd (newH c now draw) i) (d := 44) hR2 ha rfl (fun p h j => (updE_ne h).trans (rowA_ne h)) rfl rfl (by rw [hAl]; rfl) rfl rfl hAl.symm rfl fun q hq j hj => ?_
   rw [hAl] at hq
   show LeC _ _ (rowN neH (insA i (newH c now draw) sd.held) q j)
   refine ins_cells (r := rowN neH sd.held) hle1 ?_ hq (fun h => ?_) (fun h => ?_) (fun h => ?_)
   . show min (sd.held.length + 1 - i) (sd.held.length + 1 - (i + 1)) = _
     omega
   . rw [show rowN neH (insA i (newH c now draw) sd.held) q j = rowN neH sd.held q j from congrArg (fun z => neH.cell z j) (insA_lt hle1 h)]
     exact (neH.sh _ j hj).le
   . subst h
     rw [show rowN neH (insA q (newH c now draw) sd.held) q j = neH.cell (newH c now draw) j from congrArg (fun z => neH.cell z j) (insA_eq hle1)]
     have e0 : newH c now draw = ⟨c.num, c.data, tr.1, if 1099511627776 < now + 20 then 1099511627776 else now + 20⟩ := by unfold newH; rw [hT]
     rw [e0]
     iterate 11 (rcases j with _ | j; · first | exact leC_int rfl | exact leC_bool rfl | exact leC_os_sl rfl rfl rfl (by first | rfl | exact Nat.zero_add _) (by first | exact Nat.le_refl _ | (simp; done)) fun q hq j hj => leC_cell (E := eB) (congrArg (fun z => c.data.getD z default) (Nat.zero_add q)))
     exact absurd hj (by omega)
   . rw [show rowN neH (insA i (newH c now draw) sd.held) q j = rowN neH sd.held (q - 1) j from congrArg (fun z => neH.cell z j) (insA_gt hle1 h)]
     exact (neH.sh _ j hj).le
theorem acc3_5 (g0 : Nat) (L : List Sed) (a : Nat) (sd : Sed) (now : Int) (c : Cas) (deaf : Bool) (draw : Int) (hI : AcJ L a sd now c draw) (R : List Sed × Bool × Int) (hR : R = (L.set a (if deaf = true then raiseS sd (c.num + 1) else addSd sd (newH c now draw) (plcH c.num sd.held 0).1), !deaf, 0)) (a3 : a = 5) :
 Sem Try.prog Try.f11.ntmps 0 (dropC 11 (Try.f11.body.getD Code.ret)) (SB L a sd now c deaf draw ()).fr (SB L a sd now c deaf draw ()).H (SB L a sd now c deaf draw ()).nx (endH T Try.f11.results.toList fun x H _ => FinN (some R.1.length) (encAc R) (entN neS 78 R.1) x H) := by
 obtain ⟨ha, hn, hk, hh, hnum, hd, hnow, hdr⟩ := hI
 unfold SB
 subst a3
 have w1 : IntKind.i64.wrap (c.num + 1) = c.num + 1 := IntWalk.i64_in _ (by omega)
 have w2 : IntKind.i64.wrap (now + 20) = now + 20 := IntWalk.i64_in _ (by omega)
 cases deaf with
 | true =>
   refine sem_step (wd := 1024) (Q := mkQ (LMa g0)) (by decide) tysOk (q_of (LMa_ok g0)) mixed ?_
   repeat' (first | (simp only [w1]) | (apply And.intro <;> intro hc <;> (first | exact Bool.noConfusion hc | (exfalso; first | exact absurd rfl hc | omega) | (simp only [zb0, ne_eq, not_true_eq_false] at hc <;> first | exact absurd rfl hc | (exfalso; first | exact absurd rfl hc | omega) | skip) | skip)) | (refine And.intro zp1 ?_) | (apply And.intro) | (intro s hs; skip) | (refine Exists.intro _ (And.intro ⟨rfl, rfl, rfl⟩ ?_)))
   . exact rfl
   . conv => whnf
     refine fin_acc (s := sd) (d := 2) (hR.trans ?_) ha rfl (fun p h j => rowA_ne h) rfl rfl rfl rfl rfl rfl rfl fun q hq j hj => (neH.sh _ j hj).le
     rw [if_pos rfl, show raiseS sd (c.num + 1) = sd from if_pos hc]; rfl
   . exact ⟨rfl, okD_sl _⟩
   . exact Eq.mpr (congrArg KpI (toN_row0 neH_rd _)) hk
   . conv => whnf
     have q : sd.held.filter (wantB (some (c.num + 1))) = s := (hs.trans (by rw [toN_row0 neH_rd])).symm
     clear hs
     refine fin_acc (s := ⟨sd.id, c.num + 1, s⟩) (d := 5141) (hR.trans ?_) ha rfl (fun p h j => (updE_ne h).trans ((updE_ne h).trans (rowA_ne h))) rfl rfl rfl rfl rfl rfl rfl fun q hq j hj => (neH.sh _ j hj).le
     rw [if_pos rfl, show raiseS sd (c.num + 1) = ⟨sd.id, c.num + 1, s⟩ from (if_neg hc).trans (by rw [q])]; rfl
 | false =>
   obtain ⟨⟨i, b⟩, hP⟩ : ∃ P, plcH c.num sd.held 0 = P := ⟨_, rfl⟩
   have hle := plc_le (id := c.num) (L := sd.held) (k := 0)
   rw [hP, Nat.zero_add] at hle
   dsimp only at hle
   obtain ⟨hle1, _, _⟩ := hle
   have hR2 : R = (L.set 5 (addSd sd (newH c now draw) i), true, 0) := by rw [hR, hP]; rfl
   clear hR
   have w3 : IntKind.i64.wrap ((i : Int) + 1) = ((i + 1 : Nat) : Int) := (IntWalk.i64_in _ (by omega)).trans (by omega)
   obtain ⟨tr, hT⟩ : ∃ r, newT 2 3 2 now draw = r := ⟨_, rfl⟩
   refine sem_step (wd := 1) (Q := mkQ (LMa g0)) (by decide) tysOk (q_of (LMa_ok g0)) mixed ?_
   repeat' (first | (simp only [w2]) | (apply And.intro <;> intro hc <;> (first | exact Bool.noConfusion hc | (exfalso; first | exact absurd rfl hc | omega) | (simp only [zb0, ne_eq, not_true_eq_false] at hc <;> first | exact absurd rfl hc | (exfalso; first | exact absurd rfl hc | omega) | skip) | skip)) | (refine And.intro zp1 ?_) | (apply And.intro) | (intro s hs; skip) | (refine Exists.intro _ (And.intro ⟨rfl, rfl, rfl⟩ ?_)))
   refine sem_step (wd := 1) (Q := mkQ (LMa g0)) (by decide) tysOk (q_of (LMa_ok g0)) mixed ?_
   repeat' (first | (simp only [w2]) | (apply And.intro <;> intro hc <;> (first | exact Bool.noConfusion hc | (exfalso; first | exact absurd rfl hc | omega) | (simp only [zb0, ne_eq, not_true_eq_false] at hc <;> first | exact absurd rfl hc | (exfalso; first | exact absurd rfl hc | omega) | skip) | skip)) | (refine And.intro zp1 ?_) | (apply And.intro) | (intro s hs; (have q : tr = s := hT.symm.trans hs.symm; clear hs; subst q)) | (refine Exists.intro _ (And.intro ⟨rfl, rfl, rfl⟩ ?_)))
   refine sem_step (wd := 1) (Q := mkQ (LMa g0)) (by decide) tysOk (q_of (LMa_ok g0)) mixed ?_
   repeat' (first | (simp only [w2]) | (apply And.intro <;> intro hc <;> (first | exact Bool.noConfusion hc | (exfalso; first | exact absurd rfl hc | omega) | (simp only [zb0, ne_eq, not_true_eq_false] at hc <;> first | exact absurd rfl hc | (exfalso; first | exact absurd rfl hc | omega) | skip) | skip)) | (refine And.intro zp1 ?_) | (apply And.intro) | (intro s hs; skip) | (refine Exists.intro _ (And.intro ⟨rfl, rfl, rfl⟩ ?_)))
   refine sem_step (wd := 1) (Q := mkQ (LMa g0)) (by decide) tysOk (q_of (LMa_ok g0)) mixed ?_
   repeat' (first | (simp only [w2, w3]) | (apply And.intro <;> intro hc <;> (first | exact Bool.noConfusion hc | (exfalso; first | exact absurd rfl hc | omega) | (simp only [zb0, ne_eq, not_true_eq_false] at hc <;> first | exact absurd rfl hc | (exfalso; first | exact absurd rfl hc | omega) | skip) | skip)) | (refine And.intro zp1 ?_) | (apply And.intro) | (intro s hs; (have q := rd_plc hs (toN_row0 neH_rd _) hP; clear hs; subst q)) | (refine Exists.intro _ (And.intro ⟨rfl, rfl, rfl⟩ ?_)))
   . exact fun _ _ => ⟨rfl, okD_sl _⟩
   . exact Eq.mpr (congrArg (fun z : List Hel => z.length <= 9223372036854775807) (toN_row0 neH_rd _)) (by omega)
   refine sem_step (wd := 1) (Q := mkQ (LMa g0)) (by decide) tysOk (q_of (LMa_ok g0)) mixed ?_
   repeat' (first | (simp only [w2, w3]) | (apply And.intro <;> intro hc <;> (first | exact Bool.noConfusion hc | (exfalso; first | exact absurd rfl hc | omega) | (simp only [zb0, ne_eq, not_true_eq_false] at hc <;> first | exact absurd rfl hc | (exfalso; first | exact absurd rfl hc | omega) | skip) | skip)) | (refine And.intro zp1 ?_) | (apply And.intro) | (intro s hs; skip) | (refine Exists.intro _ (And.intro ⟨rfl, rfl, rfl⟩ ?_)))
   refine sem_step (wd := 1) (Q := mkQ (LMa g0)) (by decide) tysOk (q_of (LMa_ok g0)) mixed ?_
   repeat' (first | (simp only [w2, w3]) | (apply And.intro <;> intro hc <;> (first | exact Bool.noConfusion hc | (exfalso; first | exact absurd rfl hc | omega) | (simp only [zb0, ne_eq, not_true_eq_false] at hc <;> first | exact absurd rfl hc | (exfalso; first | exact absurd rfl hc | omega) | skip) | skip)) | (refine And.intro zp1 ?_) | (apply And.intro) | (intro s hs; skip) | (refine Exists.intro _ (And.intro ⟨rfl, rfl, rfl⟩ ?_)))
   refine sem_exec (wd := 1) (Q := mkQ (LMa g0)) (by decide) tysOk (q_of (LMa_ok g0)) mixed ?_
   repeat' (first | (simp only [w2, w3]) | (apply And.intro <;> intro hc <;> (first | exact Bool.noConfusion hc | (exfalso; first | exact absurd rfl hc | omega) | (simp only [zb0, ne_eq, not_true_eq_false] at hc <;> first | exact absurd rfl hc | (exfalso; first | exact absurd rfl hc | omega) | skip) | skip)) | (refine And.intro zp1 ?_) | (apply And.intro) | (intro s hs; skip) | (refine Exists.intro _ (And.intro ⟨rfl, rfl, rfl⟩ ?_)))
   conv => whnf
   have hAl : (addSd sd (newH c now draw) i).held.length = sd.held.length + 1 := insA_len hle1
   refine fin_acc (s := addSd sd (newH c now draw) i) (d := 44) hR2 ha rfl (fun p h j => (updE_ne h).trans (rowA_ne h)) rfl rfl (by rw [hAl]; rfl) rfl rfl hAl.symm rfl fun q hq j hj => ?_
   rw [hAl] at hq
   show LeC _ _ (rowN neH (insA i (newH c now draw) sd.held) q j)
   refine ins_cells (r := rowN neH sd.held) hle1 ?_ hq (fun h => ?_) (fun h => ?_) (fun h => ?_)
   . show min (sd.held.length + 1 - i) (sd.held.length + 1 - (i + 1)) = _
     omega
   . rw [show rowN neH (insA i (newH c now draw) sd.held) q j = rowN neH sd.held q j from congrArg (fun z => neH.cell z j) (insA_lt hle1 h)]
     exact (neH.sh _ j hj).le
   . subst h
     rw [show rowN neH (insA q (newH c now draw) sd.held) q j = neH.cell (newH c now draw) j from congrArg (fun z => neH.cell z j) (insA_eq hle1)]
     have e0 : newH c now draw = ⟨c.num, c.data, tr.1, if 1099511627776 < now + 20 then 1099511627776 else now + 20⟩ := by unfold newH; rw [hT]
     rw [e0]
     iterate 11 (rcases j with _ | j; · first | exact leC_int rfl | exact leC_bool rfl | exact leC_os_sl rfl rfl rfl (by first | rfl | exact Nat.zero_add _) (by first | exact Nat.le_refl _ | (simp; done)) fun q hq j hj => leC_cell (E := eB) (congrArg (fun z => c.data.getD z default) (Nat.zero_add q)))
     exact absurd hj (by omega)
   . rw [show rowN neH (insA i (newH c now draw) sd.held) q j = rowN neH sd.held (q - 1) j from congrArg (fun z => neH.cell z j) (insA_gt hle1 h)]
     exact (neH.sh _ j hj).le
theorem acc3_6 (g0 : Nat) (L : List Sed) (a : Nat) (sd : Sed) (now : Int) (c : Cas) (deaf : Bool) (draw : Int) (hI : AcJ L a sd now c draw) (R : List Sed × Bool × Int) (hR : R = (L.set a (if deaf = true then raiseS sd (c.num + 1) else addSd sd (newH c now draw) (plcH c.num sd.held 0).1), !deaf, 0)) (a3 : a = 6) :
 Sem Try.prog Try.f11.ntmps 0 (dropC 11 (Try.f11.body.getD Code.ret)) (SB L a sd now c deaf draw ()).fr (SB L a sd now c deaf draw ()).H (SB L a sd now c deaf draw ()).nx (endH T Try.f11.results.toList fun x H _ => FinN (some R.1.length) (encAc R) (entN neS 78 R.1) x H) := by
 obtain ⟨ha, hn, hk, hh, hnum, hd, hnow, hdr⟩ := hI
 unfold SB
 subst a3
 have w1 : IntKind.i64.wrap (c.num + 1) = c.num + 1 := IntWalk.i64_in _ (by omega)
 have w2 : IntKind.i64.wrap (now + 20) = now + 20 := IntWalk.i64_in _ (by omega)
 cases deaf with
 | true =>
   refine sem_step (wd := 1024) (Q := mkQ (LMa g0)) (by decide) tysOk (q_of (LMa_ok g0)) mixed ?_
   repeat' (first | (simp only [w1]) | (apply And.intro <;> intro hc <;> (first | exact Bool.noConfusion hc | (exfalso; first | exact absurd rfl hc | omega) | (simp only [zb0, ne_eq, not_true_eq_false] at hc <;> first | exact absurd rfl hc | (exfalso; first | exact absurd rfl hc | omega) | skip) | skip)) | (refine And.intro zp1 ?_) | (apply And.intro) | (intro s hs; skip) | (refine Exists.intro _ (And.intro ⟨rfl, rfl, rfl⟩ ?_)))
   . exact rfl
   . conv => whnf
     refine fin_acc (s := sd) (d := 2) (hR.trans ?_) ha rfl (fun p h j => rowA_ne h) rfl rfl rfl rfl rfl rfl rfl fun q hq j hj => (neH.sh _ j hj).le
     rw [if_pos rfl, show raiseS sd (c.num + 1) = sd from if_pos hc]; rfl
   . exact ⟨rfl, okD_sl _⟩
   . exact Eq.mpr (congrArg KpI (toN_row0 neH_rd _)) hk
   . conv => whnf
     have q : sd.held.filter (wantB (some (c.num + 1))) = s := (hs.trans (by rw [toN_row0 neH_rd])).symm
     clear hs
     refine fin_acc (s := ⟨sd.id, c.num + 1, s⟩) (d := 5141) (hR.trans ?_) ha rfl (fun p h j => (updE_ne h).trans ((updE_ne h).trans (rowA_ne h))) rfl rfl rfl rfl rfl rfl rfl fun q hq j hj => (neH.sh _ j hj).le
     rw [if_pos rfl, show raiseS sd (c.num + 1) = ⟨sd.id, c.num + 1, s⟩ from (if_neg hc).trans (by rw [q])]; rfl
 | false =>
   obtain ⟨⟨i, b⟩, hP⟩ : ∃ P, plcH c.num sd.held 0 = P := ⟨_, rfl⟩
   have hle := plc_le (id := c.num) (L := sd.held) (k := 0)
   rw [hP, Nat.zero_add] at hle
   dsimp only at hle
   obtain ⟨hle1, _, _⟩ := hle
   have hR2 : R = (L.set 6 (addSd sd (newH c now draw) i), true, 0) := by rw [hR, hP]; rfl
   clear hR
   have w3 : IntKind.i64.wrap ((i : Int) + 1) = ((i + 1 : Nat) : Int) := (IntWalk.i64_in _ (by omega)).trans (by omega)
   obtain ⟨tr, hT⟩ : ∃ r, newT 2 3 2 now draw = r := ⟨_, rfl⟩
   refine sem_step (wd := 1) (Q := mkQ (LMa g0)) (by decide) tysOk (q_of (LMa_ok g0)) mixed ?_
   repeat' (first | (simp only [w2]) | (apply And.intro <;> intro hc <;> (first | exact Bool.noConfusion hc | (exfalso; first | exact absurd rfl hc | omega) | (simp only [zb0, ne_eq, not_true_eq_false] at hc <;> first | exact absurd rfl hc | (exfalso; first | exact absurd rfl hc | omega) | skip) | skip)) | (refine And.intro zp1 ?_) | (apply And.intro) | (intro s hs; skip) | (refine Exists.intro _ (And.intro ⟨rfl, rfl, rfl⟩ ?_)))
   refine sem_step (wd := 1) (Q := mkQ (LMa g0)) (by decide) tysOk (q_of (LMa_ok g0)) mixed ?_
   repeat' (first | (simp only [w2]) | (apply And.intro <;> intro hc <;> (first | exact Bool.noConfusion hc | (exfalso; first | exact absurd rfl hc | omega) | (simp only [zb0, ne_eq, not_true_eq_false] at hc <;> first | exact absurd rfl hc | (exfalso; first | exact absurd rfl hc | omega) | skip) | skip)) | (refine And.intro zp1 ?_) | (apply And.intro) | (intro s hs; (have q : tr = s := hT.symm.trans hs.symm; clear hs; subst q)) | (refine Exists.intro _ (And.intro ⟨rfl, rfl, rfl⟩ ?_)))
   refine sem_step (wd := 1) (Q := mkQ (LMa g0)) (by decide) tysOk (q_of (LMa_ok g0)) mixed ?_
   repeat' (first | (simp only [w2]) | (apply And.intro <;> intro hc <;> (first | exact Bool.noConfusion hc | (exfalso; first | exact absurd rfl hc | omega) | (simp only [zb0, ne_eq, not_true_eq_false] at hc <;> first | exact absurd rfl hc | (exfalso; first | exact absurd rfl hc | omega) | skip) | skip)) | (refine And.intro zp1 ?_) | (apply And.intro) | (intro s hs; skip) | (refine Exists.intro _ (And.intro ⟨rfl, rfl, rfl⟩ ?_)))
   refine sem_step (wd := 1) (Q := mkQ (LMa g0)) (by decide) tysOk (q_of (LMa_ok g0)) mixed ?_
   repeat' (first | (simp only [w2, w3]) | (apply And.intro <;> intro hc <;> (first | exact Bool.noConfusion hc | (exfalso; first | exact absurd rfl hc | omega) | (simp only [zb0, ne_eq, not_true_eq_false] at hc <;> first | exact absurd rfl hc | (exfalso; first | exact absurd rfl hc | omega) | skip) | skip)) | (refine And.intro zp1 ?_) | (apply And.intro) | (intro s hs; (have q := rd_plc hs (toN_row0 neH_rd _) hP; clear hs; subst q)) | (refine Exists.intro _ (And.intro ⟨rfl, rfl, rfl⟩ ?_)))
   . exact fun _ _ => ⟨rfl, okD_sl _⟩
   . exact Eq.mpr (congrArg (fun z : List Hel => z.length <= 9223372036854775807) (toN_row0 neH_rd _)) (by omega)
   refine sem_step (wd := 1) (Q := mkQ (LMa g0)) (by decide) tysOk (q_of (LMa_ok g0)) mixed ?_
   repeat' (first | (simp only [w2, w3]) | (apply And.intro <;> intro hc <;> (first | exact Bool.noConfusion hc | (exfalso; first | exact absurd rfl hc | omega) | (simp only [zb0, ne_eq, not_true_eq_false] at hc <;> first | exact absurd rfl hc | (exfalso; first | exact absurd rfl hc | omega) | skip) | skip)) | (refine And.intro zp1 ?_) | (apply And.intro) | (intro s hs; skip) | (refine Exists.intro _ (And.intro ⟨rfl, rfl, rfl⟩ ?_)))
   refine sem_step (wd := 1) (Q := mkQ (LMa g0)) (by decide) tysOk (q_of (LMa_ok g0)) mixed ?_
   repeat' (first | (simp only [w2, w3]) | (apply And.intro <;> intro hc <;> (first | exact Bool.noConfusion hc | (exfalso; first | exact absurd rfl hc | omega) | (simp only [zb0, ne_eq, not_true_eq_false] at hc <;> first | exact absurd rfl hc | (exfalso; first | exact absurd rfl hc | omega) | skip) | skip)) | (refine And.intro zp1 ?_) | (apply And.intro) | (intro s hs; skip) | (refine Exists.intro _ (And.intro ⟨rfl, rfl, rfl⟩ ?_)))
   refine sem_exec (wd := 1) (Q := mkQ (LMa g0)) (by decide) tysOk (q_of (LMa_ok g0)) mixed ?_
   repeat' (first | (simp only [w2, w3]) | (apply And.intro <;> intro hc <;> (first | exact Bool.noConfusion hc | (exfalso; first | exact absurd rfl hc | omega) | (simp only [zb0, ne_eq, not_true_eq_false] at hc <;> first | exact absurd rfl hc | (exfalso; first | exact absurd rfl hc | omega) | skip) | skip)) | (refine And.intro zp1 ?_) | (apply And.intro) | (intro s hs; skip) | (refine Exists.intro _ (And.intro ⟨rfl, rfl, rfl⟩ ?_)))
   conv => whnf
   have hAl : (addSd sd (newH c now draw) i).held.length = sd.held.length + 1 := insA_len hle1
   refine fin_acc (s := addSd sd (newH c now draw) i) (d := 44) hR2 ha rfl (fun p h j => (updE_ne h).trans (rowA_ne h)) rfl rfl (by rw [hAl]; rfl) rfl rfl hAl.symm rfl fun q hq j hj => ?_
   rw [hAl] at hq
   show LeC _ _ (rowN neH (insA i (newH c now draw) sd.held) q j)
   refine ins_cells (r := rowN neH sd.held) hle1 ?_ hq (fun h => ?_) (fun h => ?_) (fun h => ?_)
   . show min (sd.held.length + 1 - i) (sd.held.length + 1 - (i + 1)) = _
     omega
   . rw [show rowN neH (insA i (newH c now draw) sd.held) q j = rowN neH sd.held q j from congrArg (fun z => neH.cell z j) (insA_lt hle1 h)]
     exact (neH.sh _ j hj).le
   . subst h
     rw [show rowN neH (insA q (newH c now draw) sd.held) q j = neH.cell (newH c now draw) j from congrArg (fun z => neH.cell z j) (insA_eq hle1)]
     have e0 : newH c now draw = ⟨c.num, c.data, tr.1, if 1099511627776 < now + 20 then 1099511627776 else now + 20⟩ := by unfold newH; rw [hT]
     rw [e0]
     iterate 11 (rcases j with _ | j; · first | exact leC_int rfl | exact leC_bool rfl | exact leC_os_sl rfl rfl rfl (by first | rfl | exact Nat.zero_add _) (by first | exact Nat.le_refl _ | (simp; done)) fun q hq j hj => leC_cell (E := eB) (congrArg (fun z => c.data.getD z default) (Nat.zero_add q)))
     exact absurd hj (by omega)
   . rw [show rowN neH (insA i (newH c now draw) sd.held) q j = rowN neH sd.held (q - 1) j from congrArg (fun z => neH.cell z j) (insA_gt hle1 h)]
     exact (neH.sh _ j hj).le
theorem acc3_7 (g0 : Nat) (L : List Sed) (a : Nat) (sd : Sed) (now : Int) (c : Cas) (deaf : Bool) (draw : Int) (hI : AcJ L a sd now c draw) (R : List Sed × Bool × Int) (hR : R = (L.set a (if deaf = true then raiseS sd (c.num + 1) else addSd sd (newH c now draw) (plcH c.num sd.held 0).1), !deaf, 0)) (a3 : a = 7) :
 Sem Try.prog Try.f11.ntmps 0 (dropC 11 (Try.f11.body.getD Code.ret)) (SB L a sd now c deaf draw ()).fr (SB L a sd now c deaf draw ()).H (SB L a sd now c deaf draw ()).nx (endH T Try.f11.results.toList fun x H _ => FinN (some R.1.length) (encAc R) (entN neS 78 R.1) x H) := by
 obtain ⟨ha, hn, hk, hh, hnum, hd, hnow, hdr⟩ := hI
 unfold SB
 subst a3
 have w1 : IntKind.i64.wrap (c.num + 1) = c.num + 1 := IntWalk.i64_in _ (by omega)
 have w2 : IntKind.i64.wrap (now + 20) = now + 20 := IntWalk.i64_in _ (by omega)
 cases deaf with
 | true =>
   refine sem_step (wd := 1024) (Q := mkQ (LMa g0)) (by decide) tysOk (q_of (LMa_ok g0)) mixed ?_
   repeat' (first | (simp only [w1]) | (apply And.intro <;> intro hc <;> (first | exact Bool.noConfusion hc | (exfalso; first | exact absurd rfl hc | omega) | (simp only [zb0, ne_eq, not_true_eq_false] at hc <;> first | exact absurd rfl hc | (exfalso; first | exact absurd rfl hc | omega) | skip) | skip)) | (refine And.intro zp1 ?_) | (apply And.intro) | (intro s hs; skip) | (refine Exists.intro _ (And.intro ⟨rfl, rfl, rfl⟩ ?_)))
   . exact rfl
   . conv => whnf
     refine fin_acc (s := sd) (d := 2) (hR.trans ?_) ha rfl (fun p h j => rowA_ne h) rfl rfl rfl rfl rfl rfl rfl fun q hq j hj => (neH.sh _ j hj).le
     rw [if_pos rfl, show raiseS sd (c.num + 1) = sd from if_pos hc]; rfl
   . exact ⟨rfl, okD_sl _⟩
   . exact Eq.mpr (congrArg KpI (toN_row0 neH_rd _)) hk
   . conv => whnf
     have q : sd.held.filter (wantB (some (c.num + 1))) = s := (hs.trans (by rw [toN_row0 neH_rd])).symm
     clear hs
     refine fin_acc (s := ⟨sd.id, c.num + 1, s⟩) (d := 5141) (hR.trans ?_) ha rfl (fun p h j => (updE_ne h).trans ((updE_ne h).trans (rowA_ne h))) rfl rfl rfl rfl rfl rfl rfl fun q hq j hj => (neH.sh _ j hj).le
     rw [if_pos rfl, show raiseS sd (c.num + 1) = ⟨sd.id, c.num + 1, s⟩ from (if_neg hc).trans (by rw [q])]; rfl
 | false =>
   obtain ⟨⟨i, b⟩, hP⟩ : ∃ P, plcH c.num sd.held 0 = P := ⟨_, rfl⟩
   have hle := plc_le (id := c.num) (L := sd.held) (k := 0)
   rw [hP, Nat.zero_add] at hle
   dsimp only at hle
   obtain ⟨hle1, _, _⟩ := hle
   have hR2 : R = (L.set 7 (addSd sd (newH c now draw) i), true, 0) := by rw [hR, hP]; rfl
   clear hR
   have w3 : IntKind.i64.wrap ((i : Int) + 1) = ((i + 1 : Nat) : Int) := (IntWalk.i64_in _ (by omega)).trans (by omega)
   obtain ⟨tr, hT⟩ : ∃ r, newT 2 3 2 now draw = r := ⟨_, rfl⟩
   refine sem_step (wd := 1) (Q := mkQ (LMa g0)) (by decide) tysOk (q_of (LMa_ok g0)) mixed ?_
   repeat' (first | (simp only [w2]) | (apply And.intro <;> intro hc <;> (first | exact Bool.noConfusion hc | (exfalso; first | exact absurd rfl hc | omega) | (simp only [zb0, ne_eq, not_true_eq_false] at hc <;> first | exact absurd rfl hc | (exfalso; first | exact absurd rfl hc | omega) | skip) | skip)) | (refine And.intro zp1 ?_) | (apply And.intro) | (intro s hs; skip) | (refine Exists.intro _ (And.intro ⟨rfl, rfl, rfl⟩ ?_)))
   refine sem_step (wd := 1) (Q := mkQ (LMa g0)) (by decide) tysOk (q_of (LMa_ok g0)) mixed ?_
   repeat' (first | (simp only [w2]) | (apply And.intro <;> intro hc <;> (first | exact Bool.noConfusion hc | (exfalso; first | exact absurd rfl hc | omega) | (simp only [zb0, ne_eq, not_true_eq_false] at hc <;> first | exact absurd rfl hc | (exfalso; first | exact absurd rfl hc | omega) | skip) | skip)) | (refine And.intro zp1 ?_) | (apply And.intro) | (intro s hs; (have q : tr = s := hT.symm.trans hs.symm; clear hs; subst q)) | (refine Exists.intro _ (And.intro ⟨rfl, rfl, rfl⟩ ?_)))
   refine sem_step (wd := 1) (Q := mkQ (LMa g0)) (by decide) tysOk (q_of (LMa_ok g0)) mixed ?_
   repeat' (first | (simp only [w2]) | (apply And.intro <;> intro hc <;> (first | exact Bool.noConfusion hc | (exfalso; first | exact absurd rfl hc | omega) | (simp only [zb0, ne_eq, not_true_eq_false] at hc <;> first | exact absurd rfl hc | (exfalso; first | exact absurd rfl hc | omega) | skip) | skip)) | (refine And.intro zp1 ?_) | (apply And.intro) | (intro s hs; skip) | (refine Exists.intro _ (And.intro ⟨rfl, rfl, rfl⟩ ?_)))
   refine sem_step (wd := 1) (Q := mkQ (LMa g0)) (by decide) tysOk (q_of (LMa_ok g0)) mixed ?_
   repeat' (first | (simp only [w2, w3]) | (apply And.intro <;> intro hc <;> (first | exact Bool.noConfusion hc | (exfalso; first | exact absurd rfl hc | omega) | (simp only [zb0, ne_eq, not_true_eq_false] at hc <;> first | exact absurd rfl hc | (exfalso; first | exact absurd rfl hc | omega) | skip) | skip)) | (refine And.intro zp1 ?_) | (apply And.intro) | (intro s hs; (have q := rd_plc hs (toN_row0 neH_rd _) hP; clear hs; subst q)) | (refine Exists.intro _ (And.intro ⟨rfl, rfl, rfl⟩ ?_)))
   . exact fun _ _ => ⟨rfl, okD_sl _⟩
   . exact Eq.mpr (congrArg (fun z : List Hel => z.length <= 9223372036854775807) (toN_row0 neH_rd _)) (by omega)
   refine sem_step (wd := 1) (Q := mkQ (LMa g0)) (by decide) tysOk (q_of (LMa_ok g0)) mixed ?_
   repeat' (first | (simp only [w2, w3]) | (apply And.intro <;> intro hc <;> (first | exact Bool.noConfusion hc | (exfalso; first | exact absurd rfl hc | omega) | (simp only [zb0, ne_eq, not_true_eq_false] at hc <;> first | exact absurd rfl hc | (exfalso; first | exact absurd rfl hc | omega) | skip) | skip)) | (refine And.intro zp1 ?_) | (apply And.intro) | (intro s hs; skip) | (refine Exists.intro _ (And.intro ⟨rfl, rfl, rfl⟩ ?_)))
   refine sem_step (wd := 1) (Q := mkQ (LMa g0)) (by decide) tysOk (q_of (LMa_ok g0)) mixed ?_
   repeat' (first | (simp only [w2, w3]) | (apply And.intro <;> intro hc <;> (first | exact Bool.noConfusion hc | (exfalso; first | exact absurd rfl hc | omega) | (simp only [zb0, ne_eq, not_true_eq_false] at hc <;> first | exact absurd rfl hc | (exfalso; first | exact absurd rfl hc | omega) | skip) | skip)) | (refine And.intro zp1 ?_) | (apply And.intro) | (intro s hs; skip) | (refine Exists.intro _ (And.intro ⟨rfl, rfl, rfl⟩ ?_)))
   refine sem_exec (wd := 1) (Q := mkQ (LMa g0)) (by decide) tysOk (q_of (LMa_ok g0)) mixed ?_
   repeat' (first | (simp only [w2, w3]) | (apply And.intro <;> intro hc <;> (first | exact Bool.noConfusion hc | (exfalso; first | exact absurd rfl hc | omega) | (simp only [zb0, ne_eq, not_true_eq_false] at hc <;> first | exact absurd rfl hc | (exfalso; first | exact absurd rfl hc | omega) | skip) | skip)) | (refine And.intro zp1 ?_) | (apply And.intro) | (intro s hs; skip) | (refine Exists.intro _ (And.intro ⟨rfl, rfl, rfl⟩ ?_)))
   conv => whnf
   have hAl : (addSd sd (newH c now draw) i).held.length = sd.held.length + 1 := insA_len hle1
   refine fin_acc (s := addSd sd (newH c now draw) i) (d := 44) hR2 ha rfl (fun p h j => (updE_ne h).trans (rowA_ne h)) rfl rfl (by rw [hAl]; rfl) rfl rfl hAl.symm rfl fun q hq j hj => ?_
   rw [hAl] at hq
   show LeC _ _ (rowN neH (insA i (newH c now draw) sd.held) q j)
   refine ins_cells (r := rowN neH sd.held) hle1 ?_ hq (fun h => ?_) (fun h => ?_) (fun h => ?_)
   . show min (sd.held.length + 1 - i) (sd.held.length + 1 - (i + 1)) = _
     omega
   . rw [show rowN neH (insA i (newH c now draw) sd.held) q j = rowN neH sd.held q j from congrArg (fun z => neH.cell z j) (insA_lt hle1 h)]
     exact (neH.sh _ j hj).le
   . subst h
     rw [show rowN neH (insA q (newH c now draw) sd.held) q j = neH.cell (newH c now draw) j from congrArg (fun z => neH.cell z j) (insA_eq hle1)]
     have e0 : newH c now draw = ⟨c.num, c.data, tr.1, if 1099511627776 < now + 20 then 1099511627776 else now + 20⟩ := by unfold newH; rw [hT]
     rw [e0]
     iterate 11 (rcases j with _ | j; · first | exact leC_int rfl | exact leC_bool rfl | exact leC_os_sl rfl rfl rfl (by first | rfl | exact Nat.zero_add _) (by first | exact Nat.le_refl _ | (simp; done)) fun q hq j hj => leC_cell (E := eB) (congrArg (fun z => c.data.getD z default) (Nat.zero_add q)))
     exact absurd hj (by omega)
   . rw [show rowN neH (insA i (newH c now draw) sd.held) q j = rowN neH sd.held (q - 1) j from congrArg (fun z => neH.cell z j) (insA_gt hle1 h)]
     exact (neH.sh _ j hj).le
theorem acc3_8 (g0 : Nat) (L : List Sed) (a : Nat) (sd : Sed) (now : Int) (c : Cas) (deaf : Bool) (draw : Int) (hI : AcJ L a sd now c draw) (R : List Sed × Bool × Int) (hR : R = (L.set a (if deaf = true then raiseS sd (c.num + 1) else addSd sd (newH c now draw) (plcH c.num sd.held 0).1), !deaf, 0)) (a3 : a = 8) :
 Sem Try.prog Try.f11.ntmps 0 (dropC 11 (Try.f11.body.getD Code.ret)) (SB L a sd now c deaf draw ()).fr (SB L a sd now c deaf draw ()).H (SB L a sd now c deaf draw ()).nx (endH T Try.f11.results.toList fun x H _ => FinN (some R.1.length) (encAc R) (entN neS 78 R.1) x H) := by
 obtain ⟨ha, hn, hk, hh, hnum, hd, hnow, hdr⟩ := hI
 unfold SB
 subst a3
 have w1 : IntKind.i64.wrap (c.num + 1) = c.num + 1 := IntWalk.i64_in _ (by omega)
 have w2 : IntKind.i64.wrap (now + 20) = now + 20 := IntWalk.i64_in _ (by omega)
 cases deaf with
 | true =>
   refine sem_step (wd := 1024) (Q := mkQ (LMa g0)) (by decide) tysOk (q_of (LMa_ok g0)) mixed ?_
   repeat' (first | (simp only [w1]) | (apply And.intro <;> intro hc <;> (first | exact Bool.noConfusion hc | (exfalso; first | exact absurd rfl hc | omega) | (simp only [zb0, ne_eq, not_true_eq_false] at hc <;> first | exact absurd rfl hc | (exfalso; first | exact absurd rfl hc | omega) | skip) | skip)) | (refine And.intro zp1 ?_) | (apply And.intro) | (intro s hs; skip) | (refine Exists.intro _ (And.intro ⟨rfl, rfl, rfl⟩ ?_)))
   . exact rfl
   . conv => whnf
     refine fin_acc (s := sd) (d := 2) (hR.trans ?_) ha rfl (fun p h j => rowA_ne h) rfl rfl rfl rfl rfl rfl rfl fun q hq j hj => (neH.sh _ j hj).le
     rw [if_pos rfl, show raiseS sd (c.num + 1) = sd from if_pos hc]; rfl
   . exact ⟨rfl, okD_sl _⟩
   . exact Eq.mpr (congrArg KpI (toN_row0 neH_rd _)) hk
   . conv => whnf
     have q : sd.held.filter (wantB (some (c.num + 1))) = s := (hs.trans (by rw [toN_row0 neH_rd])).symm
     clear hs
     refine fin_acc (s := ⟨sd.id, c.num + 1, s⟩) (d := 5141) (hR.trans ?_) ha rfl (fun p h j => (updE_ne h).trans ((updE_ne h).trans (rowA_ne h))) rfl rfl rfl rfl rfl rfl rfl fun q hq j hj => (neH.sh _ j hj).le
     rw [if_pos rfl, show raiseS sd (c.num + 1) = ⟨sd.id, c.num + 1, s⟩ from (if_neg hc).trans (by rw [q])]; rfl
 | false =>
   obtain ⟨⟨i, b⟩, hP⟩ : ∃ P, plcH c.num sd.held 0 = P := ⟨_, rfl⟩
   have hle := plc_le (id := c.num) (L := sd.held) (k := 0)
   rw [hP, Nat.zero_add] at hle
   dsimp only at hle
   obtain ⟨hle1, _, _⟩ := hle
   have hR2 : R = (L.set 8 (addSd sd (newH c now draw) i), true, 0) := by rw [hR, hP]; rfl
   clear hR
   have w3 : IntKind.i64.wrap ((i : Int) + 1) = ((i + 1 : Nat) : Int) := (IntWalk.i64_in _ (by omega)).trans (by omega)
   obtain ⟨tr, hT⟩ : ∃ r, newT 2 3 2 now draw = r := ⟨_, rfl⟩
   refine sem_step (wd := 1) (Q := mkQ (LMa g0)) (by decide) tysOk (q_of (LMa_ok g0)) mixed ?_
   repeat' (first | (simp only [w2]) | (apply And.intro <;> intro hc <;> (first | exact Bool.noConfusion hc | (exfalso; first | exact absurd rfl hc | omega) | (simp only [zb0, ne_eq, not_true_eq_false] at hc <;> first | exact absurd rfl hc | (exfalso; first | exact absurd rfl hc | omega) | skip) | skip)) | (refine And.intro zp1 ?_) | (apply And.intro) | (intro s hs; skip) | (refine Exists.intro _ (And.intro ⟨rfl, rfl, rfl⟩ ?_)))
   refine sem_step (wd := 1) (Q := mkQ (LMa g0)) (by decide) tysOk (q_of (LMa_ok g0)) mixed ?_
   repeat' (first | (simp only [w2]) | (apply And.intro <;> intro hc <;> (first | exact Bool.noConfusion hc | (exfalso; first | exact absurd rfl hc | omega) | (simp only [zb0, ne_eq, not_true_eq_false] at hc <;> first | exact absurd rfl hc | (exfalso; first | exact absurd rfl hc | omega) | skip) | skip)) | (refine And.intro zp1 ?_) | (apply And.intro) | (intro s hs; (have q : tr = s := hT.symm.trans hs.symm; clear hs; subst q)) | (refine Exists.intro _ (And.intro ⟨rfl, rfl, rfl⟩ ?_)))
   refine sem_step (wd := 1) (Q := mkQ (LMa g0)) (by decide) tysOk (q_of (LMa_ok g0)) mixed ?_
   repeat' (first | (simp only [w2]) | (apply And.intro <;> intro hc <;> (first | exact Bool.noConfusion hc | (exfalso; first | exact absurd rfl hc | omega) | (simp only [zb0, ne_eq, not_true_eq_false] at hc <;> first | exact absurd rfl hc | (exfalso; first | exact absurd rfl hc | omega) | skip) | skip)) | (refine And.intro zp1 ?_) | (apply And.intro) | (intro s hs; skip) | (refine Exists.intro _ (And.intro ⟨rfl, rfl, rfl⟩ ?_)))
   refine sem_step (wd := 1) (Q := mkQ (LMa g0)) (by decide) tysOk (q_of (LMa_ok g0)) mixed ?_
   repeat' (first | (simp only [w2, w3]) | (apply And.intro <;> intro hc <;> (first | exact Bool.noConfusion hc | (exfalso; first | exact absurd rfl hc | omega) | (simp only [zb0, ne_eq, not_true_eq_false] at hc <;> first | exact absurd rfl hc | (exfalso; first | exact absurd rfl hc | omega) | skip) | skip)) | (refine And.intro zp1 ?_) | (apply And.intro) | (intro s hs; (have q := rd_plc hs (toN_row0 neH_rd _) hP; clear hs; subst q)) | (refine Exists.intro _ (And.intro ⟨rfl, rfl, rfl⟩ ?_)))
   . exact fun _ _ => ⟨rfl, okD_sl _⟩
   . exact Eq.mpr (congrArg (fun z : List Hel => z.length <= 9223372036854775807) (toN_row0 neH_rd _)) (by omega)
   refine sem_step (wd := 1) (Q := mkQ (LMa g0)) (by decide) tysOk (q_of (LMa_ok g0)) mixed ?_
   repeat' (first | (simp only [w2, w3]) | (apply And.intro <;> intro hc <;> (first | exact Bool.noConfusion hc | (exfalso; first | exact absurd rfl hc | omega) | (simp only [zb0, ne_eq, not_true_eq_false] at hc <;> first | exact absurd rfl hc | (exfalso; first | exact absurd rfl hc | omega) | skip) | skip)) | (refine And.intro zp1 ?_) | (apply And.intro) | (intro s hs; skip) | (refine Exists.intro _ (And.intro ⟨rfl, rfl, rfl⟩ ?_)))
   refine sem_step (wd := 1) (Q := mkQ (LMa g0)) (by decide) tysOk (q_of (LMa_ok g0)) mixed ?_
   repeat' (first | (simp only [w2, w3]) | (apply And.intro <;> intro hc <;> (first | exact Bool.noConfusion hc | (exfalso; first | exact absurd rfl hc | omega) | (simp only [zb0, ne_eq, not_true_eq_false] at hc <;> first | exact absurd rfl hc | (exfalso; first | exact absurd rfl hc | omega) | skip) | skip)) | (refine And.intro zp1 ?_) | (apply And.intro) | (intro s hs; skip) | (refine Exists.intro _ (And.intro ⟨rfl, rfl, rfl⟩ ?_)))
   refine sem_exec (wd := 1) (Q := mkQ (LMa g0)) (by decide) tysOk (q_of (LMa_ok g0)) mixed ?_
   repeat' (first | (simp only [w2, w3]) | (apply And.intro <;> intro hc <;> (first | exact Bool.noConfusion hc | (exfalso; first | exact absurd rfl hc | omega) | (simp only [zb0, ne_eq, not_true_eq_false] at hc <;> first | exact absurd rfl hc | (exfalso; first | exact absurd rfl hc | omega) | skip) | skip)) | (refine And.intro zp1 ?_) | (apply And.intro) | (intro s hs; skip) | (refine Exists.intro _ (And.intro ⟨rfl, rfl, rfl⟩ ?_)))
   conv => whnf
   have hAl : (addSd sd (newH c now draw) i).held.length = sd.held.length + 1 := insA_len hle1
   refine fin_acc (s := addSd sd (newH c now draw) i) (d := 44) hR2 ha rfl (fun p h j => (updE_ne h).trans (rowA_ne h)) rfl rfl (by rw [hAl]; rfl) rfl rfl hAl.symm rfl fun q hq j hj => ?_
   rw [hAl] at hq
   show LeC _ _ (rowN neH (insA i (newH c now draw) sd.held) q j)
   refine ins_cells (r := rowN neH sd.held) hle1 ?_ hq (fun h => ?_) (fun h => ?_) (fun h => ?_)
   . show min (sd.held.length + 1 - i) (sd.held.length + 1 - (i + 1)) = _
     omega
   . rw [show rowN neH (insA i (newH c now draw) sd.held) q j = rowN neH sd.held q j from congrArg (fun z => neH.cell z j) (insA_lt hle1 h)]
     exact (neH.sh _ j hj).le
   . subst h
     rw [show rowN neH (insA q (newH c now draw) sd.held) q j = neH.cell (newH c now draw) j from congrArg (fun z => neH.cell z j) (insA_eq hle1)]
     have e0 : newH c now draw = ⟨c.num, c.data, tr.1, if 1099511627776 < now + 20 then 1099511627776 else now + 20⟩ := by unfold newH; rw [hT]
     rw [e0]
     iterate 11 (rcases j with _ | j; · first | exact leC_int rfl | exact leC_bool rfl | exact leC_os_sl rfl rfl rfl (by first | rfl | exact Nat.zero_add _) (by first | exact Nat.le_refl _ | (simp; done)) fun q hq j hj => leC_cell (E := eB) (congrArg (fun z => c.data.getD z default) (Nat.zero_add q)))
     exact absurd hj (by omega)
   . rw [show rowN neH (insA i (newH c now draw) sd.held) q j = rowN neH sd.held (q - 1) j from congrArg (fun z => neH.cell z j) (insA_gt hle1 h)]
     exact (neH.sh _ j hj).le
theorem acc3 (g0 : Nat) (L : List Sed) (a : Nat) (sd : Sed) (now : Int) (c : Cas) (deaf : Bool) (draw : Int) (hI : AcJ L a sd now c draw) (R : List Sed × Bool × Int) (hR : R = (L.set a (if deaf = true then raiseS sd (c.num + 1) else addSd sd (newH c now draw) (plcH c.num sd.held 0).1), !deaf, 0)) :
 Sem Try.prog Try.f11.ntmps 0 (dropC 11 (Try.f11.body.getD Code.ret)) (SB L a sd now c deaf draw ()).fr (SB L a sd now c deaf draw ()).H (SB L a sd now c deaf draw ()).nx (endH T Try.f11.results.toList fun x H _ => FinN (some R.1.length) (encAc R) (entN neS 78 R.1) x H) := by
 have h : a = 0 \/ a = 1 \/ a = 2 \/ a = 3 \/ a = 4 \/ a = 5 \/ a = 6 \/ a = 7 \/ a = 8 := by have := hI.lt; have := hI.n; omega
 rcases h with h | h | h | h | h | h | h | h | h
 . exact acc3_0 g0 L a sd now c deaf draw hI R hR h
 . exact acc3_1 g0 L a sd now c deaf draw hI R hR h
 . exact acc3_2 g0 L a sd now c deaf draw hI R hR h
 . exact acc3_3 g0 L a sd now c deaf draw hI R hR h
 . exact acc3_4 g0 L a sd now c deaf draw hI R hR h
 . exact acc3_5 g0 L a sd now c deaf draw hI R hR h
 . exact acc3_6 g0 L a sd now c deaf draw hI R hR h
 . exact acc3_7 g0 L a sd now c deaf draw hI R hR h
 . exact acc3_8 g0 L a sd now c deaf draw hI R hR h
theorem acc2_0 (g0 : Nat) (L : List Sed) (a : Nat) (now : Int) (c : Cas) (deaf : Bool) (draw : Int) (hI : AcI L a now c draw) (R : List Sed × Bool × Int) (hR : R = (L.set a (accS (L.getD a default) now c deaf draw).1, (accS (L.getD a default) now c deaf draw).2, 0)) (a3 : a = 0) :
 Sem Try.prog Try.f11.ntmps 0 (dropC 7 (Try.f11.body.getD Code.ret)) (SA L a now c deaf draw ()).fr (SA L a now c deaf draw ()).H (SA L a now c deaf draw ()).nx (endH T Try.f11.results.toList fun x H _ => FinN (some R.1.length) (encAc R) (entN neS 78 R.1) x H) := by
 obtain ⟨ha, hn, hk, hh, hmn, hnum, hd, hnow, hdr⟩ := hI
 unfold SA
 rw [entG_A]
 obtain ⟨sd, es⟩ : ∃ s, L.getD a default = s := ⟨_, rfl⟩
 rw [es] at hk hh hmn hR ⊢
 subst a3
 refine sem_step (wd := 1) (Q := mkQ (LMa g0)) (by decide) tysOk (q_of (LMa_ok g0)) mixed ?_
 repeat' (first | (apply And.intro <;> intro hc <;> (first | exact Bool.noConfusion hc | (exfalso; first | exact absurd rfl hc | omega) | (simp only [zb0, ne_eq, not_true_eq_false] at hc <;> first | exact absurd rfl hc | (exfalso; first | exact absurd rfl hc | omega) | skip) | skip)) | (refine And.intro zp1 ?_) | (apply And.intro) | (intro s hs; skip) | (refine Exists.intro _ (And.intro ⟨rfl, rfl, rfl⟩ ?_)))
 refine sem_step (wd := 1) (Q := mkQ (LMa g0)) (by decide) tysOk (q_of (LMa_ok g0)) mixed ?_
 repeat' (first | (apply And.intro <;> intro hc <;> (first | exact Bool.noConfusion hc | (exfalso; first | exact absurd rfl hc | omega) | (simp only [zb0, ne_eq, not_true_eq_false] at hc <;> first | exact absurd rfl hc | (exfalso; first | exact absurd rfl hc | omega) | skip) | skip)) | (refine And.intro zp1 ?_) | (apply And.intro) | (intro s hs; skip) | (refine Exists.intro _ (And.intro ⟨rfl, rfl, rfl⟩ ?_)))
 . refine fin_acc (s := sd) (d := 2) (hR.trans ?_) ha rfl (fun p h j => rowA_ne h) rfl rfl rfl rfl rfl rfl rfl fun q hq j hj => (neH.sh _ j hj).le
   unfold accS
   rw [if_pos hc]
 have hge := hc
 have w1 : IntKind.i64.wrap (c.num - 31) = c.num - 31 := IntWalk.i64_in _ (by omega)
 obtain ⟨⟨i, b⟩, hP⟩ : ∃ P, plcH c.num sd.held 0 = P := ⟨_, rfl⟩
 have hle := plc_le (id := c.num) (L := sd.held) (k := 0)
 rw [hP, Nat.zero_add] at hle
 dsimp only at hle
 obtain ⟨hle1, hle2, _⟩ := hle
 cases b with
 | true =>
   have hil := hle2 rfl
   clear hle2
   have hR2 : R = (L.set 0 (hearS sd i), false, 0) := by
    rw [hR]; unfold accS; rw [if_neg (by omega), hP]; rfl
   refine sem_step (wd := 1) (Q := mkQ (LMa g0)) (by decide) tysOk (q_of (LMa_ok g0)) mixed ?_
   repeat' (first | (apply And.intro <;> intro hc <;> (first | exact Bool.noConfusion hc | (exfalso; first | exact absurd rfl hc | omega) | (simp only [zb0, ne_eq, not_true_eq_false] at hc <;> first | exact absurd rfl hc | (exfalso; first | exact absurd rfl hc | omega) | skip) | skip)) | (refine And.intro zp1 ?_) | (apply And.intro) | (intro s hs; (first | (have q := rd_plc hs (toN_row0 neH_rd _) hP; clear hs; subst q) | (have q := rd_hear hs (Nat.zero_add i); clear hs; subst q))) | (refine Exists.intro _ (And.intro ⟨rfl, rfl, rfl⟩ ?_)))
   . exact fun _ _ => ⟨rfl, okD_sl _⟩
   . exact Eq.mpr (congrArg (fun z : List Hel => z.length <= 9223372036854775807) (toN_row0 neH_rd _)) (by omega)
   conv => whnf
   have hLh : (hearS sd i).held.length = sd.held.length := List.length_set
   refine fin_acc (s := hearS sd i) (d := 2) hR2 ha rfl (fun p h j => rowA_ne h) rfl rfl (by rw [hLh]; rfl) rfl rfl hLh.symm rfl fun q hq j hj => hel_row hil hj
 | false =>
   clear hle2
   refine sem_step (wd := 1) (Q := mkQ (LMa g0)) (by decide) tysOk (q_of (LMa_ok g0)) mixed ?_
   repeat' (first | (apply And.intro <;> intro hc <;> (first | exact Bool.noConfusion hc | (exfalso; first | exact absurd rfl hc | omega) | (simp only [zb0, ne_eq, not_true_eq_false] at hc <;> first | exact absurd rfl hc | (exfalso; first | exact absurd rfl hc | omega) | skip) | skip)) | (refine And.intro zp1 ?_) | (apply And.intro) | (intro s hs; (first | (have q := rd_plc hs (toN_row0 neH_rd _) hP; clear hs; subst q))) | (refine Exists.intro _ (And.intro ⟨rfl, rfl, rfl⟩ ?_)))
   . exact fun _ _ => ⟨rfl, okD_sl _⟩
   . exact Eq.mpr (congrArg (fun z : List Hel => z.length <= 9223372036854775807) (toN_row0 neH_rd _)) (by omega)
   change Sem _ _ _ _ _ _ _ _
   refine sem_cut (wd := 1024) (Q := mkQ (LMa g0)) (by decide) tysOk (q_of (LMa_ok g0)) (mono_of (LMa_ok g0)) mixed (SB L 0 (raiseS sd (c.num - 31)) now c deaf draw) (by intro _; rfl) ?_ ?_
   . repeat' (first | (simp only [w1]) | (apply And.intro <;> intro hc <;> (first | exact Bool.noConfusion hc | (exfalso; first | exact absurd rfl hc | omega) | (simp only [zb0, ne_eq, not_true_eq_false] at hc <;> first | exact absurd rfl hc | (exfalso; first | exact absurd rfl hc | omega) | skip) | skip)) | (refine And.intro zp1 ?_) | (apply And.intro) | (intro s hs; skip) | (refine Exists.intro _ (And.intro ⟨rfl, rfl, rfl⟩ ?_)))
     . exact rfl
     . conv => whnf
       rw [show raiseS sd (c.num - 31) = sd from if_pos hc]
       exact ⟨(), [], rfl, ⟨leF_int rfl, leF_bool rfl, leF_int rfl, leF_ptr rfl, leF_c (leC_os rfl rfl), leF_ptr rfl, trivial⟩, ⟨⟨rfl, leN_varA fun j hj => (neC.sh _ j hj).le⟩, ⟨rfl, ⟨rfl, rfl, rfl, rfl, fun p hp j hj => rowA_le hj rfl⟩⟩, ⟨rfl, leN_entN⟩, trivial⟩⟩
     . exact ⟨rfl, okD_sl _⟩
     . exact Eq.mpr (congrArg KpI (toN_row0 neH_rd _)) hk
     . conv => whnf
       have q : sd.held.filter (wantB (some (c.num - 31))) = s := (hs.trans (by rw [toN_row0 neH_rd])).symm
       clear hs
       rw [show raiseS sd (c.num - 31) = ⟨sd.id, c.num - 31, s⟩ from (if_neg hc).trans (by rw [q])]
       refine ⟨(), [(2, some 4141)], rfl, ⟨leF_int rfl, leF_bool rfl, leF_int rfl, leF_ptr rfl, leF_c (leC_os rfl rfl), leF_ptr rfl, trivial⟩, ⟨⟨rfl, leN_varA fun j hj => (neC.sh _ j hj).le⟩, ⟨rfl, ⟨rfl, rfl, rfl, rfl, fun p hp j hj => ?_⟩⟩, ⟨rfl, leN_entN⟩, trivial⟩⟩
       have hj : j < 3 := hj
       refine rowA_to hj (fun h => (updE_ne h).trans ((updE_ne h).trans (rowA_ne h))) fun h => ?_
       subst h
       rcases j with _ | _ | _ | j
       . exact leC_int rfl
       . exact leC_int rfl
       . exact leC_os rfl rfl
       . omega
   . intro _
     refine acc3 g0 L 0 (raiseS sd (c.num - 31)) now c deaf draw ⟨ha, hn, raise_k hk, raise_h hh, hnum, hd, hnow, hdr⟩ R ?_
     rw [hR]
     unfold accS
     rw [if_neg hge, hP]
     cases deaf <;> rfl
theorem acc2_1 (g0 : Nat) (L : List Sed) (a : Nat) (now : Int) (c : Cas) (deaf : Bool) (draw : Int) (hI : AcI L a now c draw) (R : List Sed × Bool × Int) (hR : R = (L.set a (accS (L.getD a default) now c deaf draw).1, (accS (L.getD a default) now c deaf draw).2, 0)) (a3 : a = 1) :
 Sem Try.prog Try.f11.ntmps 0 (dropC 7 (Try.f11.body.getD Code.ret)) (SA L a now c deaf draw ()).fr (SA L a now c deaf draw ()).H (SA L a now c deaf draw ()).nx (endH T Try.f11.results.toList fun x H _ => FinN (some R.1.length) (encAc R) (entN neS 78 R.1) x H) := by
 obtain ⟨ha, hn, hk, hh, hmn, hnum, hd, hnow, hdr⟩ := hI
 unfold SA
 rw [entG_A]
 obtain ⟨sd, es⟩ : ∃ s, L.getD a default = s := ⟨_, rfl⟩
 rw [es] at hk hh hmn hR ⊢
 subst a3
 refine sem_step (wd := 1) (Q := mkQ (LMa g0)) (by decide) tysOk (q_of (LMa_ok g0)) mixed ?_
 repeat' (first | (apply And.intro <;> intro hc <;> (first | exact Bool.noConfusion hc | (exfalso; first | exact absurd rfl hc | omega) | (simp only [zb0, ne_eq, not_true_eq_false] at hc <;> first | exact absurd rfl hc | (exfalso; first | exact absurd rfl hc | omega) | skip) | skip)) | (refine And.intro zp1 ?_) | (apply And.intro) | (intro s hs; skip) | (refine Exists.intro _ (And.intro ⟨rfl, rfl, rfl⟩ ?_)))
 refine sem_step (wd := 1) (Q := mkQ (LMa g0)) (by decide) tysOk (q_of (LMa_ok g0)) mixed ?_
 repeat' (first | (apply And.intro <;> intro hc <;> (first | exact Bool.noConfusion hc | (exfalso; first | exact absurd rfl hc | omega) | (simp only [zb0, ne_eq, not_true_eq_false] at hc <;> first | exact absurd rfl hc | (exfalso; first | exact absurd rfl hc | omega) | skip) | skip)) | (refine And.intro zp1 ?_) | (apply And.intro) | (intro s hs; skip) | (refine Exists.intro _ (And.intro ⟨rfl, rfl, rfl⟩ ?_)))
 . refine fin_acc (s := sd) (d := 2) (hR.trans ?_) ha rfl (fun p h j => rowA_ne h) rfl rfl rfl rfl rfl rfl rfl fun q hq j hj => (neH.sh _ j hj).le
   unfold accS
   rw [if_pos hc]
 have hge := hc
 have w1 : IntKind.i64.wrap (c.num - 31) = c.num - 31 := IntWalk.i64_in _ (by omega)
 obtain ⟨⟨i, b⟩, hP⟩ : ∃ P, plcH c.num sd.held 0 = P := ⟨_, rfl⟩
 have hle := plc_le (id := c.num) (L := sd.held) (k := 0)
 rw [hP, Nat.zero_add] at hle
 dsimp only at hle
 obtain ⟨hle1, hle2, _⟩ := hle
 cases b with
 | true =>
   have hil := hle2 rfl
   clear hle2
   have hR2 : R = (L.set 1 (hearS sd i), false, 0) := by
    rw [hR]; unfold accS; rw [if_neg (by omega), hP]; rfl
   refine sem_step (wd := 1) (Q := mkQ (LMa g0)) (by decide) tysOk (q_of (LMa_ok g0)) mixed ?_
   repeat' (first | (apply And.intro <;> intro hc <;> (first | exact Bool.noConfusion hc | (exfalso; first | exact absurd rfl hc | omega) | (simp only [zb0, ne_eq, not_true_eq_false] at hc <;> first | exact absurd rfl hc | (exfalso; first | exact absurd rfl hc | omega) | skip) | skip)) | (refine And.intro zp1 ?_) | (apply And.intro) | (intro s hs; (first | (have q := rd_plc hs (toN_row0 neH_rd _) hP; clear hs; subst q) | (have q := rd_hear hs (Nat.zero_add i); clear hs; subst q))) | (refine Exists.intro _ (And.intro ⟨rfl, rfl, rfl⟩ ?_)))
   . exact fun _ _ => ⟨rfl, okD_sl _⟩
   . exact Eq.mpr (congrArg (fun z : List Hel => z.length <= 9223372036854775807) (toN_row0 neH_rd _)) (by omega)
   conv => whnf
   have hLh : (hearS sd i).held.length = sd.held.length := List.length_set
   refine fin_acc (s := hearS sd i) (d := 2) hR2 ha rfl (fun p h j => rowA_ne h) rfl rfl (by rw [hLh]; rfl) rfl rfl hLh.symm rfl fun q hq j hj => hel_row hil hj
 | false =>
   clear hle2
   refine sem_step (wd := 1) (Q := mkQ (LMa g0)) (by decide) tysOk (q_of (LMa_ok g0)) mixed ?_
   repeat' (first | (apply And.intro <;> intro hc <;> (first | exact Bool.noConfusion hc | (exfalso; first | exact absurd rfl hc | omega) | (simp only [zb0, ne_eq, not_true_eq_false] at hc <;> first | exact absurd rfl hc | (exfalso; first | exact absurd rfl hc | omega) | skip) | skip)) | (refine And.intro zp1 ?_) | (apply And.intro) | (intro s hs; (first | (have q := rd_plc hs (toN_row0 neH_rd _) hP; clear hs; subst q))) | (refine Exists.intro _ (And.intro ⟨rfl, rfl, rfl⟩ ?_)))
   . exact fun _ _ => ⟨rfl, okD_sl _⟩
   . exact Eq.mpr (congrArg (fun z : List Hel => z.length <= 9223372036854775807) (toN_row0 neH_rd _)) (by omega)
   change Sem _ _ _ _ _ _ _ _
   refine sem_cut (wd := 1024) (Q := mkQ (LMa g0)) (by decide) tysOk (q_of (LMa_ok g0)) (mono_of (LMa_ok g0)) mixed (SB L 1 (raiseS sd (c.num - 31)) now c deaf draw) (by intro _; rfl) ?_ ?_
   . repeat' (first | (simp only [w1]) | (apply And.intro <;> intro hc <;> (first | exact Bool.noConfusion hc | (exfalso; first | exact absurd rfl hc | omega) | (simp only [zb0, ne_eq, not_true_eq_false] at hc <;> first | exact absurd rfl hc | (exfalso; first | exact absurd rfl hc | omega) | skip) | skip)) | (refine And.intro zp1 ?_) | (apply And.intro) | (intro s hs; skip) | (refine Exists.intro _ (And.intro ⟨rfl, rfl, rfl⟩ ?_)))
     . exact rfl
     . conv => whnf
       rw [show raiseS sd (c.num - 31) = sd from if_pos hc]
       exact ⟨(), [], rfl, ⟨leF_int rfl, leF_bool rfl, leF_int rfl, leF_ptr rfl, leF_c (leC_os rfl rfl), leF_ptr rfl, trivial⟩, ⟨⟨rfl, leN_varA fun j hj => (neC.sh _ j hj).le⟩, ⟨rfl, ⟨rfl, rfl, rfl, rfl, fun p hp j hj => rowA_le hj rfl⟩⟩, ⟨rfl, leN_entN⟩, trivial⟩⟩
     . exact ⟨rfl, okD_sl _⟩
     . exact Eq.mpr (congrArg KpI (toN_row0 neH_rd _)) hk
     . conv => whnf
       have q : sd.held.filter (wantB (some (c.num - 31))) = s := (hs.trans (by rw [toN_row0 neH_rd])).symm
       clear hs
       rw [show raiseS sd (c.num - 31) = ⟨sd.id, c.num - 31, s⟩ from (if_neg hc).trans (by rw [q])]
       refine ⟨(), [(2, some 4141)], rfl, ⟨leF_int rfl, leF_bool rfl, leF_int rfl, leF_ptr rfl, leF_c (leC_os rfl rfl), leF_ptr rfl, trivial⟩, ⟨⟨rfl, leN_varA fun j hj => (neC.sh _ j hj).le⟩, ⟨rfl, ⟨rfl, rfl, rfl, rfl, fun p hp j hj => ?_⟩⟩, ⟨rfl, leN_entN⟩, trivial⟩⟩
       have hj : j < 3 := hj
       refine rowA_to hj (fun h => (updE_ne h).trans ((updE_ne h).trans (rowA_ne h))) fun h => ?_
       subst h
       rcases j with _ | _ | _ | j
       . exact leC_int rfl
       . exact leC_int rfl
       . exact leC_os rfl rfl
       . omega
   . intro _
     refine acc3 g0 L 1 (raiseS sd (c.num - 31)) now c deaf draw ⟨ha, hn, raise_k hk, raise_h hh, hnum, hd, hnow, hdr⟩ R ?_
     rw [hR]
     unfold accS
     rw [if_neg hge, hP]
     cases deaf <;> rfl
theorem acc2_2 (g0 : Nat) (L : List Sed) (a : Nat) (now : Int) (c : Cas) (deaf : Bool) (draw : Int) (hI : AcI L a now c draw) (R : List Sed × Bool × Int) (hR : R = (L.set a (accS (L.getD a default) now c deaf draw).1, (accS (L.getD a default) now c deaf draw).2, 0)) (a3 : a = 2) :
 Sem Try.prog Try.f11.ntmps 0 (dropC 7 (Try.f11.body.getD Code.ret)) (SA L a now c deaf draw ()).fr (SA L a now c deaf draw ()).H (SA L a now c deaf draw ()).nx (endH T Try.f11.results.toList fun x H _ => FinN (some R.1.length) (encAc R) (entN neS 78 R.1) x H) := by
 obtain ⟨ha, hn, hk, hh, hmn, hnum, hd, hnow, hdr⟩ := hI
 unfold SA
 rw [entG_A]
 obtain ⟨sd, es⟩ : ∃ s, L.getD a default = s := ⟨_, rfl⟩
 rw [es] at hk hh hmn hR ⊢
 subst a3
 refine sem_step (wd := 1) (Q := mkQ (LMa g0)) (by decide) tysOk (q_of (LMa_ok g0)) mixed ?_
 repeat' (first | (apply And.intro <;> intro hc <;> (first | exact Bool.noConfusion hc | (exfalso; first | exact absurd rfl hc | omega) | (simp only [zb0, ne_eq, not_true_eq_false] at hc <;> first | exact absurd rfl hc | (exfalso; first | exact absurd rfl hc | omega) | skip) | skip)) | (refine And.intro zp1 ?_) | (apply And.intro) | (intro s hs; skip) | (refine Exists.intro _ (And.intro ⟨rfl, rfl, rfl⟩ ?_)))
 refine sem_step (wd := 1) (Q := mkQ (LMa g0)) (by decide) tysOk (q_of (LMa_ok g0)) mixed ?_
 repeat' (first | (apply And.intro <;> intro hc <;> (first | exact Bool.noConfusion hc | (exfalso; first | exact absurd rfl hc | omega) | (simp only [zb0, ne_eq, not_true_eq_false] at hc <;> first | exact absurd rfl hc | (exfalso; first | exact absurd rfl hc | omega) | skip) | skip)) | (refine And.intro zp1 ?_) | (apply And.intro) | (intro s hs; skip) | (refine Exists.intro _ (And.intro ⟨rfl, rfl, rfl⟩ ?_)))
 . refine fin_acc (s := sd) (d := 2) (hR.trans ?_) ha rfl (fun p h j => rowA_ne h) rfl rfl rfl rfl rfl rfl rfl fun q hq j hj => (neH.sh _ j hj).le
   unfold accS
   rw [if_pos hc]
 have hge := hc
 have w1 : IntKind.i64.wrap (c.num - 31) = c.num - 31 := IntWalk.i64_in _ (by omega)
 obtain ⟨⟨i, b⟩, hP⟩ : ∃ P, plcH c.num sd.held 0 = P := ⟨_, rfl⟩
 have hle := plc_le (id := c.num) (L := sd.held) (k := 0)
 rw [hP, Nat.zero_add] at hle
 dsimp only at hle
 obtain ⟨hle1, hle2, _⟩ := hle
 cases b with
 | true =>
   have hil := hle2 rfl
   clear hle2
   have hR2 : R = (L.set 2 (hearS sd i), false, 0) := by
    rw [hR]; unfold accS; rw [if_neg (by omega), hP]; rfl
   refine sem_step (wd := 1) (Q := mkQ (LMa g0)) (by decide) tysOk (q_of (LMa_ok g0)) mixed ?_
   repeat' (first | (apply And.intro <;> intro hc <;> (first | exact Bool.noConfusion hc | (exfalso; first | exact absurd rfl hc | omega) | (simp only [zb0, ne_eq, not_true_eq_false] at hc <;> first | exact absurd rfl hc | (exfalso; first | exact absurd rfl hc | omega) | skip) | skip)) | (refine And.intro zp1 ?_) | (apply And.intro) | (intro s hs; (first | (have q := rd_plc hs (toN_row0 neH_rd _) hP; clear hs; subst q) | (have q := rd_hear hs (Nat.zero_add i); clear hs; subst q))) | (refine Exists.intro _ (And.intro ⟨rfl, rfl, rfl⟩ ?_)))
   . exact fun _ _ => ⟨rfl, okD_sl _⟩
   . exact Eq.mpr (congrArg (fun z : List Hel => z.length <= 9223372036854775807) (toN_row0 neH_rd _)) (by omega)
   conv => whnf
   have hLh : (hearS sd i).held.length = sd.held.length := List.length_set
   refine fin_acc (s := hearS sd i) (d := 2) hR2 ha rfl (fun p h j => rowA_ne h) rfl rfl (by rw [hLh]; rfl) rfl rfl hLh.symm rfl fun q hq j hj => hel_row hil hj
 | false =>
   clear hle2
   refine sem_step (wd := 1) (Q := mkQ (LMa g0)) (by decide) tysOk (q_of (LMa_ok g0)) mixed ?_
   repeat' (first | (apply And.intro <;> intro hc <;> (first | exact Bool.noConfusion hc | (exfalso; first | exact absurd rfl hc | omega) | (simp only [zb0, ne_eq, not_true_eq_false] at hc <;> first | exact absurd rfl hc | (exfalso; first | exact absurd rfl hc | omega) | skip) | skip)) | (refine And.intro zp1 ?_) | (apply And.intro) | (intro s hs; (first | (have q := rd_plc hs (toN_row0 neH_rd _) hP; clear hs; subst q))) | (refine Exists.intro _ (And.intro ⟨rfl, rfl, rfl⟩ ?_)))
   . exact fun _ _ => ⟨rfl, okD_sl _⟩
   . exact Eq.mpr (congrArg (fun z : List Hel => z.length <= 9223372036854775807) (toN_row0 neH_rd _)) (by omega)
   change Sem _ _ _ _ _ _ _ _
   refine sem_cut (wd := 1024) (Q := mkQ (LMa g0)) (by decide) tysOk (q_of (LMa_ok g0)) (mono_of (LMa_ok g0)) mixed (SB L 2 (raiseS sd (c.num - 31)) now c deaf draw) (by intro _; rfl) ?_ ?_
   . repeat' (first | (simp only [w1]) | (apply And.intro <;> intro hc <;> (first | exact Bool.noConfusion hc | (exfalso; first | exact absurd rfl hc | omega) | (simp only [zb0, ne_eq, not_true_eq_false] at hc <;> first | exact absurd rfl hc | (exfalso; first | exact absurd rfl hc | omega) | skip) | skip)) | (refine And.intro zp1 ?_) | (apply And.intro) | (intro s hs; skip) | (refine Exists.intro _ (And.intro ⟨rfl, rfl, rfl⟩ ?_)))
     . exact rfl
     . conv => whnf
       rw [show raiseS sd (c.num - 31) = sd from if_pos hc]
       exact ⟨(), [], rfl, ⟨leF_int rfl, leF_bool rfl, leF_int rfl, leF_ptr rfl, leF_c (leC_os rfl rfl), leF_ptr rfl, trivial⟩, ⟨⟨rfl, leN_varA fun j hj => (neC.sh _ j hj).le⟩, ⟨rfl, ⟨rfl, rfl, rfl, rfl, fun p hp j hj => rowA_le hj rfl⟩⟩, ⟨rfl, leN_entN⟩, trivial⟩⟩
     . exact ⟨rfl, okD_sl _⟩
     . exact Eq.mpr (congrArg KpI (toN_row0 neH_rd _)) hk
     . conv => whnf
       have q : sd.held.filter (wantB (some (c.num - 31))) = s := (hs.trans (by rw [toN_row0 neH_rd])).symm
       clear hs
       rw [show raiseS sd (c.num - 31) = ⟨sd.id, c.num - 31, s⟩ from (if_neg hc).trans (by rw [q])]
       refine ⟨(), [(2, some 4141)], rfl, ⟨leF_int rfl, leF_bool rfl, leF_int rfl, leF_ptr rfl, leF_c (leC_os rfl rfl), leF_ptr rfl, trivial⟩, ⟨⟨rfl, leN_varA fun j hj => (neC.sh _ j hj).le⟩, ⟨rfl, ⟨rfl, rfl, rfl, rfl, fun p hp j hj => ?_⟩⟩, ⟨rfl, leN_entN⟩, trivial⟩⟩
       have hj : j < 3 := hj
       refine rowA_to hj (fun h => (updE_ne h).trans ((updE_ne h).trans (rowA_ne h))) fun h => ?_
       subst h
       rcases j with _ | _ | _ | j
       . exact leC_int rfl
       . exact leC_int rfl
       . exact leC_os rfl rfl
       . omega
   . intro _
     refine acc3 g0 L 2 (raiseS sd (c.num - 31)) now c deaf draw ⟨ha, hn, raise_k hk, raise_h hh, hnum, hd, hnow, hdr⟩ R ?_
     rw [hR]
     unfold accS
     rw [if_neg hge, hP]
     cases deaf <;> rfl
theorem acc2_3 (g0 : Nat) (L : List Sed) (a : Nat) (now : Int) (c : Cas) (deaf : Bool) (draw : Int) (hI : AcI L a now c draw) (R : List Sed × Bool × Int) (hR : R = (L.set a (accS (L.getD a default) now c deaf draw).1, (accS (L.getD a default) now c deaf draw).2, 0)) (a3 : a = 3) :
 Sem Try.prog Try.f11.ntmps 0 (dropC 7 (Try.f11.body.getD Code.ret)) (SA L a now c deaf draw ()).fr (SA L a now c deaf draw ()).H (SA L a now c deaf draw ()).nx (endH T Try.f11.results.toList fun x H _ => FinN (some R.1.length) (encAc R) (entN neS 78 R.1) x H) := by
 obtain ⟨ha, hn, hk, hh, hmn, hnum, hd, hnow, hdr⟩ := hI
 unfold SA
 rw [entG_A]
 obtain ⟨sd, es⟩ : ∃ s, L.getD a default = s := ⟨_, rfl⟩
 rw [es] at hk hh hmn hR ⊢
 subst a3
 refine sem_step (wd := 1) (Q := mkQ (LMa g0)) (by decide) tysOk (q_of (LMa_ok g0)) mixed ?_
 repeat' (first | (apply And.intro <;> intro hc <;> (first | exact Bool.noConfusion hc | (exfalso; first | exact absurd rfl hc | omega) | (simp only [zb0, ne_eq, not_true_eq_false] at hc <;> first | exact absurd rfl hc | (exfalso; first | exact absurd rfl hc | omega) | skip) | skip)) | (refine And.intro zp1 ?_) | (apply And.intro) | (intro s hs; skip) | (refine Exists.intro _ (And.intro ⟨rfl, rfl, rfl⟩ ?_)))
 refine sem_step (wd := 1) (Q := mkQ (LMa g0)) (by decide) tysOk (q_of (LMa_ok g0)) mixed ?_
 repeat' (first | (apply And.intro <;> intro hc <;> (first | exact Bool.noConfusion hc | (exfalso; first | exact absurd rfl hc | omega) | (simp only [zb0, ne_eq, not_true_eq_false] at hc <;> first | exact absurd rfl hc | (exfalso; first | exact absurd rfl hc | omega) | skip) | skip)) | (refine And.intro zp1 ?_) | (apply And.intro) | (intro s hs; skip) | (refine Exists.intro _ (And.intro ⟨rfl, rfl, rfl⟩ ?_)))
 . refine fin_acc (s := sd) (d := 2) (hR.trans ?_) ha rfl (fun p h j => rowA_ne h) rfl rfl rfl rfl rfl rfl rfl fun q hq j hj => (neH.sh _ j hj).le
   unfold accS
   rw [if_pos hc]
 have hge := hc
 have w1 : IntKind.i64.wrap (c.num - 31) = c.num - 31 := IntWalk.i64_in _ (by omega)
 obtain ⟨⟨i, b⟩, hP⟩ : ∃ P, plcH c.num sd.held 0 = P := ⟨_, rfl⟩
 have hle := plc_le (id := c.num) (L := sd.held) (k := 0)
 rw [hP, Nat.zero_add] at hle
 dsimp only at hle
 obtain ⟨hle1, hle2, _⟩ := hle
 cases b with
 | true =>
   have hil := hle2 rfl
   clear hle2
   have hR2 : R = (L.set 3 (hearS sd i), false, 0) := by
    rw [hR]; unfold accS; rw [if_neg (by omega), hP]; rfl
   refine sem_step (wd := 1) (Q := mkQ (LMa g0)) (by decide) tysOk (q_of (LMa_ok g0)) mixed ?_
   repeat' (first | (apply And.intro <;> intro hc <;> (first | exact Bool.noConfusion hc | (exfalso; first | exact absurd rfl hc | omega) | (simp only [zb0, ne_eq, not_true_eq_false] at hc <;> first | exact absurd rfl hc | (exfalso; first | exact absurd rfl hc | omega) | skip) | skip)) | (refine And.intro zp1 ?_) | (apply And.intro) | (intro s hs; (first | (have q := rd_plc hs (toN_row0 neH_rd _) hP; clear hs; subst q) | (have q := rd_hear hs (Nat.zero_add i); clear hs; subst q))) | (refine Exists.intro _ (And.intro ⟨rfl, rfl, rfl⟩ ?_)))
   . exact fun _ _ => ⟨rfl, okD_sl _⟩
   . exact Eq.mpr (congrArg (fun z : List Hel => z.length <= 9223372036854775807) (toN_row0 neH_rd _)) (by omega)
   conv => whnf
   have hLh : (hearS sd i).held.length = sd.held.length := List.length_set
   refine fin_acc (s := hearS sd i) (d := 2) hR2 ha rfl (fun p h j => rowA_ne h) rfl rfl (by rw [hLh]; rfl) rfl rfl hLh.symm rfl fun q hq j hj => hel_row hil hj
 | false =>
   clear hle2
   refine sem_step (wd := 1) (Q := mkQ (LMa g0)) (by decide) tysOk (q_of (LMa_ok g0)) mixed ?_
   repeat' (first | (apply And.intro <;> intro hc <;> (first | exact Bool.noConfusion hc | (exfalso; first | exact absurd rfl hc | omega) | (simp only [zb0, ne_eq, not_true_eq_false] at hc <;> first | exact absurd rfl hc | (exfalso; first | exact absurd rfl hc | omega) | skip) | skip)) | (refine And.intro zp1 ?_) | (apply And.intro) | (intro s hs; (first | (have q := rd_plc hs (toN_row0 neH_rd _) hP; clear hs; subst q))) | (refine Exists.intro _ (And.intro ⟨rfl, rfl, rfl⟩ ?_)))
   . exact fun _ _ => ⟨rfl, okD_sl _⟩
   . exact Eq.mpr (congrArg (fun z : List Hel => z.length <= 9223372036854775807) (toN_row0 neH_rd _)) (by omega)
   change Sem _ _ _ _ _ _ _ _
   refine sem_cut (wd := 1024) (Q := mkQ (LMa g0)) (by decide) tysOk (q_of (LMa_ok g0)) (mono_of (LMa_ok g0)) mixed (SB L 3 (raiseS sd (c.num - 31)) now c deaf draw) (by intro _; rfl) ?_ ?_
   . repeat' (first | (simp only [w1]) | (apply And.intro <;> intro hc <;> (first | exact Bool.noConfusion hc | (exfalso; first | exact absurd rfl hc | omega) | (simp only [zb0, ne_eq, not_true_eq_false] at hc <;> first | exact absurd rfl hc | (exfalso; first | exact absurd rfl hc | omega) | skip) | skip)) | (refine And.intro zp1 ?_) | (apply And.intro) | (intro s hs; skip) | (refine Exists.intro _ (And.intro ⟨rfl, rfl, rfl⟩ ?_)))
     . exact rfl
     . conv => whnf
       rw [show raiseS sd (c.num - 31) = sd from if_pos hc]
       exact ⟨(), [], rfl, ⟨leF_int rfl, leF_bool rfl, leF_int rfl, leF_ptr rfl, leF_c (leC_os rfl rfl), leF_ptr rfl, trivial⟩, ⟨⟨rfl, leN_varA fun j hj => (neC.sh _ j hj).le⟩, ⟨rfl, ⟨rfl, rfl, rfl, rfl, fun p hp j hj => rowA_le hj rfl⟩⟩, ⟨rfl, leN_entN⟩, trivial⟩⟩
     . exact ⟨rfl, okD_sl _⟩
     . exact Eq.mpr (congrArg KpI (toN_row0 neH_rd _)) hk
     . conv => whnf
       have q : sd.held.filter (wantB (some (c.num - 31))) = s := (hs.trans (by rw [toN_row0 neH_rd])).symm
       clear hs
       rw [show raiseS sd (c.num - 31) = ⟨sd.id, c.num - 31, s⟩ from (if_neg hc).trans (by rw [q])]
       refine ⟨(), [(2, some 4141)], rfl, ⟨leF_int rfl, leF_bool rfl, leF_int rfl, leF_ptr rfl, leF_c (leC_os rfl rfl), leF_ptr rfl, trivial⟩, ⟨⟨rfl, leN_varA fun j hj => (neC.sh _ j hj).le⟩, ⟨rfl, ⟨rfl, rfl, rfl, rfl, fun p hp j hj => ?_⟩⟩, ⟨rfl, leN_entN⟩, trivial⟩⟩
       have hj : j < 3 := hj
       refine rowA_to hj (fun h => (updE_ne h).trans ((updE_ne h).trans (rowA_ne h))) fun h => ?_
       subst h
       rcases j with _ | _ | _ | j
       . exact leC_int rfl
       . exact leC_int rfl
       . exact leC_os rfl rfl
       . omega
   . intro _
     refine acc3 g0 L 3 (raiseS sd (c.num - 31)) now c deaf draw ⟨ha, hn, raise_k hk, raise_h hh, hnum, hd, hnow, hdr⟩ R ?_
     rw [hR]
     unfold accS
     rw [if_neg hge, hP]
     cases deaf <;> rfl
theorem acc2_4 (g0 : Nat) (L : List Sed) (a : Nat) (now : Int) (c : Cas) (deaf : Bool) (draw : Int) (hI : AcI L a now c draw) (R : List Sed × Bool × Int) (hR : R = (L.set a (accS (L.getD a default) now c deaf draw).1, (accS (L.getD a default) now c deaf draw).2, 0)) (a3 : a = 4) :
 Sem Try.prog Try.f11.ntmps 0 (dropC 7 (Try.f11.body.getD Code.ret)) (SA L a now c deaf draw ()).fr (SA L a now c deaf draw ()).H (SA L a now c deaf draw ()).nx (endH T Try.f11.results.toList fun x H _ => FinN (some R.1.length) (encAc R) (entN neS 78 R.1) x H) := by
 obtain ⟨ha, hn, hk, hh, hmn, hnum, hd, hnow, hdr⟩ := hI
 unfold SA
 rw [entG_A]
 obtain ⟨sd, es⟩ : ∃ s, L.getD a default = s := ⟨_, rfl⟩
 rw [es] at hk hh hmn hR ⊢
 subst a3
 refine sem_step (wd := 1) (Q := mkQ (LMa g0)) (by decide) tysOk (q_of (LMa_ok g0)) mixed ?_
 repeat' (first | (apply And.intro <;> intro hc <;> (first | exact Bool.noConfusion hc | (exfalso; first | exact absurd rfl hc | omega) | (simp only [zb0, ne_eq, not_true_eq_false] at hc <;> first | exact absurd rfl hc | (exfalso; first | exact absurd rfl hc | omega) | skip) | skip)) | (refine And.intro zp1 ?_) | (apply And.intro) | (intro s hs; skip) | (refine Exists.intro _ (And.intro ⟨rfl, rfl, rfl⟩ ?_)))
 refine sem_step (wd := 1) (Q := mkQ (LMa g0)) (by decide) tysOk (q_of (LMa_ok g0)) mixed ?_
 repeat' (first | (apply And.intro <;> intro hc <;> (first | exact Bool.noConfusion hc | (exfalso; first | exact absurd rfl hc | omega) | (simp only [zb0, ne_eq, not_true_eq_false] at hc <;> first | exact absurd rfl hc | (exfalso; first | exact absurd rfl hc | omega) | skip) | skip)) | (refine And.intro zp1 ?_) | (apply And.intro) | (intro s hs; skip) | (refine Exists.intro _ (And.intro ⟨rfl, rfl, rfl⟩ ?_)))
 . refine fin_acc (s := sd) (d := 2) (hR.trans ?_) ha rfl (fun p h j => rowA_ne h) rfl rfl rfl rfl rfl rfl rfl fun q hq j hj => (neH.sh _ j hj).le
   unfold accS
   rw [if_pos hc]
 have hge := hc
 have w1 : IntKind.i64.wrap (c.num - 31) = c.num - 31 := IntWalk.i64_in _ (by omega)
 obtain ⟨⟨i, b⟩, hP⟩ : ∃ P, plcH c.num sd.held 0 = P := ⟨_, rfl⟩
 have hle := plc_le (id := c.num) (L := sd.held) (k := 0)
 rw [hP, Nat.zero_add] at hle
 dsimp only at hle
 obtain ⟨hle1, hle2, _⟩ := hle
 cases b with
 | true =>
   have hil := hle2 rfl
   clear hle2
   have hR2 : R = (L.set 4 (hearS sd i), false, 0) := by
    rw [hR]; unfold accS; rw [if_neg (by omega), hP]; rfl
   refine sem_step (wd := 1) (Q := mkQ (LMa g0)) (by decide) tysOk (q_of (LMa_ok g0)) mixed ?_
   repeat' (first | (apply And.intro <;> intro hc <;> (first | exact Bool.noConfusion hc | (exfalso; first | exact absurd rfl hc | omega) | (simp only [zb0, ne_eq, not_true_eq_false] at hc <;> first | exact absurd rfl hc | (exfalso; first | exact absurd rfl hc | omega) | skip) | skip)) | (refine And.intro zp1 ?_) | (apply And.intro) | (intro s hs; (first | (have q := rd_plc hs (toN_row0 neH_rd _) hP; clear hs; subst q) | (have q := rd_hear hs (Nat.zero_add i); clear hs; subst q))) | (refine Exists.intro _ (And.intro ⟨rfl, rfl, rfl⟩ ?_)))
   . exact fun _ _ => ⟨rfl, okD_sl _⟩
   . exact Eq.mpr (congrArg (fun z : List Hel => z.length <= 9223372036854775807) (toN_row0 neH_rd _)) (by omega)
   conv => whnf
   have hLh : (hearS sd i).held.length = sd.held.length := List.length_set
   refine fin_acc (s := hearS sd i) (d := 2) hR2 ha rfl (fun p h j => rowA_ne h) rfl rfl (by rw [hLh]; rfl) rfl rfl hLh.symm rfl fun q hq j hj => hel_row hil hj
 | false =>
   clear hle2
   refine sem_step (wd := 1) (Q := mkQ (LMa g0)) (by decide) tysOk (q_of (LMa_ok g0)) mixed ?_
   repeat' (first | (apply And.intro <;> intro hc <;> (first | exact Bool.noConfusion hc | (exfalso; first | exact absurd rfl hc | omega) | (simp only [zb0, ne_eq, not_true_eq_false] at hc <;> first | exact absurd rfl hc | (exfalso; first | exact absurd rfl hc | omega) | skip) | skip)) | (refine And.intro zp1 ?_) | (apply And.intro) | (intro s hs; (first | (have q := rd_plc hs (toN_row0 neH_rd _) hP; clear hs; subst q))) | (refine Exists.intro _ (And.intro ⟨rfl, rfl, rfl⟩ ?_)))
   . exact fun _ _ => ⟨rfl, okD_sl _⟩
   . exact Eq.mpr (congrArg (fun z : List Hel => z.length <= 9223372036854775807) (toN_row0 neH_rd _)) (by omega)
   change Sem _ _ _ _ _ _ _ _
   refine sem_cut (wd := 1024) (Q := mkQ (LMa g0)) (by decide) tysOk (q_of (LMa_ok g0)) (mono_of (LMa_ok g0)) mixed (SB L 4 (raiseS sd (c.num - 31)) now c deaf draw) (by intro _; rfl) ?_ ?_
   . repeat' (first | (simp only [w1]) | (apply And.intro <;> intro hc <;> (first | exact Bool.noConfusion hc | (exfalso; first | exact absurd rfl hc | omega) | (simp only [zb0, ne_eq, not_true_eq_false] at hc <;> first | exact absurd rfl hc | (exfalso; first | exact absurd rfl hc | omega) | skip) | skip)) | (refine And.intro zp1 ?_) | (apply And.intro) | (intro s hs; skip) | (refine Exists.intro _ (And.intro ⟨rfl, rfl, rfl⟩ ?_)))
     . exact rfl
     . conv => whnf
       rw [show raiseS sd (c.num - 31) = sd from if_pos hc]
       exact ⟨(), [], rfl, ⟨leF_int rfl, leF_bool rfl, leF_int rfl, leF_ptr rfl, leF_c (leC_os rfl rfl), leF_ptr rfl, trivial⟩, ⟨⟨rfl, leN_varA fun j hj => (neC.sh _ j hj).le⟩, ⟨rfl, ⟨rfl, rfl, rfl, rfl, fun p hp j hj => rowA_le hj rfl⟩⟩, ⟨rfl, leN_entN⟩, trivial⟩⟩
     . exact ⟨rfl, okD_sl _⟩
     . exact Eq.mpr (congrArg KpI (toN_row0 neH_rd _)) hk
     . conv => whnf
       have q : sd.held.filter (wantB (some (c.num - 31))) = s := (hs.trans (by rw [toN_row0 neH_rd])).symm
       clear hs
       rw [show raiseS sd (c.num - 31) = ⟨sd.id, c.num - 31, s⟩ from (if_neg hc).trans (by rw [q])]
       refine ⟨(), [(2, some 4141)], rfl, ⟨leF_int rfl, leF_bool rfl, leF_int rfl, leF_ptr rfl, leF_c (leC_os rfl rfl), leF_ptr rfl, trivial⟩, ⟨⟨rfl, leN_varA fun j hj => (neC.sh _ j hj).le⟩, ⟨rfl, ⟨rfl, rfl, rfl, rfl, fun p hp j hj => ?_⟩⟩, ⟨rfl, leN_entN⟩, trivial⟩⟩
       have hj : j < 3 := hj
       refine rowA_to hj (fun h => (updE_ne h).trans ((updE_ne h).trans (rowA_ne h))) fun h => ?_
       subst h
       rcases j with _ | _ | _ | j
       . exact leC_int rfl
       . exact leC_int rfl
       . exact leC_os rfl rfl
       . omega
   . intro _
     refine acc3 g0 L 4 (raiseS sd (c.num - 31)) now c deaf draw ⟨ha, hn, raise_k hk, raise_h hh, hnum, hd, hnow, hdr⟩ R ?_
     rw [hR]
     unfold accS
     rw [if_neg hge, hP]
     cases deaf <;> rfl
theorem acc2_5 (g0 : Nat) (L : List Sed) (a : Nat) (now : Int) (c : Cas) (deaf : Bool) (draw : Int) (hI : AcI L a now c draw) (R : List Sed × Bool × Int) (hR : R = (L.set a (accS (L.getD a default) now c deaf draw).1, (accS (L.getD a default) now c deaf draw).2, 0)) (a3 : a = 5) :
 Sem Try.prog Try.f11.ntmps 0 (dropC 7 (Try.f11.body.getD Code.ret)) (SA L a now c deaf draw ()).fr (SA L a now c deaf draw ()).H (SA L a now c deaf draw ()).nx (endH T Try.f11.results.toList fun x H _ => FinN (some R.1.length) (encAc R) (entN neS 78 R.1) x H) := by
 obtain ⟨ha, hn, hk, hh, hmn, hnum, hd, hnow, hdr⟩ := hI
 unfold SA
 rw [entG_A]
 obtain ⟨sd, es⟩ : ∃ s, L.getD a default = s := ⟨_, rfl⟩
 rw [es] at hk hh hmn hR ⊢
 subst a3
 refine sem_step (wd := 1) (Q := mkQ (LMa g0)) (by decide) tysOk (q_of (LMa_ok g0)) mixed ?_
 repeat' (first | (apply And.intro <;> intro hc <;> (first | exact Bool.noConfusion hc | (exfalso; first | exact absurd rfl hc | omega) | (simp only [zb0, ne_eq, not_true_eq_false] at hc <;> first | exact absurd rfl hc | (exfalso; first | exact absurd rfl hc | omega) | skip) | skip)) | (refine And.intro zp1 ?_) | (apply And.intro) | (intro s hs; skip) | (refine Exists.intro _ (And.intro ⟨rfl, rfl, rfl⟩ ?_)))
 refine sem_step (wd := 1) (Q := mkQ (LMa g0)) (by decide) tysOk (q_of (LMa_ok g0)) mixed ?_
 repeat' (first | (apply And.intro <;> intro hc <;> (first | exact Bool.noConfusion hc | (exfalso; first | exact absurd rfl hc | omega) | (simp only [zb0, ne_eq, not_true_eq_false] at hc <;> first | exact absurd rfl hc | (exfalso; first | exact absurd rfl hc | omega) | skip) | skip)) | (refine And.intro zp1 ?_) | (apply And.intro) | (intro s hs; skip) | (refine Exists.intro _ (And.intro ⟨rfl, rfl, rfl⟩ ?_)))
 . refine fin_acc (s := sd) (d := 2) (hR.trans ?_) ha rfl (fun p h j => rowA_ne h) rfl rfl rfl rfl rfl rfl rfl fun q hq j hj => (neH.sh _ j hj).le
   unfold accS
   rw [if_pos hc]
 have hge := hc
 have w1 : IntKind.i64.wrap (c.num - 31) = c.num - 31 := IntWalk.i64_in _ (by omega)
 obtain ⟨⟨i, b⟩, hP⟩ : ∃ P, plcH c.num sd.held 0 = P := ⟨_, rfl⟩
 have hle := plc_le (id := c.num) (L := sd.held) (k := 0)
 rw [hP, Nat.zero_add] at hle
 dsimp only at hle
 obtain ⟨hle1, hle2, _⟩ := hle
 cases b with
 | true =>
   have hil := hle2 rfl
   clear hle2
   have hR2 : R = (L.set 5 (hearS sd i), false, 0) := by
    rw [hR]; unfold accS; rw [if_neg (by omega), hP]; rfl
   refine sem_step (wd := 1) (Q := mkQ (LMa g0)) (by decide) tysOk (q_of (LMa_ok g0)) mixed ?_
   repeat' (first | (apply And.intro <;> intro hc <;> (first | exact Bool.noConfusion hc | (exfalso; first | exact absurd rfl hc | omega) | (simp only [zb0, ne_eq, not_true_eq_false] at hc <;> first | exact absurd rfl hc | (exfalso; first | exact absurd rfl hc | omega) | skip) | skip)) | (refine And.intro zp1 ?_) | (apply And.intro) | (intro s hs; (first | (have q := rd_plc hs (toN_row0 neH_rd _) hP; clear hs; subst q) | (have q := rd_hear hs (Nat.zero_add i); clear hs; subst q))) | (refine Exists.intro _ (And.intro ⟨rfl, rfl, rfl⟩ ?_)))
   . exact fun _ _ => ⟨rfl, okD_sl _⟩
   . exact Eq.mpr (congrArg (fun z : List Hel => z.length <= 9223372036854775807) (toN_row0 neH_rd _)) (by omega)
   conv => whnf
   have hLh : (hearS sd i).held.length = sd.held.length := List.length_set
   refine fin_acc (s := hearS sd i) (d := 2) hR2 ha rfl (fun p h j => rowA_ne h) rfl rfl (by rw [hLh]; rfl) rfl rfl hLh.symm rfl fun q hq j hj => hel_row hil hj
 | false =>
   clear hle2
   refine sem_step (wd := 1) (Q := mkQ (LMa g0)) (by decide) tysOk (q_of (LMa_ok g0)) mixed ?_
   repeat' (first | (apply And.intro <;> intro hc <;> (first | exact Bool.noConfusion hc | (exfalso; first | exact absurd rfl hc | omega) | (simp only [zb0, ne_eq, not_true_eq_false] at hc <;> first | exact absurd rfl hc | (exfalso; first | exact absurd rfl hc | omega) | skip) | skip)) | (refine And.intro zp1 ?_) | (apply And.intro) | (intro s hs; (first | (have q := rd_plc hs (toN_row0 neH_rd _) hP; clear hs; subst q))) | (refine Exists.intro _ (And.intro ⟨rfl, rfl, rfl⟩ ?_)))
   . exact fun _ _ => ⟨rfl, okD_sl _⟩
   . exact Eq.mpr (congrArg (fun z : List Hel => z.length <= 9223372036854775807) (toN_row0 neH_rd _)) (by omega)
   change Sem _ _ _ _ _ _ _ _
   refine sem_cut (wd := 1024) (Q := mkQ (LMa g0)) (by decide) tysOk (q_of (LMa_ok g0)) (mono_of (LMa_ok g0)) mixed (SB L 5 (raiseS sd (c.num - 31)) now c deaf draw) (by intro _; rfl) ?_ ?_
   . repeat' (first | (simp only [w1]) | (apply And.intro <;> intro hc <;> (first | exact Bool.noConfusion hc | (exfalso; first | exact absurd rfl hc | omega) | (simp only [zb0, ne_eq, not_true_eq_false] at hc <;> first | exact absurd rfl hc | (exfalso; first | exact absurd rfl hc | omega) | skip) | skip)) | (refine And.intro zp1 ?_) | (apply And.intro) | (intro s hs; skip) | (refine Exists.intro _ (And.intro ⟨rfl, rfl, rfl⟩ ?_)))
     . exact rfl
     . conv => whnf
       rw [show raiseS sd (c.num - 31) = sd from if_pos hc]
       exact ⟨(), [], rfl, ⟨leF_int rfl, leF_bool rfl, leF_int rfl, leF_ptr rfl, leF_c (leC_os rfl rfl), leF_ptr rfl, trivial⟩, ⟨⟨rfl, leN_varA fun j hj => (neC.sh _ j hj).le⟩, ⟨rfl, ⟨rfl, rfl, rfl, rfl, fun p hp j hj => rowA_le hj rfl⟩⟩, ⟨rfl, leN_entN⟩, trivial⟩⟩
     . exact ⟨rfl, okD_sl _⟩
     . exact Eq.mpr (congrArg KpI (toN_row0 neH_rd _)) hk
     . conv => whnf
       have q : sd.held.filter (wantB (some (c.num - 31))) = s := (hs.trans (by rw [toN_row0 neH_rd])).symm
       clear hs
       rw [show raiseS sd (c.num - 31) = ⟨sd.id, c.num - 31, s⟩ from (if_neg hc).trans (by rw [q])]
       refine ⟨(), [(2, some 4141)], rfl, ⟨leF_int rfl, leF_bool rfl, leF_int rfl, leF_ptr rfl, leF_c (leC_os rfl rfl), leF_ptr rfl, trivial⟩, ⟨⟨rfl, leN_varA fun j hj => (neC.sh _ j hj).le⟩, ⟨rfl, ⟨rfl, rfl, rfl, rfl, fun p hp j hj => ?_⟩⟩, ⟨rfl, leN_entN⟩, trivial⟩⟩
       have hj : j < 3 := hj
       refine rowA_to hj (fun h => (updE_ne h).trans ((updE_ne h).trans (rowA_ne h))) fun h => ?_
       subst h
       rcases j with _ | _ | _ | j
       . exact leC_int rfl
       . exact leC_int rfl
       . exact leC_os rfl rfl
       . omega
   . intro _
     refine acc3 g0 L 5 (raiseS sd (c.num - 31)) now c deaf draw ⟨ha, hn, raise_k hk, raise_h hh, hnum, hd, hnow, hdr⟩ R ?_
     rw [hR]
     unfold accS
     rw [if_neg hge, hP]
     cases deaf <;> rfl
theorem acc2_6 (g0 : Nat) (L : List Sed) (a : Nat) (now : Int) (c : Cas) (deaf : Bool) (draw : Int) (hI : AcI L a now c draw) (R : List Sed × Bool × Int) (hR : R = (L.set a (accS (L.getD a default) now c deaf draw).1, (accS (L.getD a default) now c deaf draw).2, 0)) (a3 : a = 6) :
 Sem Try.prog Try.f11.ntmps 0 (dropC 7 (Try.f11.body.getD Code.ret)) (SA L a now c deaf draw ()).fr (SA L a now c deaf draw ()).H (SA L a now c deaf draw ()).nx (endH T Try.f11.results.toList fun x H _ => FinN (some R.1.length) (encAc R) (entN neS 78 R.1) x H) := by
 obtain ⟨ha, hn, hk, hh, hmn, hnum, hd, hnow, hdr⟩ := hI
 unfold SA
 rw [entG_A]
 obtain ⟨sd, es⟩ : ∃ s, L.getD a default = s := ⟨_, rfl⟩
 rw [es] at hk hh hmn hR ⊢
 subst a3
 refine sem_step (wd := 1) (Q := mkQ (LMa g0)) (by decide) tysOk (q_of (LMa_ok g0)) mixed ?_
 repeat' (first | (apply And.intro <;> intro hc <;> (first | exact Bool.noConfusion hc | (exfalso; first | exact absurd rfl hc | omega) | (simp only [zb0, ne_eq, not_true_eq_false] at hc <;> first | exact absurd rfl hc | (exfalso; first | exact absurd rfl hc | omega) | skip) | skip)) | (refine And.intro zp1 ?_) | (apply And.intro) | (intro s hs; skip) | (refine Exists.intro _ (And.intro ⟨rfl, rfl, rfl⟩ ?_)))
 refine sem_step (wd := 1) (Q := mkQ (LMa g0)) (by decide) tysOk (q_of (LMa_ok g0)) mixed ?_
 repeat' (first | (apply And.intro <;> intro hc <;> (first | exact Bool.noConfusion hc | (exfalso; first | exact absurd rfl hc | omega) | (simp only [zb0, ne_eq, not_true_eq_false] at hc <;> first | exact absurd rfl hc | (exfalso; first | exact absurd rfl hc | omega) | skip) | skip)) | (refine And.intro zp1 ?_) | (apply And.intro) | (intro s hs; skip) | (refine Exists.intro _ (And.intro ⟨rfl, rfl, rfl⟩ ?_)))
 . refine fin_acc (s := sd) (d := 2) (hR.trans ?_) ha rfl (fun p h j => rowA_ne h) rfl rfl rfl rfl rfl rfl rfl fun q hq j hj => (neH.sh _ j hj).le
   unfold accS
   rw [if_pos hc]
 have hge := hc
 have w1 : IntKind.i64.wrap (c.num - 31) = c.num - 31 := IntWalk.i64_in _ (by omega)
 obtain ⟨⟨i, b⟩, hP⟩ : ∃ P, plcH c.num sd.held 0 = P := ⟨_, rfl⟩
 have hle := plc_le (id := c.num) (L := sd.held) (k := 0)
 rw [hP, Nat.zero_add] at hle
 dsimp only at hle
 obtain ⟨hle1, hle2, _⟩ := hle
 cases b with
 | true =>
   have hil := hle2 rfl
   clear hle2
   have hR2 : R = (L.set 6 (hearS sd i), false, 0) := by
    rw [hR]; unfold accS; rw [if_neg (by omega), hP]; rfl
   refine sem_step (wd := 1) (Q := mkQ (LMa g0)) (by decide) tysOk (q_of (LMa_ok g0)) mixed ?_
   repeat' (first | (apply And.intro <;> intro hc <;> (first | exact Bool.noConfusion hc | (exfalso; first | exact absurd rfl hc | omega) | (simp only [zb0, ne_eq, not_true_eq_false] at hc <;> first | exact absurd rfl hc | (exfalso; first | exact absurd rfl hc | omega) | skip) | skip)) | (refine And.intro zp1 ?_) | (apply And.intro) | (intro s hs; (first | (have q := rd_plc hs (toN_row0 neH_rd _) hP; clear hs; subst q) | (have q := rd_hear hs (Nat.zero_add i); clear hs; subst q))) | (refine Exists.intro _ (And.intro ⟨rfl, rfl, rfl⟩ ?_)))
   . exact fun _ _ => ⟨rfl, okD_sl _⟩
   . exact Eq.mpr (congrArg (fun z : List Hel => z.length <= 9223372036854775807) (toN_row0 neH_rd _)) (by omega)
   conv => whnf
   have hLh : (hearS sd i).held.length = sd.held.length := List.length_set
   refine fin_acc (s := hearS sd i) (d := 2) hR2 ha rfl (fun p h j => rowA_ne h) rfl rfl (by rw [hLh]; rfl) rfl rfl hLh.symm rfl fun q hq j hj => hel_row hil hj
 | false =>
   clear hle2
   refine sem_step (wd := 1) (Q := mkQ (LMa g0)) (by decide) tysOk (q_of (LMa_ok g0)) mixed ?_
   repeat' (first | (apply And.intro <;> intro hc <;> (first | exact Bool.noConfusion hc | (exfalso; first | exact absurd rfl hc | omega) | (simp only [zb0, ne_eq, not_true_eq_false] at hc <;> first | exact absurd rfl hc | (exfalso; first | exact absurd rfl hc | omega) | skip) | skip)) | (refine And.intro zp1 ?_) | (apply And.intro) | (intro s hs; (first | (have q := rd_plc hs (toN_row0 neH_rd _) hP; clear hs; subst q))) | (refine Exists.intro _ (And.intro ⟨rfl, rfl, rfl⟩ ?_)))
   . exact fun _ _ => ⟨rfl, okD_sl _⟩
   . exact Eq.mpr (congrArg (fun z : List Hel => z.length <= 9223372036854775807) (toN_row0 neH_rd _)) (by omega)
   change Sem _ _ _ _ _ _ _ _
   refine sem_cut (wd := 1024) (Q := mkQ (LMa g0)) (by decide) tysOk (q_of (LMa_ok g0)) (mono_of (LMa_ok g0)) mixed (SB L 6 (raiseS sd (c.num - 31)) now c deaf draw) (by intro _; rfl) ?_ ?_
   . repeat' (first | (simp only [w1]) | (apply And.intro <;> intro hc <;> (first | exact Bool.noConfusion hc | (exfalso; first | exact absurd rfl hc | omega) | (simp only [zb0, ne_eq, not_true_eq_false] at hc <;> first | exact absurd rfl hc | (exfalso; first | exact absurd rfl hc | omega) | skip) | skip)) | (refine And.intro zp1 ?_) | (apply And.intro) | (intro s hs; skip) | (refine Exists.intro _ (And.intro ⟨rfl, rfl, rfl⟩ ?_)))
     . exact rfl
     . conv => whnf
       rw [show raiseS sd (c.num - 31) = sd from if_pos hc]
       exact ⟨(), [], rfl, ⟨leF_int rfl, leF_bool rfl, leF_int rfl, leF_ptr rfl, leF_c (leC_os rfl rfl), leF_ptr rfl, trivial⟩, ⟨⟨rfl, leN_varA fun j hj => (neC.sh _ j hj).le⟩, ⟨rfl, ⟨rfl, rfl, rfl, rfl, fun p hp j hj => rowA_le hj rfl⟩⟩, ⟨rfl, leN_entN⟩, trivial⟩⟩
     . exact ⟨rfl, okD_sl _⟩
     . exact Eq.mpr (congrArg KpI (toN_row0 neH_rd _)) hk
     . conv => whnf
       have q : sd.held.filter (wantB (some (c.num - 31))) = s := (hs.trans (by rw [toN_row0 neH_rd])).symm
       clear hs
       rw [show raiseS sd (c.num - 31) = ⟨sd.id, c.num - 31, s⟩ from (if_neg hc).trans (by rw [q])]
       refine ⟨(), [(2, some 4141)], rfl, ⟨leF_int rfl, leF_bool rfl, leF_int rfl, leF_ptr rfl, leF_c (leC_os rfl rfl), leF_ptr rfl, trivial⟩, ⟨⟨rfl, leN_varA fun j hj => (neC.sh _ j hj).le⟩, ⟨rfl, ⟨rfl, rfl, rfl, rfl, fun p hp j hj => ?_⟩⟩, ⟨rfl, leN_entN⟩, trivial⟩⟩
       have hj : j < 3 := hj
       refine rowA_to hj (fun h => (updE_ne h).trans ((updE_ne h).trans (rowA_ne h))) fun h => ?_
       subst h
       rcases j with _ | _ | _ | j
       . exact leC_int rfl
       . exact leC_int rfl
       . exact leC_os rfl rfl
       . omega
   . intro _
     refine acc3 g0 L 6 (raiseS sd (c.num - 31)) now c deaf draw ⟨ha, hn, raise_k hk, raise_h hh, hnum, hd, hnow, hdr⟩ R ?_
     rw [hR]
     unfold accS
     rw [if_neg hge, hP]
     cases deaf <;> rfl
theorem acc2_7 (g0 : Nat) (L : List Sed) (a : Nat) (now : Int) (c : Cas) (deaf : Bool) (draw : Int) (hI : AcI L a now c draw) (R : List Sed × Bool × Int) (hR : R = (L.set a (accS (L.getD a default) now c deaf draw).1, (accS (L.getD a default) now c deaf draw).2, 0)) (a3 : a = 7) :
 Sem Try.prog Try.f11.ntmps 0 (dropC 7 (Try.f11.body.getD Code.ret)) (SA L a now c deaf draw ()).fr (SA L a now c deaf draw ()).H (SA L a now c deaf draw ()).nx (endH T Try.f11.results.toList fun x H _ => FinN (some R.1.length) (encAc R) (entN neS 78 R.1) x H) := by
 obtain ⟨ha, hn, hk, hh, hmn, hnum, hd, hnow, hdr⟩ := hI
 unfold SA
 rw [entG_A]
 obtain ⟨sd, es⟩ : ∃ s, L.getD a default = s := ⟨_, rfl⟩
 rw [es] at hk hh hmn hR ⊢
 subst a3
 refine sem_step (wd := 1) (Q := mkQ (LMa g0)) (by decide) tysOk (q_of (LMa_ok g0)) mixed ?_
 repeat' (first | (apply And.intro <;> intro hc <;> (first | exact Bool.noConfusion hc | (exfalso; first | exact absurd rfl hc | omega) | (simp only [zb0, ne_eq, not_true_eq_false] at hc <;> first | exact absurd rfl hc | (exfalso; first | exact absurd rfl hc | omega) | skip) | skip)) | (refine And.intro zp1 ?_) | (apply And.intro) | (intro s hs; skip) | (refine Exists.intro _ (And.intro ⟨rfl, rfl, rfl⟩ ?_)))
 refine sem_step (wd := 1) (Q := mkQ (LMa g0)) (by decide) tysOk (q_of (LMa_ok g0)) mixed ?_
 repeat' (first | (apply And.intro <;> intro hc <;> (first | exact Bool.noConfusion hc | (exfalso; first | exact absurd rfl hc | omega) | (simp only [zb0, ne_eq, not_true_eq_false] at hc <;> first | exact absurd rfl hc | (exfalso; first | exact absurd rfl hc | omega) | skip) | skip)) | (refine And.intro zp1 ?_) | (apply And.intro) | (intro s hs; skip) | (refine Exists.intro _ (And.intro ⟨rfl, rfl, rfl⟩ ?_)))
 . refine fin_acc (s := sd) (d := 2) (hR.trans ?_) ha rfl (fun p h j => rowA_ne h) rfl rfl rfl rfl rfl rfl rfl fun q hq j hj => (neH.sh _ j hj).le
   unfold accS
   rw [if_pos hc]
 have hge := hc
 have w1 : IntKind.i64.wrap (c.num - 31) = c.num - 31 := IntWalk.i64_in _ (by omega)
 obtain ⟨⟨i, b⟩, hP⟩ : ∃ P, plcH c.num sd.held 0 = P := ⟨_, rfl⟩
 have hle := plc_le (id := c.num) (L := sd.held) (k := 0)
 rw [hP, Nat.zero_add] at hle
 dsimp only at hle
 obtain ⟨hle1, hle2, _⟩ := hle
 cases b with
 | true =>
   have hil := hle2 rfl
   clear hle2
   have hR2 : R = (L.set 7 (hearS sd i), false, 0) := by
    rw [hR]; unfold accS; rw [if_neg (by omega), hP]; rfl
   refine sem_step (wd := 1) (Q := mkQ (LMa g0)) (by decide) tysOk (q_of (LMa_ok g0)) mixed ?_
   repeat' (first | (apply And.intro <;> intro hc <;> (first | exact Bool.noConfusion hc | (exfalso; first | exact absurd rfl hc | omega) | (simp only [zb0, ne_eq, not_true_eq_false] at hc <;> first | exact absurd rfl hc | (exfalso; first | exact absurd rfl hc | omega) | skip) | skip)) | (refine And.intro zp1 ?_) | (apply And.intro) | (intro s hs; (first | (have q := rd_plc hs (toN_row0 neH_rd _) hP; clear hs; subst q) | (have q := rd_hear hs (Nat.zero_add i); clear hs; subst q))) | (refine Exists.intro _ (And.intro ⟨rfl, rfl, rfl⟩ ?_)))
   . exact fun _ _ => ⟨rfl, okD_sl _⟩
   . exact Eq.mpr (congrArg (fun z : List Hel => z.length <= 9223372036854775807) (toN_row0 neH_rd _)) (by omega)
   conv => whnf
   have hLh : (hearS sd i).held.length = sd.held.length := List.length_set
   refine fin_acc (s := hearS sd i) (d := 2) hR2 ha rfl (fun p h j => rowA_ne h) rfl rfl (by rw [hLh]; rfl) rfl rfl hLh.symm rfl fun q hq j hj => hel_row hil hj
 | false =>
   clear hle2
   refine sem_step (wd := 1) (Q := mkQ (LMa g0)) (by decide) tysOk (q_of (LMa_ok g0)) mixed ?_
   repeat' (first | (apply And.intro <;> intro hc <;> (first | exact Bool.noConfusion hc | (exfalso; first | exact absurd rfl hc | omega) | (simp only [zb0, ne_eq, not_true_eq_false] at hc <;> first | exact absurd rfl hc | (exfalso; first | exact absurd rfl hc | omega) | skip) | skip)) | (refine And.intro zp1 ?_) | (apply And.intro) | (intro s hs; (first | (have q := rd_plc hs (toN_row0 neH_rd _) hP; clear hs; subst q))) | (refine Exists.intro _ (And.intro ⟨rfl, rfl, rfl⟩ ?_)))
   . exact fun _ _ => ⟨rfl, okD_sl _⟩
   . exact Eq.mpr (congrArg (fun z : List Hel => z.length <= 9223372036854775807) (toN_row0 neH_rd _)) (by omega)
   change Sem _ _ _ _ _ _ _ _
   refine sem_cut (wd := 1024) (Q := mkQ (LMa g0)) (by decide) tysOk (q_of (LMa_ok g0)) (mono_of (LMa_ok g0)) mixed (SB L 7 (raiseS sd (c.num - 31)) now c deaf draw) (by intro _; rfl) ?_ ?_
   . repeat' (first | (simp only [w1]) | (apply And.intro <;> intro hc <;> (first | exact Bool.noConfusion hc | (exfalso; first | exact absurd rfl hc | omega) | (simp only [zb0, ne_eq, not_true_eq_false] at hc <;> first | exact absurd rfl hc | (exfalso; first | exact absurd rfl hc | omega) | skip) | skip)) | (refine And.intro zp1 ?_) | (apply And.intro) | (intro s hs; skip) | (refine Exists.intro _ (And.intro ⟨rfl, rfl, rfl⟩ ?_)))
     . exact rfl
     . conv => whnf
       rw [show raiseS sd (c.num - 31) = sd from if_pos hc]
       exact ⟨(), [], rfl, ⟨leF_int rfl, leF_bool rfl, leF_int rfl, leF_ptr rfl, leF_c (leC_os rfl rfl), leF_ptr rfl, trivial⟩, ⟨⟨rfl, leN_varA fun j hj => (neC.sh _ j hj).le⟩, ⟨rfl, ⟨rfl, rfl, rfl, rfl, fun p hp j hj => rowA_le hj rfl⟩⟩, ⟨rfl, leN_entN⟩, trivial⟩⟩
     . exact ⟨rfl, okD_sl _⟩
     . exact Eq.mpr (congrArg KpI (toN_row0 neH_rd _)) hk
     . conv => whnf
       have q : sd.held.filter (wantB (some (c.num - 31))) = s := (hs.trans (by rw [toN_row0 neH_rd])).symm
       clear hs
       rw [show raiseS sd (c.num - 31) = ⟨sd.id, c.num - 31, s⟩ from (if_neg hc).trans (by rw [q])]
       refine ⟨(), [(2, some 4141)], rfl, ⟨leF_int rfl, leF_bool rfl, leF_int rfl, leF_ptr rfl, leF_c (leC_os rfl rfl), leF_ptr rfl, trivial⟩, ⟨⟨rfl, leN_varA fun j hj => (neC.sh _ j hj).le⟩, ⟨rfl, ⟨rfl, rfl, rfl, rfl, fun p hp j hj => ?_⟩⟩, ⟨rfl, leN_entN⟩, trivial⟩⟩
       have hj : j < 3 := hj
       refine rowA_to hj (fun h => (updE_ne h).trans ((updE_ne h).trans (rowA_ne h))) fun h => ?_
       subst h
       rcases j with _ | _ | _ | j
       . exact leC_int rfl
       . exact leC_int rfl
       . exact leC_os rfl rfl
       . omega
   . intro _
     refine acc3 g0 L 7 (raiseS sd (c.num - 31)) now c deaf draw ⟨ha, hn, raise_k hk, raise_h hh, hnum, hd, hnow, hdr⟩ R ?_
     rw [hR]
     unfold accS
     rw [if_neg hge, hP]
     cases deaf <;> rfl
theorem acc2_8 (g0 : Nat) (L : List Sed) (a : Nat) (now : Int) (c : Cas) (deaf : Bool) (draw : Int) (hI : AcI L a now c draw) (R : List Sed × Bool × Int) (hR : R = (L.set a (accS (L.getD a default) now c deaf draw).1, (accS (L.getD a default) now c deaf draw).2, 0)) (a3 : a = 8) :
 Sem Try.prog Try.f11.ntmps 0 (dropC 7 (Try.f11.body.getD Code.ret)) (SA L a now c deaf draw ()).fr (SA L a now c deaf draw ()).H (SA L a now c deaf draw ()).nx (endH T Try.f11.results.toList fun x H _ => FinN (some R.1.length) (encAc R) (entN neS 78 R.1) x H) := by
 obtain ⟨ha, hn, hk, hh, hmn, hnum, hd, hnow, hdr⟩ := hI
 unfold SA
 rw [entG_A]
 obtain ⟨sd, es⟩ : ∃ s, L.getD a default = s := ⟨_, rfl⟩
 rw [es] at hk hh hmn hR ⊢
 subst a3
 refine sem_step (wd := 1) (Q := mkQ (LMa g0)) (by decide) tysOk (q_of (LMa_ok g0)) mixed ?_
 repeat' (first | (apply And.intro <;> intro hc <;> (first | exact Bool.noConfusion hc | (exfalso; first | exact absurd rfl hc | omega) | (simp only [zb0, ne_eq, not_true_eq_false] at hc <;> first | exact absurd rfl hc | (exfalso; first | exact absurd rfl hc | omega) | skip) | skip)) | (refine And.intro zp1 ?_) | (apply And.intro) | (intro s hs; skip) | (refine Exists.intro _ (And.intro ⟨rfl, rfl, rfl⟩ ?_)))
 refine sem_step (wd := 1) (Q := mkQ (LMa g0)) (by decide) tysOk (q_of (LMa_ok g0)) mixed ?_
 repeat' (first | (apply And.intro <;> intro hc <;> (first | exact Bool.noConfusion hc | (exfalso; first | exact absurd rfl hc | omega) | (simp only [zb0, ne_eq, not_true_eq_false] at hc <;> first | exact absurd rfl hc | (exfalso; first | exact absurd rfl hc | omega) | skip) | skip)) | (refine And.intro zp1 ?_) | (apply And.intro) | (intro s hs; skip) | (refine Exists.intro _ (And.intro ⟨rfl, rfl, rfl⟩ ?_)))
 . refine fin_acc (s := sd) (d := 2) (hR.trans ?_) ha rfl (fun p h j => rowA_ne h) rfl rfl rfl rfl rfl rfl rfl fun q hq j hj => (neH.sh _ j hj).le
   unfold accS
   rw [if_pos hc]
 have hge := hc
 have w1 : IntKind.i64.wrap (c.num - 31) = c.num - 31 := IntWalk.i64_in _ (by omega)
 obtain ⟨⟨i, b⟩, hP⟩ : ∃ P, plcH c.num sd.held 0 = P := ⟨_, rfl⟩
 have hle := plc_le (id := c.num) (L := sd.held) (k := 0)
 rw [hP, Nat.zero_add] at hle
 dsimp only at hle
 obtain ⟨hle1, hle2, _⟩ := hle
 cases b with
 | true =>
   have hil := hle2 rfl
   clear hle2
   have hR2 : R = (L.set 8 (hearS sd i), false, 0) := by
    rw [hR]; unfold accS; rw [if_neg (by omega), hP]; rfl
   refine sem_step (wd := 1) (Q := mkQ (LMa g0)) (by decide) tysOk (q_of (LMa_ok g0)) mixed ?_
   repeat' (first | (apply And.intro <;> intro hc <;> (first | exact Bool.noConfusion hc | (exfalso; first | exact absurd rfl hc | omega) | (simp only [zb0, ne_eq, not_true_eq_false] at hc <;> first | exact absurd rfl hc | (exfalso; first | exact absurd rfl hc | omega) | skip) | skip)) | (refine And.intro zp1 ?_) | (apply And.intro) | (intro s hs; (first | (have q := rd_plc hs (toN_row0 neH_rd _) hP; clear hs; subst q) | (have q := rd_hear hs (Nat.zero_add i); clear hs; subst q))) | (refine Exists.intro _ (And.intro ⟨rfl, rfl, rfl⟩ ?_)))
   . exact fun _ _ => ⟨rfl, okD_sl _⟩
   . exact Eq.mpr (congrArg (fun z : List Hel => z.length <= 9223372036854775807) (toN_row0 neH_rd _)) (by omega)
   conv => whnf
   have hLh : (hearS sd i).held.length = sd.held.length := List.length_set
   refine fin_acc (s := hearS sd i) (d := 2) hR2 ha rfl (fun p h j => rowA_ne h) rfl rfl (by rw [hLh]; rfl) rfl rfl hLh.symm rfl fun q hq j hj => hel_row hil hj
 | false =>
   clear hle2
   refine sem_step (wd := 1) (Q := mkQ (LMa g0)) (by decide) tysOk (q_of (LMa_ok g0)) mixed ?_
   repeat' (first | (apply And.intro <;> intro hc <;> (first | exact Bool.noConfusion hc | (exfalso; first | exact absurd rfl hc | omega) | (simp only [zb0, ne_eq, not_true_eq_false] at hc <;> first | exact absurd rfl hc | (exfalso; first | exact absurd rfl hc | omega) | skip) | skip)) | (refine And.intro zp1 ?_) | (apply And.intro) | (intro s hs; (first | (have q := rd_plc hs (toN_row0 neH_rd _) hP; clear hs; subst q))) | (refine Exists.intro _ (And.intro ⟨rfl, rfl, rfl⟩ ?_)))
   . exact fun _ _ => ⟨rfl, okD_sl _⟩
   . exact Eq.mpr (congrArg (fun z : List Hel => z.length <= 9223372036854775807) (toN_row0 neH_rd _)) (by omega)
   change Sem _ _ _ _ _ _ _ _
   refine sem_cut (wd := 1024) (Q := mkQ (LMa g0)) (by decide) tysOk (q_of (LMa_ok g0)) (mono_of (LMa_ok g0)) mixed (SB L 8 (raiseS sd (c.num - 31)) now c deaf draw) (by intro _; rfl) ?_ ?_
   . repeat' (first | (simp only [w1]) | (apply And.intro <;> intro hc <;> (first | exact Bool.noConfusion hc | (exfalso; first | exact absurd rfl hc | omega) | (simp only [zb0, ne_eq, not_true_eq_false] at hc <;> first | exact absurd rfl hc | (exfalso; first | exact absurd rfl hc | omega) | skip) | skip)) | (refine And.intro zp1 ?_) | (apply And.intro) | (intro s hs; skip) | (refine Exists.intro _ (And.intro ⟨rfl, rfl, rfl⟩ ?_)))
     . exact rfl
     . conv => whnf
       rw [show raiseS sd (c.num - 31) = sd from if_pos hc]
       exact ⟨(), [], rfl, ⟨leF_int rfl, leF_bool rfl, leF_int rfl, leF_ptr rfl, leF_c (leC_os rfl rfl), leF_ptr rfl, trivial⟩, ⟨⟨rfl, leN_varA fun j hj => (neC.sh _ j hj).le⟩, ⟨rfl, ⟨rfl, rfl, rfl, rfl, fun p hp j hj => rowA_le hj rfl⟩⟩, ⟨rfl, leN_entN⟩, trivial⟩⟩
     . exact ⟨rfl, okD_sl _⟩
     . exact Eq.mpr (congrArg KpI (toN_row0 neH_rd _)) hk
     . conv => whnf
       have q : sd.held.filter (wantB (some (c.num - 31))) = s := (hs.trans (by rw [toN_row0 neH_rd])).symm
       clear hs
       rw [show raiseS sd (c.num - 31) = ⟨sd.id, c.num - 31, s⟩ from (if_neg hc).trans (by rw [q])]
       refine ⟨(), [(2, some 4141)], rfl, ⟨leF_int rfl, leF_bool rfl, leF_int rfl, leF_ptr rfl, leF_c (leC_os rfl rfl), leF_ptr rfl, trivial⟩, ⟨⟨rfl, leN_varA fun j hj => (neC.sh _ j hj).le⟩, ⟨rfl, ⟨rfl, rfl, rfl, rfl, fun p hp j hj => ?_⟩⟩, ⟨rfl, leN_entN⟩, trivial⟩⟩
       have hj : j < 3 := hj
       refine rowA_to hj (fun h => (updE_ne h).trans ((updE_ne h).trans (rowA_ne h))) fun h => ?_
       subst h
       rcases j with _ | _ | _ | j
       . exact leC_int rfl
       . exact leC_int rfl
       . exact leC_os rfl rfl
       . omega
   . intro _
     refine acc3 g0 L 8 (raiseS sd (c.num - 31)) now c deaf draw ⟨ha, hn, raise_k hk, raise_h hh, hnum, hd, hnow, hdr⟩ R ?_
     rw [hR]
     unfold accS
     rw [if_neg hge, hP]
     cases deaf <;> rfl
theorem acc2 (g0 : Nat) (L : List Sed) (a : Nat) (now : Int) (c : Cas) (deaf : Bool) (draw : Int) (hI : AcI L a now c draw) (R : List Sed × Bool × Int) (hR : R = (L.set a (accS (L.getD a default) now c deaf draw).1, (accS (L.getD a default) now c deaf draw).2, 0)) :
 Sem Try.prog Try.f11.ntmps 0 (dropC 7 (Try.f11.body.getD Code.ret)) (SA L a now c deaf draw ()).fr (SA L a now c deaf draw ()).H (SA L a now c deaf draw ()).nx (endH T Try.f11.results.toList fun x H _ => FinN (some R.1.length) (encAc R) (entN neS 78 R.1) x H) := by
 have h : a = 0 \/ a = 1 \/ a = 2 \/ a = 3 \/ a = 4 \/ a = 5 \/ a = 6 \/ a = 7 \/ a = 8 := by have := hI.lt; have := hI.n; omega
 rcases h with h | h | h | h | h | h | h | h | h
 . exact acc2_0 g0 L a now c deaf draw hI R hR h
 . exact acc2_1 g0 L a now c deaf draw hI R hR h
 . exact acc2_2 g0 L a now c deaf draw hI R hR h
 . exact acc2_3 g0 L a now c deaf draw hI R hR h
 . exact acc2_4 g0 L a now c deaf draw hI R hR h
 . exact acc2_5 g0 L a now c deaf draw hI R hR h
 . exact acc2_6 g0 L a now c deaf draw hI R hR h
 . exact acc2_7 g0 L a now c deaf draw hI R hR h
 . exact acc2_8 g0 L a now c deaf draw hI R hR h
theorem time_rng {t : Int} (h : isTimeT t = true) : 0 <= t /\ t <= 1099511627776 := by
 unfold isTimeT at h
 simp only [Bool.and_eq_true, decide_eq_true_eq] at h
 omega
theorem rd_validL {s V : Bool} {M L : List Sed} (hs : s = validL M) (h : M = L) (hV : validL L = V) : V = s := by rw [hs, h, hV]
theorem rd_fnd {s F : Nat × Bool} {id : Int} {M L : List Sed} (hs : s = fndS id M 0) (h : M = L) (hF : fndS id L 0 = F) : F = s := by rw [hs, h, hF]
theorem acc1 (L : List Sed) (now : Int) (c : Cas) (deaf : Bool) (draw : Int) (hL : LHn L) (hdr : drawOk draw) : NewOk Try.prog 11 [(cNS neS neS_sz).enc L, (cI .i64).enc now, (cN neC).enc c, cB.enc deaf, (cI .u32).enc draw] (some (acceptF L now c deaf draw).1.length) (encAc (acceptF L now c deaf draw)) (entN neS 78 (acceptF L now c deaf draw).1) := by
 obtain ⟨R, hR⟩ : ∃ R, acceptF L now c deaf draw = R := ⟨_, rfl⟩
 rw [hR]
 obtain ⟨g, hg⟩ : ∃ g, (if (fndS c.id L 0).2 = true then (fndS c.id L 0).1 else L.length) = g := ⟨_, rfl⟩
 obtain ⟨V, hV⟩ : ∃ V, validL L = V := ⟨_, rfl⟩
 obtain ⟨F, hF⟩ : ∃ F, fndS c.id L 0 = F := ⟨_, rfl⟩
 obtain ⟨B, hB⟩ : ∃ B, isTimeT now = B := ⟨_, rfl⟩
 have g1 : True := trivial
 have g2 : True := trivial
 have g3 : True := trivial
 have hV0 : V = false -> R = ([], false, 1) := fun h => by rw [<- hR]; unfold acceptF; rw [if_pos (.inl (hV.trans h))]
 have hI0 : c.id = 0 -> R = ([], false, 1) := fun h => by rw [<- hR]; unfold acceptF; rw [if_pos (.inr (.inl h))]
 have hD0 : 64 < c.data.length -> R = ([], false, 1) := fun h => by rw [<- hR]; unfold acceptF; rw [if_pos (.inr (.inr h))]
 have h1 : V = true -> ¬ c.id = 0 -> ¬ 64 < c.data.length -> R = if isTimeT now = false \/ c.num < 0 \/ 1073741824 <= c.num then ([], false, 2) else
  if F.2 = false /\ 8 <= L.length then ([], false, 10) else
  ((accL c L).set F.1 (accS ((accL c L).getD F.1 default) now c deaf draw).1, (accS ((accL c L).getD F.1 default) now c deaf draw).2, 0) := fun ha hb hd => by
  rw [<- hR]; unfold acceptF; rw [if_neg (by rw [hV, ha]; simp; omega), hF]
 clear hR
 refine new_introS tysOk Try.func11 rfl _ (by show 5 <= _; decide) (fun i _ j hj => rowN_nf _ hj) ?_
 refine sem_step (wd := 1) (Q := mkQ (LMa g)) (by decide) tysOk (q_of (LMa_ok g)) mixed ?_
 refine sem_step (wd := 1) (Q := mkQ (LMa g)) (by decide) tysOk (q_of (LMa_ok g)) mixed ?_
 repeat' (first | (apply And.intro <;> intro hc <;> (first | exact Bool.noConfusion hc | (exfalso; first | exact absurd rfl hc) | (simp only [zb0, ne_eq, not_true_eq_false] at hc <;> first | exact absurd rfl hc | (exfalso; first | exact absurd rfl hc) | skip) | skip)) | (refine And.intro zp1 ?_) | (apply And.intro) | (intro s hs; (have q : V = s := rd_validL hs (toN_row neS_rd _) hV; clear hs; subst q)) | (refine Exists.intro _ (And.intro ⟨rfl, rfl, rfl⟩ ?_)))
 . exact fun _ _ => ⟨rfl, okHs_sl _⟩
 . exact Eq.mpr (congrArg LHn (toN_row neS_rd _)) hL
 . exact fin_err (hV0 (by assumption))
 . exact fin_err (hI0 (by assumption))
 . exact fin_err (hD0 (by omega))
 rename_i hi
 have h2 := h1 (by assumption) hi (by omega)
 clear h1 hV0 hI0 hD0
 refine sem_step (wd := 1) (Q := mkQ (LMa g)) (by decide) tysOk (q_of (LMa_ok g)) mixed ?_
 repeat' (first | (apply And.intro <;> intro hc <;> (first | exact Bool.noConfusion hc | (exfalso; first | exact absurd rfl hc) | (simp only [zb0, ne_eq, not_true_eq_false] at hc <;> first | exact absurd rfl hc | (exfalso; first | exact absurd rfl hc) | skip) | skip)) | (refine And.intro zp1 ?_) | (apply And.intro) | (intro s hs; (have q : B = s := hB.symm.trans hs.symm; clear hs; subst q)) | (refine Exists.intro _ (And.intro ⟨rfl, rfl, rfl⟩ ?_)))
 . exact fin_err (h2.trans (if_pos (.inl (hB.trans (by assumption)))))
 . exact fin_err (h2.trans (if_pos (.inr (.inl (by assumption)))))
 . exact fin_err (h2.trans (if_pos (.inr (.inr hc))))
 rename_i hn
 have h3 := h2.trans (if_neg (by rw [hB, show B = true by assumption]; simp; omega))
 clear h2
 have hVt : validL L = true := hV.trans (by assumption)
 have hCl := vl_cl hVt
 have hl8 := vl_len hVt
 refine sem_step (wd := 1) (Q := mkQ (LMa g)) (by decide) tysOk (q_of (LMa_ok g)) mixed ?_
 repeat' (first | (apply And.intro <;> intro hc <;> (first | exact Bool.noConfusion hc | (exfalso; first | exact absurd rfl hc) | (simp only [zb0, ne_eq, not_true_eq_false] at hc <;> first | exact absurd rfl hc | (exfalso; first | exact absurd rfl hc) | skip) | skip)) | (refine And.intro zp1 ?_) | (apply And.intro) | (intro s hs; (have q : F = s := rd_fnd hs (toN_row neS_rd _) hF; clear hs; subst q)) | (refine Exists.intro _ (And.intro ⟨rfl, rfl, rfl⟩ ?_)))
 . exact fun _ _ => ⟨rfl, okHs_sl _⟩
 . exact Eq.mpr (congrArg (fun z : List Sed => z.length <= 9223372036854775807) (toN_row neS_rd _)) hL.n
 refine sem_step (wd := 1) (Q := mkQ (LMa g)) (by decide) tysOk (q_of (LMa_ok g)) mixed ?_
 repeat' (first | (apply And.intro <;> intro hc <;> (first | exact Bool.noConfusion hc | (exfalso; first | exact absurd rfl hc) | (simp only [zb0, ne_eq, not_true_eq_false] at hc <;> first | exact absurd rfl hc | (exfalso; first | exact absurd rfl hc) | skip) | skip)) | (refine And.intro zp1 ?_) | (apply And.intro) | (intro s hs; skip) | (refine Exists.intro _ (And.intro ⟨rfl, rfl, rfl⟩ ?_)))
 . exact fin_err (h3.trans (if_pos ⟨by assumption, by omega⟩))
 . rename_i hu
   have h4 := h3.trans (if_neg (by omega))
   clear h3
   rw [hF, if_neg (by rw [hu]; simp)] at hg
   have eA : accL c L = insA F.1 ⟨c.id, c.num, []⟩ L := by
    unfold accL; rw [hF, if_neg (by rw [hu]; simp)]
   obtain ⟨f1, _, _⟩ := fnd_le (id := c.id) (L := L) (k := 0)
   rw [hF, Nat.zero_add] at f1
   have w1 : IntKind.i64.wrap ((F.1 : Int) + 1) = ((F.1 + 1 : Nat) : Int) := (IntWalk.i64_in _ (by omega)).trans (by omega)
   refine sem_step (wd := 2) (Q := mkQ (LMa g)) (by decide) tysOk (q_of (LMa_ok g)) mixed ?_
   repeat' (first | (apply And.intro <;> intro hc <;> (first | exact Bool.noConfusion hc | (exfalso; first | exact absurd rfl hc) | (simp only [zb0, ne_eq, not_true_eq_false] at hc <;> first | exact absurd rfl hc | (exfalso; first | exact absurd rfl hc) | skip) | skip)) | (refine And.intro zp1 ?_) | (apply And.intro) | (intro s hs; (have q : L = s := (hs.trans (toN_row neS_rd _)).symm; clear hs; subst q)) | (refine Exists.intro _ (And.intro ⟨rfl, rfl, rfl⟩ ?_)))
   . exact fun _ _ => ⟨rfl, okHs_sl _⟩
   . exact Eq.mpr (congrArg ClI (toN_row neS_rd _)) hCl
   change Sem _ _ _ _ _ _ _ _
   refine sem_cut (wd := 1) (Q := mkQ (LMa g)) (by decide) tysOk (q_of (LMa_ok g)) (mono_of (LMa_ok g)) mixed (SA (accL c L) F.1 now c deaf draw) (by intro _; rfl) ?_ ?_
   . repeat' (first | (simp only [w1]) | (apply And.intro <;> intro hc <;> (first | exact Bool.noConfusion hc | (exfalso; first | exact absurd rfl hc | (rw [hu] at hc; exact Bool.noConfusion hc)) | (simp only [zb0, ne_eq, not_true_eq_false] at hc <;> first | exact absurd rfl hc | (exfalso; first | exact absurd rfl hc | (rw [hu] at hc; exact Bool.noConfusion hc)) | skip) | skip)) | (refine And.intro zp1 ?_) | (apply And.intro) | (intro s hs; skip) | (refine Exists.intro _ (And.intro ⟨rfl, rfl, rfl⟩ ?_)))
     conv => whnf
     refine ⟨(), [(1, some 58), (2, none)], rfl, ⟨leF_int rfl, leF_bool rfl, leF_int rfl, leF_ptr rfl, leF_int rfl, leF_c (leC_os rfl (by rw [eA, insA_len f1])), trivial⟩, ⟨⟨rfl, leN_varA fun j hj => (neC.sh _ j hj).le⟩, ⟨rfl, ⟨rfl, by show L.length + 1 = (accL c L).length; rw [eA, insA_len f1], rfl, rfl, fun p hp j hj => ?_⟩⟩, ?_, trivial⟩⟩
     . have hj : j < 3 := hj
       have hp : p < L.length + 1 := hp
       show LeC _ _ (rowG 2 F.1 (accL c L) p j)
       refine ins_cells (r := rowG 50 g L) f1 ?_ hp (fun h => ?_) (fun h => ?_) (fun h => ?_)
       . show min (L.length + 1 - F.1) (L.length + 1 - (F.1 + 1)) = _
         omega
       . rw [rowG_i (.inl (by omega)), rowG_i (.inl (by omega)), eA, show rowN neS (insA F.1 ⟨c.id, c.num, []⟩ L) p j = rowN neS L p j from congrArg (fun z => neS.cell z j) (insA_lt f1 h)]
         exact (neS.sh _ j hj).le
       . subst h
         rcases j with _ | _ | _ | j
         . rw [rowG_i (.inr (by decide)), eA, show rowN neS (insA F.1 ⟨c.id, c.num, []⟩ L) F.1 0 = _ from congrArg (fun z => neS.cell z 0) (insA_eq f1)]
           exact leC_int rfl
         . rw [rowG_i (.inr (by decide)), eA, show rowN neS (insA F.1 ⟨c.id, c.num, []⟩ L) F.1 1 = _ from congrArg (fun z => neS.cell z 1) (insA_eq f1)]
           exact leC_int rfl
         . rw [rowG_g, eA, insA_eq f1]
           exact leC_nils_os rfl
         . omega
       . rw [rowG_i (.inl (by omega)), rowG_i (.inl (by omega)), eA, show rowN neS (insA F.1 ⟨c.id, c.num, []⟩ L) p j = rowN neS L (p - 1) j from congrArg (fun z => neS.cell z j) (insA_gt f1 h)]
         exact (neS.sh _ j hj).le
     . rw [eA, insA_eq f1]
       exact ⟨rfl, rfl, rfl, Nat.le_of_ble_eq_true rfl⟩
   . intro _
     refine acc2 g (accL c L) F.1 now c deaf draw ⟨?_, ?_, ?_, ?_, ?_, ⟨by omega, by omega⟩, by omega, time_rng (hB.trans (by assumption)), hdr⟩ R h4
     . rw [eA, insA_len f1]; omega
     . rw [eA, insA_len f1]; omega
     . rw [eA, insA_eq f1]; exact ⟨Nat.zero_le _, fun x hx => by cases hx⟩
     . rw [eA, insA_eq f1]; exact Nat.zero_le _
     . rw [eA, insA_eq f1]; exact ⟨by dsimp only; omega, by dsimp only; omega⟩
 . rename_i hu
   have h4 := h3.trans (if_neg (by rw [hu]; simp))
   clear h3
   rw [hF, if_pos hu] at hg
   have eA : accL c L = L := by
    unfold accL; rw [hF, if_pos hu]
   obtain ⟨_, f2, _⟩ := fnd_le (id := c.id) (L := L) (k := 0)
   rw [hF, Nat.zero_add] at f2
   have hlt := f2 hu
   refine sem_step (wd := 2) (Q := mkQ (LMa g)) (by decide) tysOk (q_of (LMa_ok g)) mixed ?_
   repeat' (first | (apply And.intro <;> intro hc <;> (first | exact Bool.noConfusion hc | (exfalso; first | exact absurd rfl hc) | (simp only [zb0, ne_eq, not_true_eq_false] at hc <;> first | exact absurd rfl hc | (exfalso; first | exact absurd rfl hc) | skip) | skip)) | (refine And.intro zp1 ?_) | (apply And.intro) | (intro s hs; (have q : L = s := (hs.trans (toN_row neS_rd _)).symm; clear hs; subst q)) | (refine Exists.intro _ (And.intro ⟨rfl, rfl, rfl⟩ ?_)))
   . exact fun _ _ => ⟨rfl, okHs_sl _⟩
   . exact Eq.mpr (congrArg ClI (toN_row neS_rd _)) hCl
   change Sem _ _ _ _ _ _ _ _
   refine sem_cut (wd := 1) (Q := mkQ (LMa g)) (by decide) tysOk (q_of (LMa_ok g)) (mono_of (LMa_ok g)) mixed (SA (accL c L) F.1 now c deaf draw) (by intro _; rfl) ?_ ?_
   . repeat' (first | (apply And.intro <;> intro hc <;> (first | exact Bool.noConfusion hc | (exfalso; first | exact absurd rfl hc | (rw [hu] at hc; exact Bool.noConfusion hc)) | (simp only [zb0, ne_eq, not_true_eq_false] at hc <;> first | exact absurd rfl hc | (exfalso; first | exact absurd rfl hc | (rw [hu] at hc; exact Bool.noConfusion hc)) | skip) | skip)) | (refine And.intro zp1 ?_) | (apply And.intro) | (intro s hs; skip) | (refine Exists.intro _ (And.intro ⟨rfl, rfl, rfl⟩ ?_)))
     conv => whnf
     rw [eA]
     subst hg
     exact ⟨(), [(1, some 49), (2, some 50)], rfl, ⟨leF_int rfl, leF_bool rfl, leF_int rfl, leF_ptr rfl, leF_int rfl, leF_c (leC_os rfl rfl), trivial⟩, ⟨⟨rfl, leN_varA fun j hj => (neC.sh _ j hj).le⟩, ⟨rfl, ⟨rfl, rfl, rfl, rfl, fun p hp j hj => rowG_le hj fun _ => rfl⟩⟩, ⟨rfl, leN_entN⟩, trivial⟩⟩
   . intro _
     have hS := (vl_mem hVt _ (getD_mem hlt)).2
     refine acc2 g (accL c L) F.1 now c deaf draw ⟨?_, ?_, ?_, ?_, ?_, ⟨by omega, by omega⟩, by omega, time_rng (hB.trans (by assumption)), hdr⟩ R h4
     . rw [eA]; exact hlt
     . rw [eA]; omega
     . rw [eA]; exact hS.k
     . rw [eA]; exact hS.n
     . rw [eA]; exact hS.mn
structure AccP (L : List Sed) (d : Int) : Prop where
 h : LHn L
 d : drawOk d
abbrev acceptE : Entry := newE (AC.cons (cNS neS neS_sz) (AC.cons (cI .i64) (AC.cons (cN neC) (AC.cons cB (AC.cons (cI .u32) AC.nil))))) (fun a => AccP a.1 a.2.2.2.2.1) (fun a => acceptF a.1 a.2.1 a.2.2.1 a.2.2.2.1 a.2.2.2.2.1) (fun s => some s.1.length) encAc (fun s => entN neS 78 s.1)
theorem acceptE_ok : EntOk Try.prog 11 acceptE := newE_ok ⟨_, Try.func11, rfl, by kernel_rfl⟩ (fun s l h x hx => by
 injection h with h
 subst h
 rcases List.mem_cons.1 hx with rfl | hx
 . exact nfE_c nf_bool
 . rcases List.mem_cons.1 hx with rfl | hx
   . exact nfE_c nf_int
   . cases hx) fun a h => acc1 a.1 a.2.1 a.2.2.1 a.2.2.2.1 a.2.2.2.2.1 h.h h.d
theorem vl_hn {L : List Sed} (h : validL L = true) : LHn L := ⟨fun x hx => by have := (vl_mem h x hx).2.n; omega, by have := vl_len h; omega⟩
theorem okD_nil : okD .nils := by first | exact trivial | exact .nils | exact .inl rfl | exact rfl
def kc35 : Cas := ⟨7, 5, [1]⟩
def ka35 : List Sed × Bool × Int := acceptF [] 3 kc35 false 0
def kb35 : List Sed × Bool × Int := acceptF ka35.1 4 kc35 false 0
def kd35 : List Sed × Bool × Int := acceptF kb35.1 4 ⟨7, 4, []⟩ false 0
theorem kn35 : ka35.2 = (true, 0) /\ kb35.2 = (false, 0) /\ kd35.2 = (false, 0) /\ kb35.1.length = 1 /\ (kb35.1.getD 0 default).held.length = 1 /\ ((kb35.1.getD 0 default).held.getD 0 default).tm.heard = 1 := by decide +kernel
theorem rd_acc {s K : List Sed × Bool × Int} {M L : List Sed} {now : Int} {c c' : Cas} {deaf : Bool} {draw : Int} (hs : s = acceptF M now c' deaf draw) (h : M = L) (hc : c' = c) (hK : acceptF L now c deaf draw = K) : K = s := by rw [hs, h, hc, hK]
def LMd : CsL := (11, some acceptE) :: []
theorem LMd_ok : AllOk Try.prog LMd := ⟨acceptE_ok, trivial⟩
def SKn (_ : Unit) : Hd := ⟨[(1, one (.ptr 0 0 0 false))], [(0, some ⟨32, 1, 3, true, fun _ => neC.cell kc35⟩)], 1⟩
theorem dr0 : drawOk 0 := by unfold drawOk; omega
theorem known35_ok : PureOk Try.prog 12 [] (cB.enc true) := by
 obtain ⟨k1, k2, k3, k4, k5, k6⟩ := kn35
 have v1 : LHn ka35.1 := vl_hn (acceptF_ok (by decide) (congrArg Prod.snd k1))
 have v2 : LHn kb35.1 := vl_hn (acceptF_ok (by decide) (congrArg Prod.snd k2))
 obtain ⟨A, eA⟩ : ∃ A, ka35 = A := ⟨_, rfl⟩
 obtain ⟨B, eB'⟩ : ∃ A, kb35 = A := ⟨_, rfl⟩
 obtain ⟨D, eD⟩ : ∃ A, kd35 = A := ⟨_, rfl⟩
 have hA : acceptF [] 3 kc35 false 0 = A := eA
 have hB : acceptF A.1 4 kc35 false 0 = B := by rw [<- eA]; exact eB'
 have hD : acceptF B.1 4 ⟨7, 4, []⟩ false 0 = D := by rw [<- eB']; exact eD
 rw [eA] at k1 v1
 rw [eB'] at k2 k4 k5 k6 v2
 rw [eD] at k3
 clear eA eB' eD
 obtain ⟨a1, a2, a3⟩ := A
 obtain ⟨b1, b2, b3⟩ := B
 obtain ⟨d1, d2, d3⟩ := D
 dsimp only at k1 k2 k3 k4 k5 k6 v1 v2
 injection k1 with k1 k1'
 injection k2 with k2 k2'
 injection k3 with k3 k3'
 subst k1 k1' k2 k2' k3 k3'
 refine pure_introS tysOk Try.func12 rfl _ (by show 0 <= _; decide) _ ?_
 refine sem_step (wd := 1) (Q := mkQ LMd) (by decide) tysOk (q_of LMd_ok) mixed ?_
 change Sem _ _ _ _ _ _ _ _
 refine sem_cut (wd := 1) (Q := mkQ LMd) (by decide) tysOk (q_of LMd_ok) (mono_of LMd_ok) mixed SKn (by intro _; rfl) ?_ ?_
 . conv => whnf
   refine ⟨(), [(0, some 3)], rfl, ⟨leF_ptr rfl, trivial⟩, ⟨⟨rfl, leN_varA fun j hj => ?_⟩, trivial⟩⟩
   rcases j with _ | _ | _ | j
   . exact leC_int rfl
   . exact leC_int rfl
   . refine leC_os_sl rfl rfl rfl rfl (Nat.le_refl _) fun q hq j hj => ?_
     rcases q with _ | q
     . rcases j with _ | j
       . exact leC_int rfl
       . exact absurd hj (by show ¬ _ < 1; omega)
     . exact absurd hq (by omega)
   . exact absurd hj (by show ¬ _ < 3; omega)
 intro _
 refine sem_exec (wd := 1) (Q := mkQ LMd) (by decide) tysOk (q_of LMd_ok) mixed ?_
 repeat' (first | (apply And.intro <;> intro hc <;> (first | exact Bool.noConfusion hc | (exfalso; first | exact absurd rfl hc | omega) | (simp only [zb0, ne_eq, not_true_eq_false] at hc <;> first | exact absurd rfl hc | (exfalso; first | exact absurd rfl hc | omega) | skip) | skip)) | (refine And.intro zp1 ?_) | (apply And.intro) | (intro s hs; (first | (have q := rd_acc hs rfl (neC_rd _) hA; clear hs; subst q) | (have q := rd_acc hs (toN_row0 neS_rd _) (neC_rd _) hB; clear hs; subst q) | (have q := rd_acc hs (toN_row0 neS_rd _) rfl hD; clear hs; subst q))) | (refine Exists.intro _ (And.intro ⟨rfl, rfl, rfl⟩ ?_)))
 . exact ⟨rfl, okD_sl _⟩
 . exact ⟨⟨fun x hx => (List.not_mem_nil hx).elim, Nat.zero_le _⟩, dr0⟩
 . exact fun _ _ => ⟨rfl, okHs_sl _⟩
 . exact ⟨rfl, okD_sl _⟩
 . exact ⟨Eq.mpr (congrArg LHn (toN_row0 neS_rd _)) v1, dr0⟩
 . exact fun _ _ => ⟨rfl, okHs_sl _⟩
 . exact ⟨rfl, okD_nil⟩
 . exact ⟨Eq.mpr (congrArg LHn (toN_row0 neS_rd _)) v2, dr0⟩
 . conv => whnf
   exact Done.mk (leF_bool (decide_eq_true k6))
 . exact absurd (congrArg (fun n : Nat => (n : Int)) k5) hc
abbrev known35E : Entry := pureE AC.nil (fun _ => True) (fun _ => true) cB.enc
theorem known35E_ok : EntOk Try.prog 12 known35E := pureE_ok ⟨_, Try.func12, rfl, by kernel_rfl⟩ fun a _ => known35_ok
def LSm : CsL := (31, some mvalidE) :: []
theorem LSm_ok : AllOk Try.prog LSm := ⟨pureE_ok ⟨_, Try.func31, rfl, by kernel_rfl⟩ fun a h => mvalid_ok a.1 h, trivial⟩
theorem lt3c {P : Nat -> Prop} (h : P 0 /\ P 1 /\ P 2) : ∀ j, j < 3 -> P j := fun j hj => by
 rcases (show j = 0 \/ j = 1 \/ j = 2 by omega) with rfl | rfl | rfl
 . exact h.1
 . exact h.2.1
 . exact h.2.2
structure SySt (L : List Sed) (R : List Smy) where
 i : Nat
 O : List Smy
 hi : i <= L.length
 h : O ++ (L.drop i).map sumS = R
 n : O.length = i
theorem summ_ok (L : List Sed) (hL : LHn L) : NewOk Try.prog 30 [(cNS neS neS_sz).enc L] (some (summF L).length) none (ents eSm 60 (summF L)) := by
 obtain ⟨V, hV⟩ : ∃ V, validL L = V := ⟨_, rfl⟩
 obtain ⟨R, hR⟩ : ∃ R, summF L = R := ⟨_, rfl⟩
 have h8' : V = true -> L.length <= 8 := fun h => vl_len (hV.trans h)
 rw [hR]
 refine new_intro (wd := 1) (Q := mkQ LSm) (by decide) tysOk (q_of LSm_ok) mixed Try.func30 rfl _ (by show 1 <= _; decide) (fun i _ j _ => row_nf eSm R i j) ?_
 repeat' (first | (apply And.intro <;> intro hc <;> (first | exact Bool.noConfusion hc | (exfalso; first | exact absurd rfl hc | omega) | (simp only [zb0, ne_eq, not_true_eq_false] at hc <;> first | exact absurd rfl hc | (exfalso; first | exact absurd rfl hc | omega) | skip) | skip)) | (refine And.intro zp1 ?_) | (apply And.intro) | (intro s hs; (have q : V = s := rd_validL hs (toN_row neS_rd _) hV; clear hs; subst q)))
 . exact fun _ _ => ⟨rfl, okHs_sl _⟩
 . exact Eq.mpr (congrArg LHn (toN_row neS_rd _)) hL
 . have e : R = [] := by rw [<- hR]; unfold summF; rw [if_neg (by rw [hV, (by assumption : V = false)]; simp)]
   subst e
   conv => whnf
   exact ⟨none, leF_c (leC_nils_os rfl), ⟨rfl, rfl, Nat.le_of_ble_eq_true rfl⟩⟩
 . have := h8' (by assumption)
   show (24 : Int) * (L.length : Int) <= 281474976710656; omega
 . have := h8' (by assumption)
   omega
 have hVt : validL L = true := hV.trans (by assumption)
 have h8 := vl_len hVt
 have eR : L.map sumS = R := by rw [<- hR]; unfold summF; rw [if_pos hVt]
 conv => whnf
 refine loop_intro (mono_of LSm_ok) (fun s : SySt L R => (⟨[(3, one (.os 50 0 s.O.length)), (15, one (slBN neS L)), (16, one (.int .i64 (L.length : Int))), (17, one (.int .i64 (s.i : Int)))], [(50, some (ents eSm 60 s.O))], 51⟩ : Hd)) (fun s => L.length - s.i) (fun _ => rfl) ?_ ⟨0, [], Nat.zero_le _, eR, rfl⟩ [(50, some 6)] ⟨rfl, ⟨leF_c (leC_os rfl rfl), leF_c (leC_cl (cl_slBN L)), leF_int rfl, leF_int rfl, trivial⟩, ⟨rfl, ⟨rfl, rfl, rfl, rfl, fun p hp => absurd hp (Nat.not_lt_zero p)⟩⟩, trivial⟩
 rintro ⟨i, O, hi, hO, hOl⟩
 dsimp only at hi hO hOl ⊢
 unfold slBN
 by_cases hil : i < L.length
 . have hx := (vl_mem hVt _ (getD_in hil)).2
   obtain ⟨x, ex⟩ : ∃ x, L.getD i default = x := ⟨_, rfl⟩
   have ec : rowN neS L i = neS.cell x := congrArg neS.cell ex
   rw [ex] at hx
   have hO2 : (O ++ [sumS x]) ++ (L.drop (i + 1)).map sumS = R := by rw [drop_at hil, ex] at hO; rw [<- hO]; simp
   have z0 : (i : Int).toNat = i := rfl
   repeat' (first | (simp only [z0, ec]) | (apply And.intro <;> intro hc <;> (first | exact Bool.noConfusion hc | (exfalso; first | exact absurd rfl hc | omega) | (simp only [zb0, ne_eq, not_true_eq_false] at hc <;> first | exact absurd rfl hc | (exfalso; first | exact absurd rfl hc | omega) | skip) | skip)) | (refine And.intro zp1 ?_) | (apply And.intro) | (intro s hs; skip))
   conv => whnf
   obtain ⟨W, eW⟩ : ∃ W, bitsF x.mn x.held 0 = W := ⟨_, rfl⟩
   refine loop_intro (mono_of LSm_ok) (fun s : {p : Nat × Int // p.1 <= x.held.length /\ bitsF x.mn (x.held.drop p.1) p.2 = W} => (⟨[(3, one (.os 50 0 O.length)), (15, one (slBN neS L)), (16, one (.int .i64 (L.length : Int))), (17, one (.int .i64 (i : Int))), (5, one (.ptr 51 0 0 false)), (6, one (.ptr 52 0 0 false)), (27, one (slN neH x.held)), (28, one (.int .i64 (x.held.length : Int))), (29, one (.int .i64 (s.1.1 : Int)))], [(50, some (ents eSm 60 O)), (51, some ⟨78, 1, 3, true, fun _ => neS.cell x⟩), (52, some ⟨60, 1, 3, true, fun _ => eSm.cell ⟨x.id, x.mn, s.1.2⟩⟩)], 53⟩ : Hd)) (fun s => x.held.length - s.1.1) (fun _ => rfl) ?_ ⟨(0, 0), Nat.zero_le _, eW⟩ [(51, some 54), (52, some 61)] ⟨rfl, ⟨leF_c (leC_os rfl rfl), leF_c (leC_cl (cl_slBN L)), leF_int rfl, leF_int rfl, leF_ptr rfl, leF_ptr rfl, leF_c (sh_slN _).le, leF_int rfl, leF_int rfl, trivial⟩, ⟨⟨rfl, leN_ents⟩, ⟨rfl, leN_varA fun j hj => (neS.sh _ j hj).le⟩, ⟨rfl, leN_varA (lt3c ⟨leC_int rfl, leC_int rfl, leC_int rfl⟩)⟩, trivial⟩⟩
   rintro ⟨⟨k, b⟩, hk, hb⟩
   dsimp only at hk hb ⊢
   unfold slBN
   by_cases hkn : k < x.held.length
   . have hm := hels_ok hx (getD_in hkn)
     have hm1 := (vh_mem hx.h _ (getD_in hkn)).1
     have hmn := hx.mn
     have hmw := hm.w
     have hxn := hx.n
     have hst : bitsF x.mn (x.held.drop (k + 1)) (bits .or .u32 b (shlI .u32 1 ((x.held.getD k default).num - x.mn))) = W := by rw [<- hb, drop_at hkn]; rfl
     have w4 : IntKind.i64.wrap ((k : Int) + 1) = ((k + 1 : Nat) : Int) := (IntWalk.i64_in _ (by omega)).trans (by omega)
     have w5 : IntKind.i64.wrap ((x.held.getD k default).num - x.mn) = (x.held.getD k default).num - x.mn := IntWalk.i64_in _ (by omega)
     have z1 : (k : Int).toNat = k := rfl
     repeat' (first | (simp only [z1, w4, w5]) | (apply And.intro <;> intro hc <;> (first | exact Bool.noConfusion hc | (exfalso; first | exact absurd rfl hc | omega) | (simp only [zb0, ne_eq, not_true_eq_false] at hc <;> first | exact absurd rfl hc | (exfalso; first | exact absurd rfl hc | omega) | skip) | skip)) | (refine And.intro zp1 ?_) | (apply And.intro) | (intro s hs; skip))
     conv => whnf
     exact ⟨⟨(k + 1, _), hkn, hst⟩, [], by dsimp only; omega, rfl, ⟨leF_c (leC_os rfl rfl), leF_c (leC_cl (cl_slBN L)), leF_int rfl, leF_int rfl, leF_ptr rfl, leF_ptr rfl, leF_c (sh_slN _).le, leF_int rfl, leF_int w4, trivial⟩, ⟨⟨rfl, leN_ents⟩, ⟨rfl, leN_varA fun j hj => (neS.sh _ j hj).le⟩, ⟨rfl, leN_varA (lt3c ⟨leC_int rfl, leC_int rfl, leC_int rfl⟩)⟩, trivial⟩⟩
   . have e : b = W := by rw [<- hb, List.drop_of_length_le (by omega)]; rfl
     subst e
     repeat' (first | (apply And.intro <;> intro hc <;> (first | exact Bool.noConfusion hc | (exfalso; first | exact absurd rfl hc | omega) | (simp only [zb0, ne_eq, not_true_eq_false] at hc <;> first | exact absurd rfl hc | (exfalso; first | exact absurd rfl hc | omega) | skip) | skip)) | (refine And.intro zp1 ?_) | (apply And.intro) | (intro s hs; skip))
     have w4 : IntKind.i64.wrap ((i : Int) + 1) = ((i + 1 : Nat) : Int) := (IntWalk.i64_in _ (by omega)).trans (by omega)
     conv => whnf
     refine ⟨⟨i + 1, O ++ [sumS x], hil, hO2, by rw [List.length_append, hOl]; rfl⟩, [(50, some 57)], by dsimp only; omega, rfl, ⟨leF_c (leC_os rfl (by rw [List.length_append]; rfl)), leF_c (leC_cl (cl_slBN L)), leF_int rfl, leF_int w4, trivial⟩, ⟨⟨rfl, ?_⟩, trivial⟩⟩
     refine leN_snoc (E := eSm) (L := O) (x := sumS x) rfl (fun i hi j hj => selC_in (Nat.ble_eq_true_of_le hi) (Elem.flat _ _ _).le) ?_
     repeat' (first | exact trivial | (refine selC_out (blt_self _) ?_; rw [Nat.sub_self]; first | exact leC_int rfl | exact leC_int eW.symm) | apply And.intro)
 . have hi2 : i = L.length := by omega
   subst hi2
   have e : O = R := by rw [<- hO, List.drop_of_length_le (Nat.le_refl _)]; simp
   subst e
   repeat' (first | (apply And.intro <;> intro hc <;> (first | exact Bool.noConfusion hc | (exfalso; first | exact absurd rfl hc | omega) | (simp only [zb0, ne_eq, not_true_eq_false] at hc <;> first | exact absurd rfl hc | (exfalso; first | exact absurd rfl hc | omega) | skip) | skip)) | (refine And.intro zp1 ?_) | (apply And.intro) | (intro s hs; skip))
   conv => whnf
   exact ⟨some 50, leF_c (leC_os rfl rfl), leN_ents⟩
abbrev summE : Entry := newE (AC.cons (cNS neS neS_sz) AC.nil) (fun a => LHn a.1) (fun a => summF a.1) (fun s => some s.length) (fun _ => none) (fun s => ents eSm 60 s)
theorem summE_ok : EntOk Try.prog 30 summE := newE_ok ⟨_, Try.func30, rfl, by kernel_rfl⟩ (fun s l h x hx => by cases h) fun a h => summ_ok a.1 h
def rowP (d : Nat) (L : List Sed) (i j : Nat) : CV := bif Nat.beq j 2 then .os (d + i) 0 (L.getD i default).held.length else sedC (L.getD i default) j
def entP (d : Nat) (n : Nat) (L : List Sed) : Ent := ⟨78, n, 3, false, rowP d L⟩
def hldP (L : List Sed) (i k : Nat) : List Hel := bif Nat.blt k i then (L.getD k default).held else []
abbrev entH (l : List Hel) : Ent := entN neH 85 l
theorem hldP_n {L : List Sed} {k : Nat} : hldP L L.length k = (L.getD k default).held := by
 unfold hldP
 cases hb : Nat.blt k L.length with
 | true => rfl
 | false =>
   have : ¬ k < L.length := fun h => by
    have h1 : Nat.blt k L.length = true := Nat.ble_eq_true_of_le h
    rw [h1] at hb; cases hb
   rw [List.getD_eq_getElem?_getD, List.getElem?_eq_none (by omega)]; rfl
def hepP (b : Nat) (L : List Sed) : List (Nat × Option Ent) := [(b + 0, some (entH (L.getD 0 default).held)), (b + 1, some (entH (L.getD 1 default).held)), (b + 2, some (entH (L.getD 2 default).held)), (b + 3, some (entH (L.getD 3 default).held)), (b + 4, some (entH (L.getD 4 default).held)), (b + 5, some (entH (L.getD 5 default).held)), (b + 6, some (entH (L.getD 6 default).held)), (b + 7, some (entH (L.getD 7 default).held))]
theorem rowP_le {c : Wc} {d d' : Nat} {L : List Sed} {i j : Nat} (hj : j < 3) (h : c.src (d' + i) = some (d + i)) : LeC c (rowP d L i j) (rowP d' L i j) := by
 rcases j with _ | _ | _ | j
 . exact leC_int rfl
 . exact leC_int rfl
 . exact leC_os h rfl
 . omega
theorem sft_rowP {nm : Nat} {L : List Sed} {i j : Nat} (hj : j < 3) (hi : i < 8) : Sft 9 nm (rowP (0 + 1) L i j) (rowP (nm + 1) L i j) := by
 rcases j with _ | _ | _ | j
 . exact sft_int
 . exact sft_int
 . have h : Sft 9 nm (.os (0 + 1 + i) 0 (L.getD i default).held.length) (.os (nm + (0 + 1 + i)) 0 (L.getD i default).held.length) := sft_os (by omega)
   rw [show nm + (0 + 1 + i) = nm + 1 + i by omega] at h
   exact h
 . omega
def LMl8 : CsL := (56, some keepE) :: []
theorem LMl8_ok : AllOk Try.prog LMl8 := ⟨keepE_ok, trivial⟩
structure Cl8 (L : List Sed) : Prop where
 n : L.length <= 8
 k : ∀ x ∈ L, KpI x.held
theorem vl_c8 {L : List Sed} (h : validL L = true) : Cl8 L := ⟨vl_len h, (vl_cl h).k⟩
def Ents8 (d : Nat) (L : List Sed) : List Ent := entP d L.length L :: [entH (L.getD 0 default).held, entH (L.getD 1 default).held, entH (L.getD 2 default).held, entH (L.getD 3 default).held, entH (L.getD 4 default).held, entH (L.getD 5 default).held, entH (L.getD 6 default).held, entH (L.getD 7 default).held]
theorem clone8_ok (L : List Sed) (hL : Cl8 L) : NewsOk Try.prog 34 [(cNS neS neS_sz).enc L] (one (.os 0 0 L.length)) (Ents8 1 L) := by
 have hn := hL.n
 refine news_intro (wd := 1) (Q := mkQ LMl8) (by decide) tysOk (q_of LMl8_ok) mixed Try.func34 rfl _ (by show 1 <= _; decide) ?_
 have w0 : IntKind.i64.wrap ((L.length : Int) + 1) = ((L.length + 1 : Nat) : Int) := (IntWalk.i64_in _ (by omega)).trans (by omega)
 repeat' (first | (simp only [w0]) | (apply And.intro <;> intro hc <;> (first | exact Bool.noConfusion hc | (exfalso; first | exact absurd rfl hc | omega) | (simp only [zb0, ne_eq, not_true_eq_false] at hc <;> first | exact absurd rfl hc | (exfalso; first | exact absurd rfl hc | omega) | skip) | skip)) | (refine And.intro zp1 ?_) | (apply And.intro) | (intro s hs; skip) | (refine Exists.intro _ (And.intro ⟨rfl, rfl, rfl⟩ ?_)))
 conv => whnf
 refine loop_intro (mono_of LMl8_ok) (fun s : {i : Nat // i <= L.length} => (⟨[(3, one (.os 50 0 s.1)), (10, one (slBN neS L)), (11, one (.int .i64 (L.length : Int))), (12, one (.int .i64 (s.1 : Int)))], [(50, some (entP 51 s.1 L)), (51, some (entH (hldP L s.1 0))), (52, some (entH (hldP L s.1 1))), (53, some (entH (hldP L s.1 2))), (54, some (entH (hldP L s.1 3))), (55, some (entH (hldP L s.1 4))), (56, some (entH (hldP L s.1 5))), (57, some (entH (hldP L s.1 6))), (58, some (entH (hldP L s.1 7)))], 59⟩ : Hd)) (fun s => L.length - s.1) (fun _ => rfl) ?_ ⟨0, Nat.zero_le _⟩ [(50, some 4), (51, none), (52, none), (53, none), (54, none), (55, none), (56, none), (57, none), (58, none)] ⟨rfl, ⟨leF_c (leC_os rfl rfl), leF_c (leC_cl (cl_slBN L)), leF_int rfl, leF_int rfl, trivial⟩, ⟨rfl, ⟨rfl, rfl, rfl, rfl, fun i hi => absurd hi (Nat.not_lt_zero i)⟩⟩, ⟨rfl, rfl, rfl, Nat.le_of_ble_eq_true rfl⟩, ⟨rfl, rfl, rfl, Nat.le_of_ble_eq_true rfl⟩, ⟨rfl, rfl, rfl, Nat.le_of_ble_eq_true rfl⟩, ⟨rfl, rfl, rfl, Nat.le_of_ble_eq_true rfl⟩, ⟨rfl, rfl, rfl, Nat.le_of_ble_eq_true rfl⟩, ⟨rfl, rfl, rfl, Nat.le_of_ble_eq_true rfl⟩, ⟨rfl, rfl, rfl, Nat.le_of_ble_eq_true rfl⟩, ⟨rfl, rfl, rfl, Nat.le_of_ble_eq_true rfl⟩, trivial⟩
 rintro ⟨i, hi⟩
 dsimp only at hi ⊢
 unfold slBN
 by_cases hil : i < L.length
 . have w3 : IntKind.i64.wrap ((i : Int) + 1) = ((i + 1 : Nat) : Int) := (IntWalk.i64_in _ (by omega)).trans (by omega)
   have hk := hL.k _ (getD_mem hil)
   rcases (show i = 0 \/ i = 1 \/ i = 2 \/ i = 3 \/ i = 4 \/ i = 5 \/ i = 6 \/ i = 7 by omega) with rfl | rfl | rfl | rfl | rfl | rfl | rfl | rfl
   . repeat' (first | (apply And.intro <;> intro hc <;> (first | exact Bool.noConfusion hc | (exfalso; first | exact absurd rfl hc | omega) | (simp only [zb0, ne_eq, not_true_eq_false] at hc <;> first | exact absurd rfl hc | (exfalso; first | exact absurd rfl hc | omega) | skip) | skip)) | (refine And.intro zp1 ?_) | (apply And.intro) | (intro s hs; (have q : s = (L.getD 0 default).held := hs.trans (by show (toN neH _ _).filter (wantB none) = _; rw [filter_all]; exact toN_row neH_rd _); clear hs; subst q)) | (refine Exists.intro _ (And.intro ⟨rfl, rfl, rfl⟩ ?_)))
     . exact fun _ _ => ⟨rfl, okD_sl _⟩
     . exact Eq.mpr (congrArg KpI (toN_row neH_rd _)) hk
     . refine ⟨⟨1, hil⟩, [(50, some 72), (51, some 66)], by dsimp only; omega, rfl, ⟨leF_c (leC_os rfl rfl), leF_c (leC_cl (cl_slBN L)), leF_int rfl, leF_int w3, trivial⟩, ⟨⟨rfl, ⟨rfl, rfl, rfl, rfl, fun p hp j hj => ?_⟩⟩, ⟨rfl, leN_entN⟩, ⟨rfl, leN_entN⟩, ⟨rfl, leN_entN⟩, ⟨rfl, leN_entN⟩, ⟨rfl, leN_entN⟩, ⟨rfl, leN_entN⟩, ⟨rfl, leN_entN⟩, ⟨rfl, leN_entN⟩, trivial⟩⟩
       have hp' : p < 1 := hp
       have hj' : j < 3 := hj
       show LeC _ (selC (Nat.blt p 0) (rowP 51 L p j) _) (rowP 51 L p j)
       by_cases hpi : p < 0
       . refine selC_in (Nat.ble_eq_true_of_le hpi) ?_
         exact absurd hpi (Nat.not_lt_zero p)
       . obtain rfl : p = 0 := by omega
         refine selC_out (blt_self _) ?_
         rcases j with _ | _ | _ | j
         . exact leC_int rfl
         . exact leC_int rfl
         . exact leC_os rfl rfl
         . omega
   . repeat' (first | (apply And.intro <;> intro hc <;> (first | exact Bool.noConfusion hc | (exfalso; first | exact absurd rfl hc | omega) | (simp only [zb0, ne_eq, not_true_eq_false] at hc <;> first | exact absurd rfl hc | (exfalso; first | exact absurd rfl hc | omega) | skip) | skip)) | (refine And.intro zp1 ?_) | (apply And.intro) | (intro s hs; (have q : s = (L.getD 1 default).held := hs.trans (by show (toN neH _ _).filter (wantB none) = _; rw [filter_all]; exact toN_row neH_rd _); clear hs; subst q)) | (refine Exists.intro _ (And.intro ⟨rfl, rfl, rfl⟩ ?_)))
     . exact fun _ _ => ⟨rfl, okD_sl _⟩
     . exact Eq.mpr (congrArg KpI (toN_row neH_rd _)) hk
     . refine ⟨⟨2, hil⟩, [(50, some 72), (52, some 66)], by dsimp only; omega, rfl, ⟨leF_c (leC_os rfl rfl), leF_c (leC_cl (cl_slBN L)), leF_int rfl, leF_int w3, trivial⟩, ⟨⟨rfl, ⟨rfl, rfl, rfl, rfl, fun p hp j hj => ?_⟩⟩, ⟨rfl, leN_entN⟩, ⟨rfl, leN_entN⟩, ⟨rfl, leN_entN⟩, ⟨rfl, leN_entN⟩, ⟨rfl, leN_entN⟩, ⟨rfl, leN_entN⟩, ⟨rfl, leN_entN⟩, ⟨rfl, leN_entN⟩, trivial⟩⟩
       have hp' : p < 2 := hp
       have hj' : j < 3 := hj
       show LeC _ (selC (Nat.blt p 1) (rowP 51 L p j) _) (rowP 51 L p j)
       by_cases hpi : p < 1
       . refine selC_in (Nat.ble_eq_true_of_le hpi) ?_
         rcases (show p = 0 by omega) with rfl <;> exact rowP_le hj' rfl
       . obtain rfl : p = 1 := by omega
         refine selC_out (blt_self _) ?_
         rcases j with _ | _ | _ | j
         . exact leC_int rfl
         . exact leC_int rfl
         . exact leC_os rfl rfl
         . omega
   . repeat' (first | (apply And.intro <;> intro hc <;> (first | exact Bool.noConfusion hc | (exfalso; first | exact absurd rfl hc | omega) | (simp only [zb0, ne_eq, not_true_eq_false] at hc <;> first | exact absurd rfl hc | (exfalso; first | exact absurd rfl hc | omega) | skip) | skip)) | (refine And.intro zp1 ?_) | (apply And.intro) | (intro s hs; (have q : s = (L.getD 2 default).held := hs.trans (by show (toN neH _ _).filter (wantB none) = _; rw [filter_all]; exact toN_row neH_rd _); clear hs; subst q)) | (refine Exists.intro _ (And.intro ⟨rfl, rfl, rfl⟩ ?_)))
     . exact fun _ _ => ⟨rfl, okD_sl _⟩
     . exact Eq.mpr (congrArg KpI (toN_row neH_rd _)) hk
     . refine ⟨⟨3, hil⟩, [(50, some 72), (53, some 66)], by dsimp only; omega, rfl, ⟨leF_c (leC_os rfl rfl), leF_c (leC_cl (cl_slBN L)), leF_int rfl, leF_int w3, trivial⟩, ⟨⟨rfl, ⟨rfl, rfl, rfl, rfl, fun p hp j hj => ?_⟩⟩, ⟨rfl, leN_entN⟩, ⟨rfl, leN_entN⟩, ⟨rfl, leN_entN⟩, ⟨rfl, leN_entN⟩, ⟨rfl, leN_entN⟩, ⟨rfl, leN_entN⟩, ⟨rfl, leN_entN⟩, ⟨rfl, leN_entN⟩, trivial⟩⟩
       have hp' : p < 3 := hp
       have hj' : j < 3 := hj
       show LeC _ (selC (Nat.blt p 2) (rowP 51 L p j) _) (rowP 51 L p j)
       by_cases hpi : p < 2
       . refine selC_in (Nat.ble_eq_true_of_le hpi) ?_
         rcases (show p = 0 \/ p = 1 by omega) with rfl | rfl <;> exact rowP_le hj' rfl
       . obtain rfl : p = 2 := by omega
         refine selC_out (blt_self _) ?_
         rcases j with _ | _ | _ | j
         . exact leC_int rfl
         . exact leC_int rfl
         . exact leC_os rfl rfl
         . omega
   . repeat' (first | (apply And.intro <;> intro hc <;> (first | exact Bool.noConfusion hc | (exfalso; first | exact absurd rfl hc | omega) | (simp only [zb0, ne_eq, not_true_eq_false] at hc <;> first | exact absurd rfl hc | (exfalso; first | exact absurd rfl hc | omega) | skip) | skip)) | (refine And.intro zp1 ?_) | (apply And.intro) | (intro s hs; (have q : s = (L.getD 3 default).held := hs.trans (by show (toN neH _ _).filter (wantB none) = _; rw [filter_all]; exact toN_row neH_rd _); clear hs; subst q)) | (refine Exists.intro _ (And.intro ⟨rfl, rfl, rfl⟩ ?_)))
     . exact fun _ _ => ⟨rfl, okD_sl _⟩
     . exact Eq.mpr (congrArg KpI (toN_row neH_rd _)) hk
     . refine ⟨⟨4, hil⟩, [(50, some 72), (54, some 66)], by dsimp only; omega, rfl, ⟨leF_c (leC_os rfl rfl), leF_c (leC_cl (cl_slBN L)), leF_int rfl, leF_int w3, trivial⟩, ⟨⟨rfl, ⟨rfl, rfl, rfl, rfl, fun p hp j hj => ?_⟩⟩, ⟨rfl, leN_entN⟩, ⟨rfl, leN_entN⟩, ⟨rfl, leN_entN⟩, ⟨rfl, leN_entN⟩, ⟨rfl, leN_entN⟩, ⟨rfl, leN_entN⟩, ⟨rfl, leN_entN⟩, ⟨rfl, leN_entN⟩, trivial⟩⟩
       have hp' : p < 4 := hp
       have hj' : j < 3 := hj
       show LeC _ (selC (Nat.blt p 3) (rowP 51 L p j) _) (rowP 51 L p j)
       by_cases hpi : p < 3
       . refine selC_in (Nat.ble_eq_true_of_le hpi) ?_
         rcases (show p = 0 \/ p = 1 \/ p = 2 by omega) with rfl | rfl | rfl <;> exact rowP_le hj' rfl
       . obtain rfl : p = 3 := by omega
         refine selC_out (blt_self _) ?_
         rcases j with _ | _ | _ | j
         . exact leC_int rfl
         . exact leC_int rfl
         . exact leC_os rfl rfl
         . omega
   . repeat' (first | (apply And.intro <;> intro hc <;> (first | exact Bool.noConfusion hc | (exfalso; first | exact absurd rfl hc | omega) | (simp only [zb0, ne_eq, not_true_eq_false] at hc <;> first | exact absurd rfl hc | (exfalso; first | exact absurd rfl hc | omega) | skip) | skip)) | (refine And.intro zp1 ?_) | (apply And.intro) | (intro s hs; (have q : s = (L.getD 4 default).held := hs.trans (by show (toN neH _ _).filter (wantB none) = _; rw [filter_all]; exact toN_row neH_rd _); clear hs; subst q)) | (refine Exists.intro _ (And.intro ⟨rfl, rfl, rfl⟩ ?_)))
     . exact fun _ _ => ⟨rfl, okD_sl _⟩
     . exact Eq.mpr (congrArg KpI (toN_row neH_rd _)) hk
     . refine ⟨⟨5, hil⟩, [(50, some 72), (55, some 66)], by dsimp only; omega, rfl, ⟨leF_c (leC_os rfl rfl), leF_c (leC_cl (cl_slBN L)), leF_int rfl, leF_int w3, trivial⟩, ⟨⟨rfl, ⟨rfl, rfl, rfl, rfl, fun p hp j hj => ?_⟩⟩, ⟨rfl, leN_entN⟩, ⟨rfl, leN_entN⟩, ⟨rfl, leN_entN⟩, ⟨rfl, leN_entN⟩, ⟨rfl, leN_entN⟩, ⟨rfl, leN_entN⟩, ⟨rfl, leN_entN⟩, ⟨rfl, leN_entN⟩, trivial⟩⟩
       have hp' : p < 5 := hp
       have hj' : j < 3 := hj
       show LeC _ (selC (Nat.blt p 4) (rowP 51 L p j) _) (rowP 51 L p j)
       by_cases hpi : p < 4
       . refine selC_in (Nat.ble_eq_true_of_le hpi) ?_
         rcases (show p = 0 \/ p = 1 \/ p = 2 \/ p = 3 by omega) with rfl | rfl | rfl | rfl <;> exact rowP_le hj' rfl
       . obtain rfl : p = 4 := by omega
         refine selC_out (blt_self _) ?_
         rcases j with _ | _ | _ | j
         . exact leC_int rfl
         . exact leC_int rfl
         . exact leC_os rfl rfl
         . omega
   . repeat' (first | (apply And.intro <;> intro hc <;> (first | exact Bool.noConfusion hc | (exfalso; first | exact absurd rfl hc | omega) | (simp only [zb0, ne_eq, not_true_eq_false] at hc <;> first | exact absurd rfl hc | (exfalso; first | exact absurd rfl hc | omega) | skip) | skip)) | (refine And.intro zp1 ?_) | (apply And.intro) | (intro s hs; (have q : s = (L.getD 5 default).held := hs.trans (by show (toN neH _ _).filter (wantB none) = _; rw [filter_all]; exact toN_row neH_rd _); clear hs; subst q)) | (refine Exists.intro _ (And.intro ⟨rfl, rfl, rfl⟩ ?_)))
     . exact fun _ _ => ⟨rfl, okD_sl _⟩
     . exact Eq.mpr (congrArg KpI (toN_row neH_rd _)) hk
     . refine ⟨⟨6, hil⟩, [(50, some 72), (56, some 66)], by dsimp only; omega, rfl, ⟨leF_c (leC_os rfl rfl), leF_c (leC_cl (cl_slBN L)), leF_int rfl, leF_int w3, trivial⟩, ⟨⟨rfl, ⟨rfl, rfl, rfl, rfl, fun p hp j hj => ?_⟩⟩, ⟨rfl, leN_entN⟩, ⟨rfl, leN_entN⟩, ⟨rfl, leN_entN⟩, ⟨rfl, leN_entN⟩, ⟨rfl, leN_entN⟩, ⟨rfl, leN_entN⟩, ⟨rfl, leN_entN⟩, ⟨rfl, leN_entN⟩, trivial⟩⟩
       have hp' : p < 6 := hp
       have hj' : j < 3 := hj
       show LeC _ (selC (Nat.blt p 5) (rowP 51 L p j) _) (rowP 51 L p j)
       by_cases hpi : p < 5
       . refine selC_in (Nat.ble_eq_true_of_le hpi) ?_
         rcases (show p = 0 \/ p = 1 \/ p = 2 \/ p = 3 \/ p = 4 by omega) with rfl | rfl | rfl | rfl | rfl <;> exact rowP_le hj' rfl
       . obtain rfl : p = 5 := by omega
         refine selC_out (blt_self _) ?_
         rcases j with _ | _ | _ | j
         . exact leC_int rfl
         . exact leC_int rfl
         . exact leC_os rfl rfl
         . omega
   . repeat' (first | (apply And.intro <;> intro hc <;> (first | exact Bool.noConfusion hc | (exfalso; first | exact absurd rfl hc | omega) | (simp only [zb0, ne_eq, not_true_eq_false] at hc <;> first | exact absurd rfl hc | (exfalso; first | exact absurd rfl hc | omega) | skip) | skip)) | (refine And.intro zp1 ?_) | (apply And.intro) | (intro s hs; (have q : s = (L.getD 6 default).held := hs.trans (by show (toN neH _ _).filter (wantB none) = _; rw [filter_all]; exact toN_row neH_rd _); clear hs; subst q)) | (refine Exists.intro _ (And.intro ⟨rfl, rfl, rfl⟩ ?_)))
     . exact fun _ _ => ⟨rfl, okD_sl _⟩
     . exact Eq.mpr (congrArg KpI (toN_row neH_rd _)) hk
     . refine ⟨⟨7, hil⟩, [(50, some 72), (57, some 66)], by dsimp only; omega, rfl, ⟨leF_c (leC_os rfl rfl), leF_c (leC_cl (cl_slBN L)), leF_int rfl, leF_int w3, trivial⟩, ⟨⟨rfl, ⟨rfl, rfl, rfl, rfl, fun p hp j hj => ?_⟩⟩, ⟨rfl, leN_entN⟩, ⟨rfl, leN_entN⟩, ⟨rfl, leN_entN⟩, ⟨rfl, leN_entN⟩, ⟨rfl, leN_entN⟩, ⟨rfl, leN_entN⟩, ⟨rfl, leN_entN⟩, ⟨rfl, leN_entN⟩, trivial⟩⟩
       have hp' : p < 7 := hp
       have hj' : j < 3 := hj
       show LeC _ (selC (Nat.blt p 6) (rowP 51 L p j) _) (rowP 51 L p j)
       by_cases hpi : p < 6
       . refine selC_in (Nat.ble_eq_true_of_le hpi) ?_
         rcases (show p = 0 \/ p = 1 \/ p = 2 \/ p = 3 \/ p = 4 \/ p = 5 by omega) with rfl | rfl | rfl | rfl | rfl | rfl <;> exact rowP_le hj' rfl
       . obtain rfl : p = 6 := by omega
         refine selC_out (blt_self _) ?_
         rcases j with _ | _ | _ | j
         . exact leC_int rfl
         . exact leC_int rfl
         . exact leC_os rfl rfl
         . omega
   . repeat' (first | (apply And.intro <;> intro hc <;> (first | exact Bool.noConfusion hc | (exfalso; first | exact absurd rfl hc | omega) | (simp only [zb0, ne_eq, not_true_eq_false] at hc <;> first | exact absurd rfl hc | (exfalso; first | exact absurd rfl hc | omega) | skip) | skip)) | (refine And.intro zp1 ?_) | (apply And.intro) | (intro s hs; (have q : s = (L.getD 7 default).held := hs.trans (by show (toN neH _ _).filter (wantB none) = _; rw [filter_all]; exact toN_row neH_rd _); clear hs; subst q)) | (refine Exists.intro _ (And.intro ⟨rfl, rfl, rfl⟩ ?_)))
     . exact fun _ _ => ⟨rfl, okD_sl _⟩
     . exact Eq.mpr (congrArg KpI (toN_row neH_rd _)) hk
     . refine ⟨⟨8, hil⟩, [(50, some 72), (58, some 66)], by dsimp only; omega, rfl, ⟨leF_c (leC_os rfl rfl), leF_c (leC_cl (cl_slBN L)), leF_int rfl, leF_int w3, trivial⟩, ⟨⟨rfl, ⟨rfl, rfl, rfl, rfl, fun p hp j hj => ?_⟩⟩, ⟨rfl, leN_entN⟩, ⟨rfl, leN_entN⟩, ⟨rfl, leN_entN⟩, ⟨rfl, leN_entN⟩, ⟨rfl, leN_entN⟩, ⟨rfl, leN_entN⟩, ⟨rfl, leN_entN⟩, ⟨rfl, leN_entN⟩, trivial⟩⟩
       have hp' : p < 8 := hp
       have hj' : j < 3 := hj
       show LeC _ (selC (Nat.blt p 7) (rowP 51 L p j) _) (rowP 51 L p j)
       by_cases hpi : p < 7
       . refine selC_in (Nat.ble_eq_true_of_le hpi) ?_
         rcases (show p = 0 \/ p = 1 \/ p = 2 \/ p = 3 \/ p = 4 \/ p = 5 \/ p = 6 by omega) with rfl | rfl | rfl | rfl | rfl | rfl | rfl <;> exact rowP_le hj' rfl
       . obtain rfl : p = 7 := by omega
         refine selC_out (blt_self _) ?_
         rcases j with _ | _ | _ | j
         . exact leC_int rfl
         . exact leC_int rfl
         . exact leC_os rfl rfl
         . omega
 . have hi2 : i = L.length := by omega
   subst hi2
   simp only [hldP_n]
   repeat' (first | (apply And.intro <;> intro hc <;> (first | exact Bool.noConfusion hc | (exfalso; first | exact absurd rfl hc | omega) | (simp only [zb0, ne_eq, not_true_eq_false] at hc <;> first | exact absurd rfl hc | (exfalso; first | exact absurd rfl hc | omega) | skip) | skip)) | (refine And.intro zp1 ?_) | (apply And.intro) | (intro s hs; skip) | (refine Exists.intro _ (And.intro ⟨rfl, rfl, rfl⟩ ?_)))
   conv => whnf
   refine ⟨⟨[(0, some 50), (1, some 51), (2, some 52), (3, some 53), (4, some 54), (5, some 55), (6, some 56), (7, some 57), (8, some 58)], rfl, leF_c (leC_os rfl rfl), ⟨rfl, ⟨rfl, rfl, rfl, rfl, fun p hp j hj => ?_⟩⟩, ⟨rfl, leN_entN⟩, ⟨rfl, leN_entN⟩, ⟨rfl, leN_entN⟩, ⟨rfl, leN_entN⟩, ⟨rfl, leN_entN⟩, ⟨rfl, leN_entN⟩, ⟨rfl, leN_entN⟩, ⟨rfl, leN_entN⟩, trivial⟩⟩
   . have hp' : p < L.length := hp
     have hj' : j < 3 := hj
     rcases (show p = 0 \/ p = 1 \/ p = 2 \/ p = 3 \/ p = 4 \/ p = 5 \/ p = 6 \/ p = 7 by omega) with rfl | rfl | rfl | rfl | rfl | rfl | rfl | rfl <;> exact rowP_le hj' rfl
abbrev clone8E : Entry := newsE (AC.cons (cNS neS neS_sz) AC.nil) (fun a => Cl8 a.1) (fun a => a.1) 9 (fun nm L => one (.os nm 0 L.length)) (fun nm L => Ents8 (nm + 1) L)
theorem clone8E_ok : EntOk Try.prog 34 clone8E := newsE_ok ⟨_, Try.func34, rfl, by kernel_rfl⟩ (fun _ _ => rfl) (fun nm s => sftF_c (by have h : Sft 9 nm (.os 0 0 s.length) (.os (nm + 0) 0 s.length) := sft_os (by decide); exact h)) (fun nm a ha k e e' h h' => by
 iterate 9 (rcases k with _ | k; · (injection h with h; injection h' with h'; subst h h'; first | exact ⟨rfl, rfl, rfl, rfl, fun i hi j hj => sft_sh (neH.sh _ j hj)⟩ | exact ⟨rfl, rfl, rfl, rfl, fun i hi j hj => sft_rowP hj (Nat.lt_of_lt_of_le hi ha.n)⟩))
 cases h) fun a h => clone8_ok a.1 h
def LMs : CsL := (31, some mvalidE) :: (32, some timeE) :: (34, some clone8E) :: (37, some raiseE) :: LTk
theorem LMs_ok : AllOk Try.prog LMs := ⟨pureE_ok ⟨_, Try.func31, rfl, by kernel_rfl⟩ fun a h => mvalid_ok a.1 h, pureE_ok ⟨_, Try.func32, rfl, by kernel_rfl⟩ fun a _ => mcTime_ok a.1, clone8E_ok, raiseE_ok, LTk_ok⟩
def S8 (now draw : Int) (M : List Sed) : Hd := ⟨[(1, one (.int .i64 now)), (2, one (.int .u32 draw)), (9, one (.os 1 0 M.length))], (1, some (entP 2 M.length M)) :: hepP 2 M, 10⟩
structure SlI (L : List Sed) (now : Int) where
 i : Nat
 M : List Sed
 n : M.length = L.length
 hi : i <= L.length
 h1 : ∀ p, p < i -> M.getD p default = clsS now (L.getD p default)
 h2 : ∀ p, i <= p -> M.getD p default = L.getD p default
def loopIn : Code -> Code
 | .loop c => c
 | .block _ c => loopIn c
 | .seq a b => match loopIn a with
   | .skip => loopIn b
   | c => c
 | _ => .skip
theorem leN_eqN {c : Wc} {t : TypeId} {l l' : List Hel} (h : l = l') : LeN c (entN neH t l) (entN neH t l') := by subst h; exact leN_entN
theorem leN_entP {c : Wc} {d : Nat} {M : List Sed} {n : Nat} (hn : n <= 8) (h : ∀ p, p < 8 -> c.src (d + p) = some (d + p)) : LeN c (entP d n M) (entP d n M) := ⟨rfl, rfl, rfl, rfl, fun p hp j hj => rowP_le hj (h p (Nat.lt_of_lt_of_le hp hn))⟩
theorem lt8 {P : Nat -> Prop} (h0 : P 0) (h1 : P 1) (h2 : P 2) (h3 : P 3) (h4 : P 4) (h5 : P 5) (h6 : P 6) (h7 : P 7) : ∀ p, p < 8 -> P p := fun p hp => by
 rcases (show p = 0 \/ p = 1 \/ p = 2 \/ p = 3 \/ p = 4 \/ p = 5 \/ p = 6 \/ p = 7 by omega) with rfl | rfl | rfl | rfl | rfl | rfl | rfl | rfl <;> assumption
theorem set_self {L : List Sed} {i : Nat} (h : i < L.length) : L.set i (L.getD i default) = L := by
 apply List.ext_getElem
 . rw [List.length_set]
 . intro k h1 h2
   rw [List.getElem_set]
   split
   . rename_i e
     subst e
     rw [List.getD_eq_getElem?_getD, List.getElem?_eq_getElem h]; rfl
   . rfl
theorem rowP_set_ne {c : Wc} {d p i j : Nat} {M : List Sed} {x : Sed} {y : CV} (hj : j < 3) (hp : p ≠ i) (hy : y = rowP d M p j) (hs : c.src (d + p) = some (d + p)) : LeC c y (rowP d (M.set i x) p j) := by
 subst hy
 have e : rowP d (M.set i x) p j = rowP d M p j := by unfold rowP; rw [set_ne hp]
 rw [e]
 exact rowP_le hj hs
theorem rowP_set_at {c : Wc} {d i j : Nat} {M : List Sed} {x : Sed} {y : CV} (hi : i < M.length) (h : LeC c y (bif Nat.beq j 2 then .os (d + i) 0 x.held.length else sedC x j)) : LeC c y (rowP d (M.set i x) i j) := by
 have e : rowP d (M.set i x) i j = bif Nat.beq j 2 then .os (d + i) 0 x.held.length else sedC x j := by unfold rowP; rw [set_at hi]
 rw [e]; exact h
def S1 (L : List Sed) (now draw : Int) (s : SlI L now) : Hd := ⟨[(1, one (.int .i64 now)), (2, one (.int .u32 draw)), (9, one (.os 1 0 s.M.length)), (31, one (.int .i64 (L.length : Int))), (32, one (.int .i64 (s.i : Int)))], (1, some (entP 2 s.M.length s.M)) :: hepP 2 s.M, 10⟩
theorem sl_step {L : List Sed} {now : Int} (s : SlI L now) (h : s.i < L.length) : ∀ p, p < s.i + 1 -> (s.M.set s.i (clsS now (s.M.getD s.i default))).getD p default = clsS now (L.getD p default) := fun p hp => by
 by_cases he : p = s.i
 . subst he
   rw [set_at (by rw [s.n]; exact h), s.h2 _ (Nat.le_refl _)]
 . rw [set_ne he]
   exact s.h1 p (by omega)
def SlI.next {L : List Sed} {now : Int} (s : SlI L now) (h : s.i < L.length) (M' : List Sed) (hM : s.M.set s.i (clsS now (s.M.getD s.i default)) = M') : SlI L now := ⟨s.i + 1, M', by rw [<- hM, List.length_set]; exact s.n, h, by rw [<- hM]; exact sl_step s h, fun p hp => by rw [<- hM, set_ne (by omega)]; exact s.h2 p (by omega)⟩
theorem sl_end {L : List Sed} {now : Int} (s : SlI L now) (h : ¬ s.i < L.length) : s.M = L.map (clsS now) := by
 apply List.ext_getElem
 . rw [List.length_map]; exact s.n
 . intro k h1 h2
   have hk : k < L.length := by rw [<- s.n]; exact h1
   have e := s.h1 k (by omega)
   rw [List.getD_eq_getElem?_getD, List.getElem?_eq_getElem h1, List.getD_eq_getElem?_getD, List.getElem?_eq_getElem hk] at e
   rw [List.getElem_map]
   exact e
theorem st1_0 (L : List Sed) (now draw : Int) (hv : validL L = true) (s : SlI L now) (hi : s.i = 0) (hil : s.i < L.length) (K : Kt) :
 exec T (mkQ LMs) 1024 Try.f21.ntmps 0 (loopIn (dropC 4 (Try.f21.body.getD Code.ret))) (S1 L now draw s).fr (S1 L now draw s).H (S1 L now draw s).nx (seqK (fun fr H _ => Goes (S1 L now draw) (fun s => L.length - s.i) 0 (L.length - s.i) fr H) K) := by
 obtain ⟨i, M, hn, hi0, h1, h2⟩ := s
 dsimp only at hi hil
 subst hi
 have h8 := vl_len hv
 have hiM : 0 < M.length := by omega
 have hS : SdOk (M.getD 0 default) := by rw [h2 _ (Nat.le_refl _)]; exact (vl_mem hv _ (getD_in hil)).2
 have hk := hS.k
 have hh := hS.n
 have hmn := hS.mn
 have w3 : IntKind.i64.wrap ((0 : Int) + 1) = ((0 + 1 : Nat) : Int) := rfl
 unfold S1
 dsimp only
 repeat' (first | (apply And.intro <;> intro hc <;> (first | exact Bool.noConfusion hc | (exfalso; first | exact absurd rfl hc | omega) | (simp only [zb0, ne_eq, not_true_eq_false] at hc <;> first | exact absurd rfl hc | (exfalso; first | exact absurd rfl hc | omega) | skip) | skip)) | (refine And.intro zp1 ?_) | (apply And.intro) | (intro s hs; skip) | (refine Exists.intro _ (And.intro ⟨rfl, rfl, rfl⟩ ?_)))
 conv => whnf
 obtain ⟨W, eW⟩ : ∃ W, lastF now (M.getD 0 default).held (M.getD 0 default).mn = W := ⟨_, rfl⟩
 refine loop_intro (mono_of LMs_ok) (fun s : {p : Nat × Int // p.1 <= (M.getD 0 default).held.length /\ lastF now ((M.getD 0 default).held.drop p.1) p.2 = W} => (⟨[(1, one (.int .i64 now)), (2, one (.int .u32 draw)), (9, one (.os 1 0 M.length)), (31, one (.int .i64 (L.length : Int))), (32, one (.int .i64 ((0 : Nat) : Int))), (10, one (.int .i64 ((0 : Nat) : Int))), (11, one (.int .i64 s.1.2)), (44, one (.os 2 0 (M.getD 0 default).held.length)), (45, one (.int .i64 ((M.getD 0 default).held.length : Int))), (46, one (.int .i64 (s.1.1 : Int)))], (1, some (entP 2 M.length M)) :: hepP 2 M, 10⟩ : Hd)) (fun s => (M.getD 0 default).held.length - s.1.1) (fun _ => rfl) ?_ ⟨(0, (M.getD 0 default).mn), Nat.zero_le _, eW⟩ [] ⟨rfl, ⟨leF_int rfl, leF_int rfl, leF_c (leC_os rfl rfl), leF_int rfl, leF_int rfl, leF_int rfl, leF_int rfl, leF_c (leC_os rfl rfl), leF_int rfl, leF_int rfl, trivial⟩, ⟨⟨rfl, leN_entP (by omega) (lt8 rfl rfl rfl rfl rfl rfl rfl rfl)⟩, ⟨rfl, leN_entN⟩, ⟨rfl, leN_entN⟩, ⟨rfl, leN_entN⟩, ⟨rfl, leN_entN⟩, ⟨rfl, leN_entN⟩, ⟨rfl, leN_entN⟩, ⟨rfl, leN_entN⟩, ⟨rfl, leN_entN⟩, trivial⟩⟩
 rintro ⟨⟨k, l⟩, hkl, hW⟩
 dsimp only at hkl hW ⊢
 by_cases hkn : k < (M.getD 0 default).held.length
 . have w4 : IntKind.i64.wrap ((k : Int) + 1) = ((k + 1 : Nat) : Int) := (IntWalk.i64_in _ (by omega)).trans (by omega)
   have hst : lastF now ((M.getD 0 default).held.drop (k + 1)) (if ((M.getD 0 default).held.getD k default).til <= now then ((M.getD 0 default).held.getD k default).num + 1 else l) = W := by rw [<- hW, drop_at hkn]; rfl
   have hm := vh_mem hS.h _ (getD_in hkn)
   have w5 : IntKind.i64.wrap (((M.getD 0 default).held.getD k default).num + 1) = ((M.getD 0 default).held.getD k default).num + 1 := IntWalk.i64_in _ (by omega)
   have z0 : 0 + (k : Int).toNat = k := Nat.zero_add k
   repeat' (first | (simp only [z0, w4, w5]) | (apply And.intro <;> intro hc <;> (first | exact Bool.noConfusion hc | (exfalso; first | exact absurd rfl hc | omega) | (simp only [zb0, ne_eq, not_true_eq_false] at hc <;> first | exact absurd rfl hc | (exfalso; first | exact absurd rfl hc | omega) | skip) | skip)) | (refine And.intro zp1 ?_) | (apply And.intro) | (intro s hs; skip) | (refine Exists.intro _ (And.intro ⟨rfl, rfl, rfl⟩ ?_)))
   . rw [if_pos hc] at hst
     conv => whnf
     exact ⟨⟨(k + 1, _), hkn, hst⟩, [], by dsimp only; omega, rfl, ⟨leF_int rfl, leF_int rfl, leF_c (leC_os rfl rfl), leF_int rfl, leF_int rfl, leF_int rfl, leF_int w5, leF_c (leC_os rfl rfl), leF_int rfl, leF_int w4, trivial⟩, ⟨⟨rfl, leN_entP (by omega) (lt8 rfl rfl rfl rfl rfl rfl rfl rfl)⟩, ⟨rfl, leN_entN⟩, ⟨rfl, leN_entN⟩, ⟨rfl, leN_entN⟩, ⟨rfl, leN_entN⟩, ⟨rfl, leN_entN⟩, ⟨rfl, leN_entN⟩, ⟨rfl, leN_entN⟩, ⟨rfl, leN_entN⟩, trivial⟩⟩
   . rw [if_neg hc] at hst
     conv => whnf
     exact ⟨⟨(k + 1, l), hkn, hst⟩, [], by dsimp only; omega, rfl, ⟨leF_int rfl, leF_int rfl, leF_c (leC_os rfl rfl), leF_int rfl, leF_int rfl, leF_int rfl, leF_int rfl, leF_c (leC_os rfl rfl), leF_int rfl, leF_int w4, trivial⟩, ⟨⟨rfl, leN_entP (by omega) (lt8 rfl rfl rfl rfl rfl rfl rfl rfl)⟩, ⟨rfl, leN_entN⟩, ⟨rfl, leN_entN⟩, ⟨rfl, leN_entN⟩, ⟨rfl, leN_entN⟩, ⟨rfl, leN_entN⟩, ⟨rfl, leN_entN⟩, ⟨rfl, leN_entN⟩, ⟨rfl, leN_entN⟩, trivial⟩⟩
 . obtain rfl : l = W := by
    rw [List.drop_of_length_le (by omega)] at hW; exact hW
   clear hW
   repeat' (first | (apply And.intro <;> intro hc <;> (first | exact Bool.noConfusion hc | (exfalso; first | exact absurd rfl hc | omega) | (simp only [zb0, ne_eq, not_true_eq_false] at hc <;> first | exact absurd rfl hc | (exfalso; first | exact absurd rfl hc | omega) | skip) | skip)) | (refine And.intro zp1 ?_) | (apply And.intro) | (intro s hs; skip) | (refine Exists.intro _ (And.intro ⟨rfl, rfl, rfl⟩ ?_)))
   . exact rfl
   . conv => whnf
     have eM : M.set 0 (clsS now (M.getD 0 default)) = M := by
      unfold clsS; rw [eW, show raiseS (M.getD 0 default) l = M.getD 0 default from if_pos hc]; exact set_self hiM
     exact ⟨SlI.next ⟨0, M, hn, hi0, h1, h2⟩ hil M eM, [], by dsimp only [SlI.next]; omega, rfl, ⟨leF_int rfl, leF_int rfl, leF_c (leC_os rfl rfl), leF_int rfl, leF_int rfl, trivial⟩, ⟨⟨rfl, leN_entP (by omega) (lt8 rfl rfl rfl rfl rfl rfl rfl rfl)⟩, ⟨rfl, leN_entN⟩, ⟨rfl, leN_entN⟩, ⟨rfl, leN_entN⟩, ⟨rfl, leN_entN⟩, ⟨rfl, leN_entN⟩, ⟨rfl, leN_entN⟩, ⟨rfl, leN_entN⟩, ⟨rfl, leN_entN⟩, trivial⟩⟩
   . exact Nat.le_of_eq (Nat.zero_add _)
   . exact ⟨rfl, okD_sl _⟩
   . exact Eq.mpr (congrArg KpI (toN_row0 neH_rd _)) hk
   . conv => whnf
     have q : (M.getD 0 default).held.filter (wantB (some l)) = s := (hs.trans (congrArg (List.filter (wantB (some l))) (toN_row0 neH_rd _))).symm
     clear hs
     have eX : clsS now (M.getD 0 default) = ⟨(M.getD 0 default).id, l, s⟩ := by
      unfold clsS; rw [eW]; exact (if_neg hc).trans (by rw [q])
     refine ⟨SlI.next ⟨0, M, hn, hi0, h1, h2⟩ hil _ (congrArg (M.set 0) eX), [(2, some 5148)], by dsimp only [SlI.next]; omega, rfl, ⟨leF_int rfl, leF_int rfl, leF_c (leC_os rfl (List.length_set).symm), leF_int rfl, leF_int rfl, trivial⟩, ⟨⟨rfl, ⟨rfl, (List.length_set).symm, rfl, rfl, fun p hp j hj => ?_⟩⟩, ⟨rfl, leN_eqN (congrArg Sed.held (set_at (s := ⟨(M.getD 0 default).id, l, s⟩) hiM).symm)⟩, ⟨rfl, leN_eqN (congrArg Sed.held (set_ne (by decide)).symm)⟩, ⟨rfl, leN_eqN (congrArg Sed.held (set_ne (by decide)).symm)⟩, ⟨rfl, leN_eqN (congrArg Sed.held (set_ne (by decide)).symm)⟩, ⟨rfl, leN_eqN (congrArg Sed.held (set_ne (by decide)).symm)⟩, ⟨rfl, leN_eqN (congrArg Sed.held (set_ne (by decide)).symm)⟩, ⟨rfl, leN_eqN (congrArg Sed.held (set_ne (by decide)).symm)⟩, ⟨rfl, leN_eqN (congrArg Sed.held (set_ne (by decide)).symm)⟩, trivial⟩⟩
     have hp : p < M.length := hp
     have hj : j < 3 := hj
     rcases (show p = 0 \/ p = 1 \/ p = 2 \/ p = 3 \/ p = 4 \/ p = 5 \/ p = 6 \/ p = 7 by omega) with rfl | rfl | rfl | rfl | rfl | rfl | rfl | rfl
     all_goals first
      | exact rowP_set_ne hj (by decide) ((updE_ne (by decide)).trans (updE_ne (by decide))) rfl
      | skip
     refine rowP_set_at hiM ?_
     rcases j with _ | _ | _ | j
     . exact leC_int rfl
     . exact leC_int rfl
     . exact leC_os rfl rfl
     . omega
theorem st1_1 (L : List Sed) (now draw : Int) (hv : validL L = true) (s : SlI L now) (hi : s.i = 1) (hil : s.i < L.length) (K : Kt) :
 exec T (mkQ LMs) 1024 Try.f21.ntmps 0 (loopIn (dropC 4 (Try.f21.body.getD Code.ret))) (S1 L now draw s).fr (S1 L now draw s).H (S1 L now draw s).nx (seqK (fun fr H _ => Goes (S1 L now draw) (fun s => L.length - s.i) 0 (L.length - s.i) fr H) K) := by
 obtain ⟨i, M, hn, hi0, h1, h2⟩ := s
 dsimp only at hi hil
 subst hi
 have h8 := vl_len hv
 have hiM : 1 < M.length := by omega
 have hS : SdOk (M.getD 1 default) := by rw [h2 _ (Nat.le_refl _)]; exact (vl_mem hv _ (getD_in hil)).2
 have hk := hS.k
 have hh := hS.n
 have hmn := hS.mn
 have w3 : IntKind.i64.wrap ((1 : Int) + 1) = ((1 + 1 : Nat) : Int) := rfl
 unfold S1
 dsimp only
 repeat' (first | (apply And.intro <;> intro hc <;> (first | exact Bool.noConfusion hc | (exfalso; first | exact absurd rfl hc | omega) | (simp only [zb0, ne_eq, not_true_eq_false] at hc <;> first | exact absurd rfl hc | (exfalso; first | exact absurd rfl hc | omega) | skip) | skip)) | (refine And.intro zp1 ?_) | (apply And.intro) | (intro s hs; skip) | (refine Exists.intro _ (And.intro ⟨rfl, rfl, rfl⟩ ?_)))
 conv => whnf
 obtain ⟨W, eW⟩ : ∃ W, lastF now (M.getD 1 default).held (M.getD 1 default).mn = W := ⟨_, rfl⟩
 refine loop_intro (mono_of LMs_ok) (fun s : {p : Nat × Int // p.1 <= (M.getD 1 default).held.length /\ lastF now ((M.getD 1 default).held.drop p.1) p.2 = W} => (⟨[(1, one (.int .i64 now)), (2, one (.int .u32 draw)), (9, one (.os 1 0 M.length)), (31, one (.int .i64 (L.length : Int))), (32, one (.int .i64 ((1 : Nat) : Int))), (10, one (.int .i64 ((1 : Nat) : Int))), (11, one (.int .i64 s.1.2)), (44, one (.os 3 0 (M.getD 1 default).held.length)), (45, one (.int .i64 ((M.getD 1 default).held.length : Int))), (46, one (.int .i64 (s.1.1 : Int)))], (1, some (entP 2 M.length M)) :: hepP 2 M, 10⟩ : Hd)) (fun s => (M.getD 1 default).held.length - s.1.1) (fun _ => rfl) ?_ ⟨(0, (M.getD 1 default).mn), Nat.zero_le _, eW⟩ [] ⟨rfl, ⟨leF_int rfl, leF_int rfl, leF_c (leC_os rfl rfl), leF_int rfl, leF_int rfl, leF_int rfl, leF_int rfl, leF_c (leC_os rfl rfl), leF_int rfl, leF_int rfl, trivial⟩, ⟨⟨rfl, leN_entP (by omega) (lt8 rfl rfl rfl rfl rfl rfl rfl rfl)⟩, ⟨rfl, leN_entN⟩, ⟨rfl, leN_entN⟩, ⟨rfl, leN_entN⟩, ⟨rfl, leN_entN⟩, ⟨rfl, leN_entN⟩, ⟨rfl, leN_entN⟩, ⟨rfl, leN_entN⟩, ⟨rfl, leN_entN⟩, trivial⟩⟩
 rintro ⟨⟨k, l⟩, hkl, hW⟩
 dsimp only at hkl hW ⊢
 by_cases hkn : k < (M.getD 1 default).held.length
 . have w4 : IntKind.i64.wrap ((k : Int) + 1) = ((k + 1 : Nat) : Int) := (IntWalk.i64_in _ (by omega)).trans (by omega)
   have hst : lastF now ((M.getD 1 default).held.drop (k + 1)) (if ((M.getD 1 default).held.getD k default).til <= now then ((M.getD 1 default).held.getD k default).num + 1 else l) = W := by rw [<- hW, drop_at hkn]; rfl
   have hm := vh_mem hS.h _ (getD_in hkn)
   have w5 : IntKind.i64.wrap (((M.getD 1 default).held.getD k default).num + 1) = ((M.getD 1 default).held.getD k default).num + 1 := IntWalk.i64_in _ (by omega)
   have z0 : 0 + (k : Int).toNat = k := Nat.zero_add k
   repeat' (first | (simp only [z0, w4, w5]) | (apply And.intro <;> intro hc <;> (first | exact Bool.noConfusion hc | (exfalso; first | exact absurd rfl hc | omega) | (simp only [zb0, ne_eq, not_true_eq_false] at hc <;> first | exact absurd rfl hc | (exfalso; first | exact absurd rfl hc | omega) | skip) | skip)) | (refine And.intro zp1 ?_) | (apply And.intro) | (intro s hs; skip) | (refine Exists.intro _ (And.intro ⟨rfl, rfl, rfl⟩ ?_)))
   . rw [if_pos hc] at hst
     conv => whnf
     exact ⟨⟨(k + 1, _), hkn, hst⟩, [], by dsimp only; omega, rfl, ⟨leF_int rfl, leF_int rfl, leF_c (leC_os rfl rfl), leF_int rfl, leF_int rfl, leF_int rfl, leF_int w5, leF_c (leC_os rfl rfl), leF_int rfl, leF_int w4, trivial⟩, ⟨⟨rfl, leN_entP (by omega) (lt8 rfl rfl rfl rfl rfl rfl rfl rfl)⟩, ⟨rfl, leN_entN⟩, ⟨rfl, leN_entN⟩, ⟨rfl, leN_entN⟩, ⟨rfl, leN_entN⟩, ⟨rfl, leN_entN⟩, ⟨rfl, leN_entN⟩, ⟨rfl, leN_entN⟩, ⟨rfl, leN_entN⟩, trivial⟩⟩
   . rw [if_neg hc] at hst
     conv => whnf
     exact ⟨⟨(k + 1, l), hkn, hst⟩, [], by dsimp only; omega, rfl, ⟨leF_int rfl, leF_int rfl, leF_c (leC_os rfl rfl), leF_int rfl, leF_int rfl, leF_int rfl, leF_int rfl, leF_c (leC_os rfl rfl), leF_int rfl, leF_int w4, trivial⟩, ⟨⟨rfl, leN_entP (by omega) (lt8 rfl rfl rfl rfl rfl rfl rfl rfl)⟩, ⟨rfl, leN_entN⟩, ⟨rfl, leN_entN⟩, ⟨rfl, leN_entN⟩, ⟨rfl, leN_entN⟩, ⟨rfl, leN_entN⟩, ⟨rfl, leN_entN⟩, ⟨rfl, leN_entN⟩, ⟨rfl, leN_entN⟩, trivial⟩⟩
 . obtain rfl : l = W := by
    rw [List.drop_of_length_le (by omega)] at hW; exact hW
   clear hW
   repeat' (first | (apply And.intro <;> intro hc <;> (first | exact Bool.noConfusion hc | (exfalso; first | exact absurd rfl hc | omega) | (simp only [zb0, ne_eq, not_true_eq_false] at hc <;> first | exact absurd rfl hc | (exfalso; first | exact absurd rfl hc | omega) | skip) | skip)) | (refine And.intro zp1 ?_) | (apply And.intro) | (intro s hs; skip) | (refine Exists.intro _ (And.intro ⟨rfl, rfl, rfl⟩ ?_)))
   . exact rfl
   . conv => whnf
     have eM : M.set 1 (clsS now (M.getD 1 default)) = M := by
      unfold clsS; rw [eW, show raiseS (M.getD 1 default) l = M.getD 1 default from if_pos hc]; exact set_self hiM
     exact ⟨SlI.next ⟨1, M, hn, hi0, h1, h2⟩ hil M eM, [], by dsimp only [SlI.next]; omega, rfl, ⟨leF_int rfl, leF_int rfl, leF_c (leC_os rfl rfl), leF_int rfl, leF_int rfl, trivial⟩, ⟨⟨rfl, leN_entP (by omega) (lt8 rfl rfl rfl rfl rfl rfl rfl rfl)⟩, ⟨rfl, leN_entN⟩, ⟨rfl, leN_entN⟩, ⟨rfl, leN_entN⟩, ⟨rfl, leN_entN⟩, ⟨rfl, leN_entN⟩, ⟨rfl, leN_entN⟩, ⟨rfl, leN_entN⟩, ⟨rfl, leN_entN⟩, trivial⟩⟩
   . exact Nat.le_of_eq (Nat.zero_add _)
   . exact ⟨rfl, okD_sl _⟩
   . exact Eq.mpr (congrArg KpI (toN_row0 neH_rd _)) hk
   . conv => whnf
     have q : (M.getD 1 default).held.filter (wantB (some l)) = s := (hs.trans (congrArg (List.filter (wantB (some l))) (toN_row0 neH_rd _))).symm
     clear hs
     have eX : clsS now (M.getD 1 default) = ⟨(M.getD 1 default).id, l, s⟩ := by
      unfold clsS; rw [eW]; exact (if_neg hc).trans (by rw [q])
     refine ⟨SlI.next ⟨1, M, hn, hi0, h1, h2⟩ hil _ (congrArg (M.set 1) eX), [(3, some 5148)], by dsimp only [SlI.next]; omega, rfl, ⟨leF_int rfl, leF_int rfl, leF_c (leC_os rfl (List.length_set).symm), leF_int rfl, leF_int rfl, trivial⟩, ⟨⟨rfl, ⟨rfl, (List.length_set).symm, rfl, rfl, fun p hp j hj => ?_⟩⟩, ⟨rfl, leN_eqN (congrArg Sed.held (set_ne (by decide)).symm)⟩, ⟨rfl, leN_eqN (congrArg Sed.held (set_at (s := ⟨(M.getD 1 default).id, l, s⟩) hiM).symm)⟩, ⟨rfl, leN_eqN (congrArg Sed.held (set_ne (by decide)).symm)⟩, ⟨rfl, leN_eqN (congrArg Sed.held (set_ne (by decide)).symm)⟩, ⟨rfl, leN_eqN (congrArg Sed.held (set_ne (by decide)).symm)⟩, ⟨rfl, leN_eqN (congrArg Sed.held (set_ne (by decide)).symm)⟩, ⟨rfl, leN_eqN (congrArg Sed.held (set_ne (by decide)).symm)⟩, ⟨rfl, leN_eqN (congrArg Sed.held (set_ne (by decide)).symm)⟩, trivial⟩⟩
     have hp : p < M.length := hp
     have hj : j < 3 := hj
     rcases (show p = 0 \/ p = 1 \/ p = 2 \/ p = 3 \/ p = 4 \/ p = 5 \/ p = 6 \/ p = 7 by omega) with rfl | rfl | rfl | rfl | rfl | rfl | rfl | rfl
     all_goals first
      | exact rowP_set_ne hj (by decide) ((updE_ne (by decide)).trans (updE_ne (by decide))) rfl
      | skip
     refine rowP_set_at hiM ?_
     rcases j with _ | _ | _ | j
     . exact leC_int rfl
     . exact leC_int rfl
     . exact leC_os rfl rfl
     . omega
theorem st1_2 (L : List Sed) (now draw : Int) (hv : validL L = true) (s : SlI L now) (hi : s.i = 2) (hil : s.i < L.length) (K : Kt) :
 exec T (mkQ LMs) 1024 Try.f21.ntmps 0 (loopIn (dropC 4 (Try.f21.body.getD Code.ret))) (S1 L now draw s).fr (S1 L now draw s).H (S1 L now draw s).nx (seqK (fun fr H _ => Goes (S1 L now draw) (fun s => L.length - s.i) 0 (L.length - s.i) fr H) K) := by
 obtain ⟨i, M, hn, hi0, h1, h2⟩ := s
 dsimp only at hi hil
 subst hi
 have h8 := vl_len hv
 have hiM : 2 < M.length := by omega
 have hS : SdOk (M.getD 2 default) := by rw [h2 _ (Nat.le_refl _)]; exact (vl_mem hv _ (getD_in hil)).2
 have hk := hS.k
 have hh := hS.n
 have hmn := hS.mn
 have w3 : IntKind.i64.wrap ((2 : Int) + 1) = ((2 + 1 : Nat) : Int) := rfl
 unfold S1
 dsimp only
 repeat' (first | (apply And.intro <;> intro hc <;> (first | exact Bool.noConfusion hc | (exfalso; first | exact absurd rfl hc | omega) | (simp only [zb0, ne_eq, not_true_eq_false] at hc <;> first | exact absurd rfl hc | (exfalso; first | exact absurd rfl hc | omega) | skip) | skip)) | (refine And.intro zp1 ?_) | (apply And.intro) | (intro s hs; skip) | (refine Exists.intro _ (And.intro ⟨rfl, rfl, rfl⟩ ?_)))
 conv => whnf
 obtain ⟨W, eW⟩ : ∃ W, lastF now (M.getD 2 default).held (M.getD 2 default).mn = W := ⟨_, rfl⟩
 refine loop_intro (mono_of LMs_ok) (fun s : {p : Nat × Int // p.1 <= (M.getD 2 default).held.length /\ lastF now ((M.getD 2 default).held.drop p.1) p.2 = W} => (⟨[(1, one (.int .i64 now)), (2, one (.int .u32 draw)), (9, one (.os 1 0 M.length)), (31, one (.int .i64 (L.length : Int))), (32, one (.int .i64 ((2 : Nat) : Int))), (10, one (.int .i64 ((2 : Nat) : Int))), (11, one (.int .i64 s.1.2)), (44, one (.os 4 0 (M.getD 2 default).held.length)), (45, one (.int .i64 ((M.getD 2 default).held.length : Int))), (46, one (.int .i64 (s.1.1 : Int)))], (1, some (entP 2 M.length M)) :: hepP 2 M, 10⟩ : Hd)) (fun s => (M.getD 2 default).held.length - s.1.1) (fun _ => rfl) ?_ ⟨(0, (M.getD 2 default).mn), Nat.zero_le _, eW⟩ [] ⟨rfl, ⟨leF_int rfl, leF_int rfl, leF_c (leC_os rfl rfl), leF_int rfl, leF_int rfl, leF_int rfl, leF_int rfl, leF_c (leC_os rfl rfl), leF_int rfl, leF_int rfl, trivial⟩, ⟨⟨rfl, leN_entP (by omega) (lt8 rfl rfl rfl rfl rfl rfl rfl rfl)⟩, ⟨rfl, leN_entN⟩, ⟨rfl, leN_entN⟩, ⟨rfl, leN_entN⟩, ⟨rfl, leN_entN⟩, ⟨rfl, leN_entN⟩, ⟨rfl, leN_entN⟩, ⟨rfl, leN_entN⟩, ⟨rfl, leN_entN⟩, trivial⟩⟩
 rintro ⟨⟨k, l⟩, hkl, hW⟩
 dsimp only at hkl hW ⊢
 by_cases hkn : k < (M.getD 2 default).held.length
 . have w4 : IntKind.i64.wrap ((k : Int) + 1) = ((k + 1 : Nat) : Int) := (IntWalk.i64_in _ (by omega)).trans (by omega)
   have hst : lastF now ((M.getD 2 default).held.drop (k + 1)) (if ((M.getD 2 default).held.getD k default).til <= now then ((M.getD 2 default).held.getD k default).num + 1 else l) = W := by rw [<- hW, drop_at hkn]; rfl
   have hm := vh_mem hS.h _ (getD_in hkn)
   have w5 : IntKind.i64.wrap (((M.getD 2 default).held.getD k default).num + 1) = ((M.getD 2 default).held.getD k default).num + 1 := IntWalk.i64_in _ (by omega)
   have z0 : 0 + (k : Int).toNat = k := Nat.zero_add k
   repeat' (first | (simp only [z0, w4, w5]) | (apply And.intro <;> intro hc <;> (first | exact Bool.noConfusion hc | (exfalso; first | exact absurd rfl hc | omega) | (simp only [zb0, ne_eq, not_true_eq_false] at hc <;> first | exact absurd rfl hc | (exfalso; first | exact absurd rfl hc | omega) | skip) | skip)) | (refine And.intro zp1 ?_) | (apply And.intro) | (intro s hs; skip) | (refine Exists.intro _ (And.intro ⟨rfl, rfl, rfl⟩ ?_)))
   . rw [if_pos hc] at hst
     conv => whnf
     exact ⟨⟨(k + 1, _), hkn, hst⟩, [], by dsimp only; omega, rfl, ⟨leF_int rfl, leF_int rfl, leF_c (leC_os rfl rfl), leF_int rfl, leF_int rfl, leF_int rfl, leF_int w5, leF_c (leC_os rfl rfl), leF_int rfl, leF_int w4, trivial⟩, ⟨⟨rfl, leN_entP (by omega) (lt8 rfl rfl rfl rfl rfl rfl rfl rfl)⟩, ⟨rfl, leN_entN⟩, ⟨rfl, leN_entN⟩, ⟨rfl, leN_entN⟩, ⟨rfl, leN_entN⟩, ⟨rfl, leN_entN⟩, ⟨rfl, leN_entN⟩, ⟨rfl, leN_entN⟩, ⟨rfl, leN_entN⟩, trivial⟩⟩
   . rw [if_neg hc] at hst
     conv => whnf
     exact ⟨⟨(k + 1, l), hkn, hst⟩, [], by dsimp only; omega, rfl, ⟨leF_int rfl, leF_int rfl, leF_c (leC_os rfl rfl), leF_int rfl, leF_int rfl, leF_int rfl, leF_int rfl, leF_c (leC_os rfl rfl), leF_int rfl, leF_int w4, trivial⟩, ⟨⟨rfl, leN_entP (by omega) (lt8 rfl rfl rfl rfl rfl rfl rfl rfl)⟩, ⟨rfl, leN_entN⟩, ⟨rfl, leN_entN⟩, ⟨rfl, leN_entN⟩, ⟨rfl, leN_entN⟩, ⟨rfl, leN_entN⟩, ⟨rfl, leN_entN⟩, ⟨rfl, leN_entN⟩, ⟨rfl, leN_entN⟩, trivial⟩⟩
 . obtain rfl : l = W := by
    rw [List.drop_of_length_le (by omega)] at hW; exact hW
   clear hW
   repeat' (first | (apply And.intro <;> intro hc <;> (first | exact Bool.noConfusion hc | (exfalso; first | exact absurd rfl hc | omega) | (simp only [zb0, ne_eq, not_true_eq_false] at hc <;> first | exact absurd rfl hc | (exfalso; first | exact absurd rfl hc | omega) | skip) | skip)) | (refine And.intro zp1 ?_) | (apply And.intro) | (intro s hs; skip) | (refine Exists.intro _ (And.intro ⟨rfl, rfl, rfl⟩ ?_)))
   . exact rfl
   . conv => whnf
     have eM : M.set 2 (clsS now (M.getD 2 default)) = M := by
      unfold clsS; rw [eW, show raiseS (M.getD 2 default) l = M.getD 2 default from if_pos hc]; exact set_self hiM
     exact ⟨SlI.next ⟨2, M, hn, hi0, h1, h2⟩ hil M eM, [], by dsimp only [SlI.next]; omega, rfl, ⟨leF_int rfl, leF_int rfl, leF_c (leC_os rfl rfl), leF_int rfl, leF_int rfl, trivial⟩, ⟨⟨rfl, leN_entP (by omega) (lt8 rfl rfl rfl rfl rfl rfl rfl rfl)⟩, ⟨rfl, leN_entN⟩, ⟨rfl, leN_entN⟩, ⟨rfl, leN_entN⟩, ⟨rfl, leN_entN⟩, ⟨rfl, leN_entN⟩, ⟨rfl, leN_entN⟩, ⟨rfl, leN_entN⟩, ⟨rfl, leN_entN⟩, trivial⟩⟩
   . exact Nat.le_of_eq (Nat.zero_add _)
   . exact ⟨rfl, okD_sl _⟩
   . exact Eq.mpr (congrArg KpI (toN_row0 neH_rd _)) hk
   . conv => whnf
     have q : (M.getD 2 default).held.filter (wantB (some l)) = s := (hs.trans (congrArg (List.filter (wantB (some l))) (toN_row0 neH_rd _))).symm
     clear hs
     have eX : clsS now (M.getD 2 default) = ⟨(M.getD 2 default).id, l, s⟩ := by
      unfold clsS; rw [eW]; exact (if_neg hc).trans (by rw [q])
     refine ⟨SlI.next ⟨2, M, hn, hi0, h1, h2⟩ hil _ (congrArg (M.set 2) eX), [(4, some 5148)], by dsimp only [SlI.next]; omega, rfl, ⟨leF_int rfl, leF_int rfl, leF_c (leC_os rfl (List.length_set).symm), leF_int rfl, leF_int rfl, trivial⟩, ⟨⟨rfl, ⟨rfl, (List.length_set).symm, rfl, rfl, fun p hp j hj => ?_⟩⟩, ⟨rfl, leN_eqN (congrArg Sed.held (set_ne (by decide)).symm)⟩, ⟨rfl, leN_eqN (congrArg Sed.held (set_ne (by decide)).symm)⟩, ⟨rfl, leN_eqN (congrArg Sed.held (set_at (s := ⟨(M.getD 2 default).id, l, s⟩) hiM).symm)⟩, ⟨rfl, leN_eqN (congrArg Sed.held (set_ne (by decide)).symm)⟩, ⟨rfl, leN_eqN (congrArg Sed.held (set_ne (by decide)).symm)⟩, ⟨rfl, leN_eqN (congrArg Sed.held (set_ne (by decide)).symm)⟩, ⟨rfl, leN_eqN (congrArg Sed.held (set_ne (by decide)).symm)⟩, ⟨rfl, leN_eqN (congrArg Sed.held (set_ne (by decide)).symm)⟩, trivial⟩⟩
     have hp : p < M.length := hp
     have hj : j < 3 := hj
     rcases (show p = 0 \/ p = 1 \/ p = 2 \/ p = 3 \/ p = 4 \/ p = 5 \/ p = 6 \/ p = 7 by omega) with rfl | rfl | rfl | rfl | rfl | rfl | rfl | rfl
     all_goals first
      | exact rowP_set_ne hj (by decide) ((updE_ne (by decide)).trans (updE_ne (by decide))) rfl
      | skip
     refine rowP_set_at hiM ?_
     rcases j with _ | _ | _ | j
     . exact leC_int rfl
     . exact leC_int rfl
     . exact leC_os rfl rfl
     . omega
theorem st1_3 (L : List Sed) (now draw : Int) (hv : validL L = true) (s : SlI L now) (hi : s.i = 3) (hil : s.i < L.length) (K : Kt) :
 exec T (mkQ LMs) 1024 Try.f21.ntmps 0 (loopIn (dropC 4 (Try.f21.body.getD Code.ret))) (S1 L now draw s).fr (S1 L now draw s).H (S1 L now draw s).nx (seqK (fun fr H _ => Goes (S1 L now draw) (fun s => L.length - s.i) 0 (L.length - s.i) fr H) K) := by
 obtain ⟨i, M, hn, hi0, h1, h2⟩ := s
 dsimp only at hi hil
 subst hi
 have h8 := vl_len hv
 have hiM : 3 < M.length := by omega
 have hS : SdOk (M.getD 3 default) := by rw [h2 _ (Nat.le_refl _)]; exact (vl_mem hv _ (getD_in hil)).2
 have hk := hS.k
 have hh := hS.n
 have hmn := hS.mn
 have w3 : IntKind.i64.wrap ((3 : Int) + 1) = ((3 + 1 : Nat) : Int) := rfl
 unfold S1
 dsimp only
 repeat' (first | (apply And.intro <;> intro hc <;> (first | exact Bool.noConfusion hc | (exfalso; first | exact absurd rfl hc | omega) | (simp only [zb0, ne_eq, not_true_eq_false] at hc <;> first | exact absurd rfl hc | (exfalso; first | exact absurd rfl hc | omega) | skip) | skip)) | (refine And.intro zp1 ?_) | (apply And.intro) | (intro s hs; skip) | (refine Exists.intro _ (And.intro ⟨rfl, rfl, rfl⟩ ?_)))
 conv => whnf
 obtain ⟨W, eW⟩ : ∃ W, lastF now (M.getD 3 default).held (M.getD 3 default).mn = W := ⟨_, rfl⟩
 refine loop_intro (mono_of LMs_ok) (fun s : {p : Nat × Int // p.1 <= (M.getD 3 default).held.length /\ lastF now ((M.getD 3 default).held.drop p.1) p.2 = W} => (⟨[(1, one (.int .i64 now)), (2, one (.int .u32 draw)), (9, one (.os 1 0 M.length)), (31, one (.int .i64 (L.length : Int))), (32, one (.int .i64 ((3 : Nat) : Int))), (10, one (.int .i64 ((3 : Nat) : Int))), (11, one (.int .i64 s.1.2)), (44, one (.os 5 0 (M.getD 3 default).held.length)), (45, one (.int .i64 ((M.getD 3 default).held.length : Int))), (46, one (.int .i64 (s.1.1 : Int)))], (1, some (entP 2 M.length M)) :: hepP 2 M, 10⟩ : Hd)) (fun s => (M.getD 3 default).held.length - s.1.1) (fun _ => rfl) ?_ ⟨(0, (M.getD 3 default).mn), Nat.zero_le _, eW⟩ [] ⟨rfl, ⟨leF_int rfl, leF_int rfl, leF_c (leC_os rfl rfl), leF_int rfl, leF_int rfl, leF_int rfl, leF_int rfl, leF_c (leC_os rfl rfl), leF_int rfl, leF_int rfl, trivial⟩, ⟨⟨rfl, leN_entP (by omega) (lt8 rfl rfl rfl rfl rfl rfl rfl rfl)⟩, ⟨rfl, leN_entN⟩, ⟨rfl, leN_entN⟩, ⟨rfl, leN_entN⟩, ⟨rfl, leN_entN⟩, ⟨rfl, leN_entN⟩, ⟨rfl, leN_entN⟩, ⟨rfl, leN_entN⟩, ⟨rfl, leN_entN⟩, trivial⟩⟩
 rintro ⟨⟨k, l⟩, hkl, hW⟩
 dsimp only at hkl hW ⊢
 by_cases hkn : k < (M.getD 3 default).held.length
 . have w4 : IntKind.i64.wrap ((k : Int) + 1) = ((k + 1 : Nat) : Int) := (IntWalk.i64_in _ (by omega)).trans (by omega)
   have hst : lastF now ((M.getD 3 default).held.drop (k + 1)) (if ((M.getD 3 default).held.getD k default).til <= now then ((M.getD 3 default).held.getD k default).num + 1 else l) = W := by rw [<- hW, drop_at hkn]; rfl
   have hm := vh_mem hS.h _ (getD_in hkn)
   have w5 : IntKind.i64.wrap (((M.getD 3 default).held.getD k default).num + 1) = ((M.getD 3 default).held.getD k default).num + 1 := IntWalk.i64_in _ (by omega)
   have z0 : 0 + (k : Int).toNat = k := Nat.zero_add k
   repeat' (first | (simp only [z0, w4, w5]) | (apply And.intro <;> intro hc <;> (first | exact Bool.noConfusion hc | (exfalso; first | exact absurd rfl hc | omega) | (simp only [zb0, ne_eq, not_true_eq_false] at hc <;> first | exact absurd rfl hc | (exfalso; first | exact absurd rfl hc | omega) | skip) | skip)) | (refine And.intro zp1 ?_) | (apply And.intro) | (intro s hs; skip) | (refine Exists.intro _ (And.intro ⟨rfl, rfl, rfl⟩ ?_)))
   . rw [if_pos hc] at hst
     conv => whnf
     exact ⟨⟨(k + 1, _), hkn, hst⟩, [], by dsimp only; omega, rfl, ⟨leF_int rfl, leF_int rfl, leF_c (leC_os rfl rfl), leF_int rfl, leF_int rfl, leF_int rfl, leF_int w5, leF_c (leC_os rfl rfl), leF_int rfl, leF_int w4, trivial⟩, ⟨⟨rfl, leN_entP (by omega) (lt8 rfl rfl rfl rfl rfl rfl rfl rfl)⟩, ⟨rfl, leN_entN⟩, ⟨rfl, leN_entN⟩, ⟨rfl, leN_entN⟩, ⟨rfl, leN_entN⟩, ⟨rfl, leN_entN⟩, ⟨rfl, leN_entN⟩, ⟨rfl, leN_entN⟩, ⟨rfl, leN_entN⟩, trivial⟩⟩
   . rw [if_neg hc] at hst
     conv => whnf
     exact ⟨⟨(k + 1, l), hkn, hst⟩, [], by dsimp only; omega, rfl, ⟨leF_int rfl, leF_int rfl, leF_c (leC_os rfl rfl), leF_int rfl, leF_int rfl, leF_int rfl, leF_int rfl, leF_c (leC_os rfl rfl), leF_int rfl, leF_int w4, trivial⟩, ⟨⟨rfl, leN_entP (by omega) (lt8 rfl rfl rfl rfl rfl rfl rfl rfl)⟩, ⟨rfl, leN_entN⟩, ⟨rfl, leN_entN⟩, ⟨rfl, leN_entN⟩, ⟨rfl, leN_entN⟩, ⟨rfl, leN_entN⟩, ⟨rfl, leN_entN⟩, ⟨rfl, leN_entN⟩, ⟨rfl, leN_entN⟩, trivial⟩⟩
 . obtain rfl : l = W := by
    rw [List.drop_of_length_le (by omega)] at hW; exact hW
   clear hW
   repeat' (first | (apply And.intro <;> intro hc <;> (first | exact Bool.noConfusion hc | (exfalso; first | exact absurd rfl hc | omega) | (simp only [zb0, ne_eq, not_true_eq_false] at hc <;> first | exact absurd rfl hc | (exfalso; first | exact absurd rfl hc | omega) | skip) | skip)) | (refine And.intro zp1 ?_) | (apply And.intro) | (intro s hs; skip) | (refine Exists.intro _ (And.intro ⟨rfl, rfl, rfl⟩ ?_)))
   . exact rfl
   . conv => whnf
     have eM : M.set 3 (clsS now (M.getD 3 default)) = M := by
      unfold clsS; rw [eW, show raiseS (M.getD 3 default) l = M.getD 3 default from if_pos hc]; exact set_self hiM
     exact ⟨SlI.next ⟨3, M, hn, hi0, h1, h2⟩ hil M eM, [], by dsimp only [SlI.next]; omega, rfl, ⟨leF_int rfl, leF_int rfl, leF_c (leC_os rfl rfl), leF_int rfl, leF_int rfl, trivial⟩, ⟨⟨rfl, leN_entP (by omega) (lt8 rfl rfl rfl rfl rfl rfl rfl rfl)⟩, ⟨rfl, leN_entN⟩, ⟨rfl, leN_entN⟩, ⟨rfl, leN_entN⟩, ⟨rfl, leN_entN⟩, ⟨rfl, leN_entN⟩, ⟨rfl, leN_entN⟩, ⟨rfl, leN_entN⟩, ⟨rfl, leN_entN⟩, trivial⟩⟩
   . exact Nat.le_of_eq (Nat.zero_add _)
   . exact ⟨rfl, okD_sl _⟩
   . exact Eq.mpr (congrArg KpI (toN_row0 neH_rd _)) hk
   . conv => whnf
     have q : (M.getD 3 default).held.filter (wantB (some l)) = s := (hs.trans (congrArg (List.filter (wantB (some l))) (toN_row0 neH_rd _))).symm
     clear hs
     have eX : clsS now (M.getD 3 default) = ⟨(M.getD 3 default).id, l, s⟩ := by
      unfold clsS; rw [eW]; exact (if_neg hc).trans (by rw [q])
     refine ⟨SlI.next ⟨3, M, hn, hi0, h1, h2⟩ hil _ (congrArg (M.set 3) eX), [(5, some 5148)], by dsimp only [SlI.next]; omega, rfl, ⟨leF_int rfl, leF_int rfl, leF_c (leC_os rfl (List.length_set).symm), leF_int rfl, leF_int rfl, trivial⟩, ⟨⟨rfl, ⟨rfl, (List.length_set).symm, rfl, rfl, fun p hp j hj => ?_⟩⟩, ⟨rfl, leN_eqN (congrArg Sed.held (set_ne (by decide)).symm)⟩, ⟨rfl, leN_eqN (congrArg Sed.held (set_ne (by decide)).symm)⟩, ⟨rfl, leN_eqN (congrArg Sed.held (set_ne (by decide)).symm)⟩, ⟨rfl, leN_eqN (congrArg Sed.held (set_at (s := ⟨(M.getD 3 default).id, l, s⟩) hiM).symm)⟩, ⟨rfl, leN_eqN (congrArg Sed.held (set_ne (by decide)).symm)⟩, ⟨rfl, leN_eqN (congrArg Sed.held (set_ne (by decide)).symm)⟩, ⟨rfl, leN_eqN (congrArg Sed.held (set_ne (by decide)).symm)⟩, ⟨rfl, leN_eqN (congrArg Sed.held (set_ne (by decide)).symm)⟩, trivial⟩⟩
     have hp : p < M.length := hp
     have hj : j < 3 := hj
     rcases (show p = 0 \/ p = 1 \/ p = 2 \/ p = 3 \/ p = 4 \/ p = 5 \/ p = 6 \/ p = 7 by omega) with rfl | rfl | rfl | rfl | rfl | rfl | rfl | rfl
     all_goals first
      | exact rowP_set_ne hj (by decide) ((updE_ne (by decide)).trans (updE_ne (by decide))) rfl
      | skip
     refine rowP_set_at hiM ?_
     rcases j with _ | _ | _ | j
     . exact leC_int rfl
     . exact leC_int rfl
     . exact leC_os rfl rfl
     . omega
theorem st1_4 (L : List Sed) (now draw : Int) (hv : validL L = true) (s : SlI L now) (hi : s.i = 4) (hil : s.i < L.length) (K : Kt) :
 exec T (mkQ LMs) 1024 Try.f21.ntmps 0 (loopIn (dropC 4 (Try.f21.body.getD Code.ret))) (S1 L now draw s).fr (S1 L now draw s).H (S1 L now draw s).nx (seqK (fun fr H _ => Goes (S1 L now draw) (fun s => L.length - s.i) 0 (L.length - s.i) fr H) K) := by
 obtain ⟨i, M, hn, hi0, h1, h2⟩ := s
 dsimp only at hi hil
 subst hi
 have h8 := vl_len hv
 have hiM : 4 < M.length := by omega
 have hS : SdOk (M.getD 4 default) := by rw [h2 _ (Nat.le_refl _)]; exact (vl_mem hv _ (getD_in hil)).2
 have hk := hS.k
 have hh := hS.n
 have hmn := hS.mn
 have w3 : IntKind.i64.wrap ((4 : Int) + 1) = ((4 + 1 : Nat) : Int) := rfl
 unfold S1
 dsimp only
 repeat' (first | (apply And.intro <;> intro hc <;> (first | exact Bool.noConfusion hc | (exfalso; first | exact absurd rfl hc | omega) | (simp only [zb0, ne_eq, not_true_eq_false] at hc <;> first | exact absurd rfl hc | (exfalso; first | exact absurd rfl hc | omega) | skip) | skip)) | (refine And.intro zp1 ?_) | (apply And.intro) | (intro s hs; skip) | (refine Exists.intro _ (And.intro ⟨rfl, rfl, rfl⟩ ?_)))
 conv => whnf
 obtain ⟨W, eW⟩ : ∃ W, lastF now (M.getD 4 default).held (M.getD 4 default).mn = W := ⟨_, rfl⟩
 refine loop_intro (mono_of LMs_ok) (fun s : {p : Nat × Int // p.1 <= (M.getD 4 default).held.length /\ lastF now ((M.getD 4 default).held.drop p.1) p.2 = W} => (⟨[(1, one (.int .i64 now)), (2, one (.int .u32 draw)), (9, one (.os 1 0 M.length)), (31, one (.int .i64 (L.length : Int))), (32, one (.int .i64 ((4 : Nat) : Int))), (10, one (.int .i64 ((4 : Nat) : Int))), (11, one (.int .i64 s.1.2)), (44, one (.os 6 0 (M.getD 4 default).held.length)), (45, one (.int .i64 ((M.getD 4 default).held.length : Int))), (46, one (.int .i64 (s.1.1 : Int)))], (1, some (entP 2 M.length M)) :: hepP 2 M, 10⟩ : Hd)) (fun s => (M.getD 4 default).held.length - s.1.1) (fun _ => rfl) ?_ ⟨(0, (M.getD 4 default).mn), Nat.zero_le _, eW⟩ [] ⟨rfl, ⟨leF_int rfl, leF_int rfl, leF_c (leC_os rfl rfl), leF_int rfl, leF_int rfl, leF_int rfl, leF_int rfl, leF_c (leC_os rfl rfl), leF_int rfl, leF_int rfl, trivial⟩, ⟨⟨rfl, leN_entP (by omega) (lt8 rfl rfl rfl rfl rfl rfl rfl rfl)⟩, ⟨rfl, leN_entN⟩, ⟨rfl, leN_entN⟩, ⟨rfl, leN_entN⟩, ⟨rfl, leN_entN⟩, ⟨rfl, leN_entN⟩, ⟨rfl, leN_entN⟩, ⟨rfl, leN_entN⟩, ⟨rfl, leN_entN⟩, trivial⟩⟩
 rintro ⟨⟨k, l⟩, hkl, hW⟩
 dsimp only at hkl hW ⊢
 by_cases hkn : k < (M.getD 4 default).held.length
 . have w4 : IntKind.i64.wrap ((k : Int) + 1) = ((k + 1 : Nat) : Int) := (IntWalk.i64_in _ (by omega)).trans (by omega)
   have hst : lastF now ((M.getD 4 default).held.drop (k + 1)) (if ((M.getD 4 default).held.getD k default).til <= now then ((M.getD 4 default).held.getD k default).num + 1 else l) = W := by rw [<- hW, drop_at hkn]; rfl
   have hm := vh_mem hS.h _ (getD_in hkn)
   have w5 : IntKind.i64.wrap (((M.getD 4 default).held.getD k default).num + 1) = ((M.getD 4 default).held.getD k default).num + 1 := IntWalk.i64_in _ (by omega)
   have z0 : 0 + (k : Int).toNat = k := Nat.zero_add k
   repeat' (first | (simp only [z0, w4, w5]) | (apply And.intro <;> intro hc <;> (first | exact Bool.noConfusion hc | (exfalso; first | exact absurd rfl hc | omega) | (simp only [zb0, ne_eq, not_true_eq_false] at hc <;> first | exact absurd rfl hc | (exfalso; first | exact absurd rfl hc | omega) | skip) | skip)) | (refine And.intro zp1 ?_) | (apply And.intro) | (intro s hs; skip) | (refine Exists.intro _ (And.intro ⟨rfl, rfl, rfl⟩ ?_)))
   . rw [if_pos hc] at hst
     conv => whnf
     exact ⟨⟨(k + 1, _), hkn, hst⟩, [], by dsimp only; omega, rfl, ⟨leF_int rfl, leF_int rfl, leF_c (leC_os rfl rfl), leF_int rfl, leF_int rfl, leF_int rfl, leF_int w5, leF_c (leC_os rfl rfl), leF_int rfl, leF_int w4, trivial⟩, ⟨⟨rfl, leN_entP (by omega) (lt8 rfl rfl rfl rfl rfl rfl rfl rfl)⟩, ⟨rfl, leN_entN⟩, ⟨rfl, leN_entN⟩, ⟨rfl, leN_entN⟩, ⟨rfl, leN_entN⟩, ⟨rfl, leN_entN⟩, ⟨rfl, leN_entN⟩, ⟨rfl, leN_entN⟩, ⟨rfl, leN_entN⟩, trivial⟩⟩
   . rw [if_neg hc] at hst
     conv => whnf
     exact ⟨⟨(k + 1, l), hkn, hst⟩, [], by dsimp only; omega, rfl, ⟨leF_int rfl, leF_int rfl, leF_c (leC_os rfl rfl), leF_int rfl, leF_int rfl, leF_int rfl, leF_int rfl, leF_c (leC_os rfl rfl), leF_int rfl, leF_int w4, trivial⟩, ⟨⟨rfl, leN_entP (by omega) (lt8 rfl rfl rfl rfl rfl rfl rfl rfl)⟩, ⟨rfl, leN_entN⟩, ⟨rfl, leN_entN⟩, ⟨rfl, leN_entN⟩, ⟨rfl, leN_entN⟩, ⟨rfl, leN_entN⟩, ⟨rfl, leN_entN⟩, ⟨rfl, leN_entN⟩, ⟨rfl, leN_entN⟩, trivial⟩⟩
 . obtain rfl : l = W := by
    rw [List.drop_of_length_le (by omega)] at hW; exact hW
   clear hW
   repeat' (first | (apply And.intro <;> intro hc <;> (first | exact Bool.noConfusion hc | (exfalso; first | exact absurd rfl hc | omega) | (simp only [zb0, ne_eq, not_true_eq_false] at hc <;> first | exact absurd rfl hc | (exfalso; first | exact absurd rfl hc | omega) | skip) | skip)) | (refine And.intro zp1 ?_) | (apply And.intro) | (intro s hs; skip) | (refine Exists.intro _ (And.intro ⟨rfl, rfl, rfl⟩ ?_)))
   . exact rfl
   . conv => whnf
     have eM : M.set 4 (clsS now (M.getD 4 default)) = M := by
      unfold clsS; rw [eW, show raiseS (M.getD 4 default) l = M.getD 4 default from if_pos hc]; exact set_self hiM
     exact ⟨SlI.next ⟨4, M, hn, hi0, h1, h2⟩ hil M eM, [], by dsimp only [SlI.next]; omega, rfl, ⟨leF_int rfl, leF_int rfl, leF_c (leC_os rfl rfl), leF_int rfl, leF_int rfl, trivial⟩, ⟨⟨rfl, leN_entP (by omega) (lt8 rfl rfl rfl rfl rfl rfl rfl rfl)⟩, ⟨rfl, leN_entN⟩, ⟨rfl, leN_entN⟩, ⟨rfl, leN_entN⟩, ⟨rfl, leN_entN⟩, ⟨rfl, leN_entN⟩, ⟨rfl, leN_entN⟩, ⟨rfl, leN_entN⟩, ⟨rfl, leN_entN⟩, trivial⟩⟩
   . exact Nat.le_of_eq (Nat.zero_add _)
   . exact ⟨rfl, okD_sl _⟩
   . exact Eq.mpr (congrArg KpI (toN_row0 neH_rd _)) hk
   . conv => whnf
     have q : (M.getD 4 default).held.filter (wantB (some l)) = s := (hs.trans (congrArg (List.filter (wantB (some l))) (toN_row0 neH_rd _))).symm
     clear hs
     have eX : clsS now (M.getD 4 default) = ⟨(M.getD 4 default).id, l, s⟩ := by
      unfold clsS; rw [eW]; exact (if_neg hc).trans (by rw [q])
     refine ⟨SlI.next ⟨4, M, hn, hi0, h1, h2⟩ hil _ (congrArg (M.set 4) eX), [(6, some 5148)], by dsimp only [SlI.next]; omega, rfl, ⟨leF_int rfl, leF_int rfl, leF_c (leC_os rfl (List.length_set).symm), leF_int rfl, leF_int rfl, trivial⟩, ⟨⟨rfl, ⟨rfl, (List.length_set).symm, rfl, rfl, fun p hp j hj => ?_⟩⟩, ⟨rfl, leN_eqN (congrArg Sed.held (set_ne (by decide)).symm)⟩, ⟨rfl, leN_eqN (congrArg Sed.held (set_ne (by decide)).symm)⟩, ⟨rfl, leN_eqN (congrArg Sed.held (set_ne (by decide)).symm)⟩, ⟨rfl, leN_eqN (congrArg Sed.held (set_ne (by decide)).symm)⟩, ⟨rfl, leN_eqN (congrArg Sed.held (set_at (s := ⟨(M.getD 4 default).id, l, s⟩) hiM).symm)⟩, ⟨rfl, leN_eqN (congrArg Sed.held (set_ne (by decide)).symm)⟩, ⟨rfl, leN_eqN (congrArg Sed.held (set_ne (by decide)).symm)⟩, ⟨rfl, leN_eqN (congrArg Sed.held (set_ne (by decide)).symm)⟩, trivial⟩⟩
     have hp : p < M.length := hp
     have hj : j < 3 := hj
     rcases (show p = 0 \/ p = 1 \/ p = 2 \/ p = 3 \/ p = 4 \/ p = 5 \/ p = 6 \/ p = 7 by omega) with rfl | rfl | rfl | rfl | rfl | rfl | rfl | rfl
     all_goals first
      | exact rowP_set_ne hj (by decide) ((updE_ne (by decide)).trans (updE_ne (by decide))) rfl
      | skip
     refine rowP_set_at hiM ?_
     rcases j with _ | _ | _ | j
     . exact leC_int rfl
     . exact leC_int rfl
     . exact leC_os rfl rfl
     . omega
theorem st1_5 (L : List Sed) (now draw : Int) (hv : validL L = true) (s : SlI L now) (hi : s.i = 5) (hil : s.i < L.length) (K : Kt) :
 exec T (mkQ LMs) 1024 Try.f21.ntmps 0 (loopIn (dropC 4 (Try.f21.body.getD Code.ret))) (S1 L now draw s).fr (S1 L now draw s).H (S1 L now draw s).nx (seqK (fun fr H _ => Goes (S1 L now draw) (fun s => L.length - s.i) 0 (L.length - s.i) fr H) K) := by
 obtain ⟨i, M, hn, hi0, h1, h2⟩ := s
 dsimp only at hi hil
 subst hi
 have h8 := vl_len hv
 have hiM : 5 < M.length := by omega
 have hS : SdOk (M.getD 5 default) := by rw [h2 _ (Nat.le_refl _)]; exact (vl_mem hv _ (getD_in hil)).2
 have hk := hS.k
 have hh := hS.n
 have hmn := hS.mn
 have w3 : IntKind.i64.wrap ((5 : Int) + 1) = ((5 + 1 : Nat) : Int) := rfl
 unfold S1
 dsimp only
 repeat' (first | (apply And.intro <;> intro hc <;> (first | exact Bool.noConfusion hc | (exfalso; first | exact absurd rfl hc | omega) | (simp only [zb0, ne_eq, not_true_eq_false] at hc <;> first | exact absurd rfl hc | (exfalso; first | exact absurd rfl hc | omega) | skip) | skip)) | (refine And.intro zp1 ?_) | (apply And.intro) | (intro s hs; skip) | (refine Exists.intro _ (And.intro ⟨rfl, rfl, rfl⟩ ?_)))
 conv => whnf
 obtain ⟨W, eW⟩ : ∃ W, lastF now (M.getD 5 default).held (M.getD 5 default).mn = W := ⟨_, rfl⟩
 refine loop_intro (mono_of LMs_ok) (fun s : {p : Nat × Int // p.1 <= (M.getD 5 default).held.length /\ lastF now ((M.getD 5 default).held.drop p.1) p.2 = W} => (⟨[(1, one (.int .i64 now)), (2, one (.int .u32 draw)), (9, one (.os 1 0 M.length)), (31, one (.int .i64 (L.length : Int))), (32, one (.int .i64 ((5 : Nat) : Int))), (10, one (.int .i64 ((5 : Nat) : Int))), (11, one (.int .i64 s.1.2)), (44, one (.os 7 0 (M.getD 5 default).held.length)), (45, one (.int .i64 ((M.getD 5 default).held.length : Int))), (46, one (.int .i64 (s.1.1 : Int)))], (1, some (entP 2 M.length M)) :: hepP 2 M, 10⟩ : Hd)) (fun s => (M.getD 5 default).held.length - s.1.1) (fun _ => rfl) ?_ ⟨(0, (M.getD 5 default).mn), Nat.zero_le _, eW⟩ [] ⟨rfl, ⟨leF_int rfl, leF_int rfl, leF_c (leC_os rfl rfl), leF_int rfl, leF_int rfl, leF_int rfl, leF_int rfl, leF_c (leC_os rfl rfl), leF_int rfl, leF_int rfl, trivial⟩, ⟨⟨rfl, leN_entP (by omega) (lt8 rfl rfl rfl rfl rfl rfl rfl rfl)⟩, ⟨rfl, leN_entN⟩, ⟨rfl, leN_entN⟩, ⟨rfl, leN_entN⟩, ⟨rfl, leN_entN⟩, ⟨rfl, leN_entN⟩, ⟨rfl, leN_entN⟩, ⟨rfl, leN_entN⟩, ⟨rfl, leN_entN⟩, trivial⟩⟩
 rintro ⟨⟨k, l⟩, hkl, hW⟩
 dsimp only at hkl hW ⊢
 by_cases hkn : k < (M.getD 5 default).held.length
 . have w4 : IntKind.i64.wrap ((k : Int) + 1) = ((k + 1 : Nat) : Int) := (IntWalk.i64_in _ (by omega)).trans (by omega)
   have hst : lastF now ((M.getD 5 default).held.drop (k + 1)) (if ((M.getD 5 default).held.getD k default).til <= now then ((M.getD 5 default).held.getD k default).num + 1 else l) = W := by rw [<- hW, drop_at hkn]; rfl
   have hm := vh_mem hS.h _ (getD_in hkn)
   have w5 : IntKind.i64.wrap (((M.getD 5 default).held.getD k default).num + 1) = ((M.getD 5 default).held.getD k default).num + 1 := IntWalk.i64_in _ (by omega)
   have z0 : 0 + (k : Int).toNat = k := Nat.zero_add k
   repeat' (first | (simp only [z0, w4, w5]) | (apply And.intro <;> intro hc <;> (first | exact Bool.noConfusion hc | (exfalso; first | exact absurd rfl hc | omega) | (simp only [zb0, ne_eq, not_true_eq_false] at hc <;> first | exact absurd rfl hc | (exfalso; first | exact absurd rfl hc | omega) | skip) | skip)) | (refine And.intro zp1 ?_) | (apply And.intro) | (intro s hs; skip) | (refine Exists.intro _ (And.intro ⟨rfl, rfl, rfl⟩ ?_)))
   . rw [if_pos hc] at hst
     conv => whnf
     exact ⟨⟨(k + 1, _), hkn, hst⟩, [], by dsimp only; omega, rfl, ⟨leF_int rfl, leF_int rfl, leF_c (leC_os rfl rfl), leF_int rfl, leF_int rfl, leF_int rfl, leF_int w5, leF_c (leC_os rfl rfl), leF_int rfl, leF_int w4, trivial⟩, ⟨⟨rfl, leN_entP (by omega) (lt8 rfl rfl rfl rfl rfl rfl rfl rfl)⟩, ⟨rfl, leN_entN⟩, ⟨rfl, leN_entN⟩, ⟨rfl, leN_entN⟩, ⟨rfl, leN_entN⟩, ⟨rfl, leN_entN⟩, ⟨rfl, leN_entN⟩, ⟨rfl, leN_entN⟩, ⟨rfl, leN_entN⟩, trivial⟩⟩
   . rw [if_neg hc] at hst
     conv => whnf
     exact ⟨⟨(k + 1, l), hkn, hst⟩, [], by dsimp only; omega, rfl, ⟨leF_int rfl, leF_int rfl, leF_c (leC_os rfl rfl), leF_int rfl, leF_int rfl, leF_int rfl, leF_int rfl, leF_c (leC_os rfl rfl), leF_int rfl, leF_int w4, trivial⟩, ⟨⟨rfl, leN_entP (by omega) (lt8 rfl rfl rfl rfl rfl rfl rfl rfl)⟩, ⟨rfl, leN_entN⟩, ⟨rfl, leN_entN⟩, ⟨rfl, leN_entN⟩, ⟨rfl, leN_entN⟩, ⟨rfl, leN_entN⟩, ⟨rfl, leN_entN⟩, ⟨rfl, leN_entN⟩, ⟨rfl, leN_entN⟩, trivial⟩⟩
 . obtain rfl : l = W := by
    rw [List.drop_of_length_le (by omega)] at hW; exact hW
   clear hW
   repeat' (first | (apply And.intro <;> intro hc <;> (first | exact Bool.noConfusion hc | (exfalso; first | exact absurd rfl hc | omega) | (simp only [zb0, ne_eq, not_true_eq_false] at hc <;> first | exact absurd rfl hc | (exfalso; first | exact absurd rfl hc | omega) | skip) | skip)) | (refine And.intro zp1 ?_) | (apply And.intro) | (intro s hs; skip) | (refine Exists.intro _ (And.intro ⟨rfl, rfl, rfl⟩ ?_)))
   . exact rfl
   . conv => whnf
     have eM : M.set 5 (clsS now (M.getD 5 default)) = M := by
      unfold clsS; rw [eW, show raiseS (M.getD 5 default) l = M.getD 5 default from if_pos hc]; exact set_self hiM
     exact ⟨SlI.next ⟨5, M, hn, hi0, h1, h2⟩ hil M eM, [], by dsimp only [SlI.next]; omega, rfl, ⟨leF_int rfl, leF_int rfl, leF_c (leC_os rfl rfl), leF_int rfl, leF_int rfl, trivial⟩, ⟨⟨rfl, leN_entP (by omega) (lt8 rfl rfl rfl rfl rfl rfl rfl rfl)⟩, ⟨rfl, leN_entN⟩, ⟨rfl, leN_entN⟩, ⟨rfl, leN_entN⟩, ⟨rfl, leN_entN⟩, ⟨rfl, leN_entN⟩, ⟨rfl, leN_entN⟩, ⟨rfl, leN_entN⟩, ⟨rfl, leN_entN⟩, trivial⟩⟩
   . exact Nat.le_of_eq (Nat.zero_add _)
   . exact ⟨rfl, okD_sl _⟩
   . exact Eq.mpr (congrArg KpI (toN_row0 neH_rd _)) hk
   . conv => whnf
     have q : (M.getD 5 default).held.filter (wantB (some l)) = s := (hs.trans (congrArg (List.filter (wantB (some l))) (toN_row0 neH_rd _))).symm
     clear hs
     have eX : clsS now (M.getD 5 default) = ⟨(M.getD 5 default).id, l, s⟩ := by
      unfold clsS; rw [eW]; exact (if_neg hc).trans (by rw [q])
     refine ⟨SlI.next ⟨5, M, hn, hi0, h1, h2⟩ hil _ (congrArg (M.set 5) eX), [(7, some 5148)], by dsimp only [SlI.next]; omega, rfl, ⟨leF_int rfl, leF_int rfl, leF_c (leC_os rfl (List.length_set).symm), leF_int rfl, leF_int rfl, trivial⟩, ⟨⟨rfl, ⟨rfl, (List.length_set).symm, rfl, rfl, fun p hp j hj => ?_⟩⟩, ⟨rfl, leN_eqN (congrArg Sed.held (set_ne (by decide)).symm)⟩, ⟨rfl, leN_eqN (congrArg Sed.held (set_ne (by decide)).symm)⟩, ⟨rfl, leN_eqN (congrArg Sed.held (set_ne (by decide)).symm)⟩, ⟨rfl, leN_eqN (congrArg Sed.held (set_ne (by decide)).symm)⟩, ⟨rfl, leN_eqN (congrArg Sed.held (set_ne (by decide)).symm)⟩, ⟨rfl, leN_eqN (congrArg Sed.held (set_at (s := ⟨(M.getD 5 default).id, l, s⟩) hiM).symm)⟩, ⟨rfl, leN_eqN (congrArg Sed.held (set_ne (by decide)).symm)⟩, ⟨rfl, leN_eqN (congrArg Sed.held (set_ne (by decide)).symm)⟩, trivial⟩⟩
     have hp : p < M.length := hp
     have hj : j < 3 := hj
     rcases (show p = 0 \/ p = 1 \/ p = 2 \/ p = 3 \/ p = 4 \/ p = 5 \/ p = 6 \/ p = 7 by omega) with rfl | rfl | rfl | rfl | rfl | rfl | rfl | rfl
     all_goals first
      | exact rowP_set_ne hj (by decide) ((updE_ne (by decide)).trans (updE_ne (by decide))) rfl
      | skip
     refine rowP_set_at hiM ?_
     rcases j with _ | _ | _ | j
     . exact leC_int rfl
     . exact leC_int rfl
     . exact leC_os rfl rfl
     . omega
theorem st1_6 (L : List Sed) (now draw : Int) (hv : validL L = true) (s : SlI L now) (hi : s.i = 6) (hil : s.i < L.length) (K : Kt) :
 exec T (mkQ LMs) 1024 Try.f21.ntmps 0 (loopIn (dropC 4 (Try.f21.body.getD Code.ret))) (S1 L now draw s).fr (S1 L now draw s).H (S1 L now draw s).nx (seqK (fun fr H _ => Goes (S1 L now draw) (fun s => L.length - s.i) 0 (L.length - s.i) fr H) K) := by
 obtain ⟨i, M, hn, hi0, h1, h2⟩ := s
 dsimp only at hi hil
 subst hi
 have h8 := vl_len hv
 have hiM : 6 < M.length := by omega
 have hS : SdOk (M.getD 6 default) := by rw [h2 _ (Nat.le_refl _)]; exact (vl_mem hv _ (getD_in hil)).2
 have hk := hS.k
 have hh := hS.n
 have hmn := hS.mn
 have w3 : IntKind.i64.wrap ((6 : Int) + 1) = ((6 + 1 : Nat) : Int) := rfl
 unfold S1
 dsimp only
 repeat' (first | (apply And.intro <;> intro hc <;> (first | exact Bool.noConfusion hc | (exfalso; first | exact absurd rfl hc | omega) | (simp only [zb0, ne_eq, not_true_eq_false] at hc <;> first | exact absurd rfl hc | (exfalso; first | exact absurd rfl hc | omega) | skip) | skip)) | (refine And.intro zp1 ?_) | (apply And.intro) | (intro s hs; skip) | (refine Exists.intro _ (And.intro ⟨rfl, rfl, rfl⟩ ?_)))
 conv => whnf
 obtain ⟨W, eW⟩ : ∃ W, lastF now (M.getD 6 default).held (M.getD 6 default).mn = W := ⟨_, rfl⟩
 refine loop_intro (mono_of LMs_ok) (fun s : {p : Nat × Int // p.1 <= (M.getD 6 default).held.length /\ lastF now ((M.getD 6 default).held.drop p.1) p.2 = W} => (⟨[(1, one (.int .i64 now)), (2, one (.int .u32 draw)), (9, one (.os 1 0 M.length)), (31, one (.int .i64 (L.length : Int))), (32, one (.int .i64 ((6 : Nat) : Int))), (10, one (.int .i64 ((6 : Nat) : Int))), (11, one (.int .i64 s.1.2)), (44, one (.os 8 0 (M.getD 6 default).held.length)), (45, one (.int .i64 ((M.getD 6 default).held.length : Int))), (46, one (.int .i64 (s.1.1 : Int)))], (1, some (entP 2 M.length M)) :: hepP 2 M, 10⟩ : Hd)) (fun s => (M.getD 6 default).held.length - s.1.1) (fun _ => rfl) ?_ ⟨(0, (M.getD 6 default).mn), Nat.zero_le _, eW⟩ [] ⟨rfl, ⟨leF_int rfl, leF_int rfl, leF_c (leC_os rfl rfl), leF_int rfl, leF_int rfl, leF_int rfl, leF_int rfl, leF_c (leC_os rfl rfl), leF_int rfl, leF_int rfl, trivial⟩, ⟨⟨rfl, leN_entP (by omega) (lt8 rfl rfl rfl rfl rfl rfl rfl rfl)⟩, ⟨rfl, leN_entN⟩, ⟨rfl, leN_entN⟩, ⟨rfl, leN_entN⟩, ⟨rfl, leN_entN⟩, ⟨rfl, leN_entN⟩, ⟨rfl, leN_entN⟩, ⟨rfl, leN_entN⟩, ⟨rfl, leN_entN⟩, trivial⟩⟩
 rintro ⟨⟨k, l⟩, hkl, hW⟩
 dsimp only at hkl hW ⊢
 by_cases hkn : k < (M.getD 6 default).held.length
 . have w4 : IntKind.i64.wrap ((k : Int) + 1) = ((k + 1 : Nat) : Int) := (IntWalk.i64_in _ (by omega)).trans (by omega)
   have hst : lastF now ((M.getD 6 default).held.drop (k + 1)) (if ((M.getD 6 default).held.getD k default).til <= now then ((M.getD 6 default).held.getD k default).num + 1 else l) = W := by rw [<- hW, drop_at hkn]; rfl
   have hm := vh_mem hS.h _ (getD_in hkn)
   have w5 : IntKind.i64.wrap (((M.getD 6 default).held.getD k default).num + 1) = ((M.getD 6 default).held.getD k default).num + 1 := IntWalk.i64_in _ (by omega)
   have z0 : 0 + (k : Int).toNat = k := Nat.zero_add k
   repeat' (first | (simp only [z0, w4, w5]) | (apply And.intro <;> intro hc <;> (first | exact Bool.noConfusion hc | (exfalso; first | exact absurd rfl hc | omega) | (simp only [zb0, ne_eq, not_true_eq_false] at hc <;> first | exact absurd rfl hc | (exfalso; first | exact absurd rfl hc | omega) | skip) | skip)) | (refine And.intro zp1 ?_) | (apply And.intro) | (intro s hs; skip) | (refine Exists.intro _ (And.intro ⟨rfl, rfl, rfl⟩ ?_)))
   . rw [if_pos hc] at hst
     conv => whnf
     exact ⟨⟨(k + 1, _), hkn, hst⟩, [], by dsimp only; omega, rfl, ⟨leF_int rfl, leF_int rfl, leF_c (leC_os rfl rfl), leF_int rfl, leF_int rfl, leF_int rfl, leF_int w5, leF_c (leC_os rfl rfl), leF_int rfl, leF_int w4, trivial⟩, ⟨⟨rfl, leN_entP (by omega) (lt8 rfl rfl rfl rfl rfl rfl rfl rfl)⟩, ⟨rfl, leN_entN⟩, ⟨rfl, leN_entN⟩, ⟨rfl, leN_entN⟩, ⟨rfl, leN_entN⟩, ⟨rfl, leN_entN⟩, ⟨rfl, leN_entN⟩, ⟨rfl, leN_entN⟩, ⟨rfl, leN_entN⟩, trivial⟩⟩
   . rw [if_neg hc] at hst
     conv => whnf
     exact ⟨⟨(k + 1, l), hkn, hst⟩, [], by dsimp only; omega, rfl, ⟨leF_int rfl, leF_int rfl, leF_c (leC_os rfl rfl), leF_int rfl, leF_int rfl, leF_int rfl, leF_int rfl, leF_c (leC_os rfl rfl), leF_int rfl, leF_int w4, trivial⟩, ⟨⟨rfl, leN_entP (by omega) (lt8 rfl rfl rfl rfl rfl rfl rfl rfl)⟩, ⟨rfl, leN_entN⟩, ⟨rfl, leN_entN⟩, ⟨rfl, leN_entN⟩, ⟨rfl, leN_entN⟩, ⟨rfl, leN_entN⟩, ⟨rfl, leN_entN⟩, ⟨rfl, leN_entN⟩, ⟨rfl, leN_entN⟩, trivial⟩⟩
 . obtain rfl : l = W := by
    rw [List.drop_of_length_le (by omega)] at hW; exact hW
   clear hW
   repeat' (first | (apply And.intro <;> intro hc <;> (first | exact Bool.noConfusion hc | (exfalso; first | exact absurd rfl hc | omega) | (simp only [zb0, ne_eq, not_true_eq_false] at hc <;> first | exact absurd rfl hc | (exfalso; first | exact absurd rfl hc | omega) | skip) | skip)) | (refine And.intro zp1 ?_) | (apply And.intro) | (intro s hs; skip) | (refine Exists.intro _ (And.intro ⟨rfl, rfl, rfl⟩ ?_)))
   . exact rfl
   . conv => whnf
     have eM : M.set 6 (clsS now (M.getD 6 default)) = M := by
      unfold clsS; rw [eW, show raiseS (M.getD 6 default) l = M.getD 6 default from if_pos hc]; exact set_self hiM
     exact ⟨SlI.next ⟨6, M, hn, hi0, h1, h2⟩ hil M eM, [], by dsimp only [SlI.next]; omega, rfl, ⟨leF_int rfl, leF_int rfl, leF_c (leC_os rfl rfl), leF_int rfl, leF_int rfl, trivial⟩, ⟨⟨rfl, leN_entP (by omega) (lt8 rfl rfl rfl rfl rfl rfl rfl rfl)⟩, ⟨rfl, leN_entN⟩, ⟨rfl, leN_entN⟩, ⟨rfl, leN_entN⟩, ⟨rfl, leN_entN⟩, ⟨rfl, leN_entN⟩, ⟨rfl, leN_entN⟩, ⟨rfl, leN_entN⟩, ⟨rfl, leN_entN⟩, trivial⟩⟩
   . exact Nat.le_of_eq (Nat.zero_add _)
   . exact ⟨rfl, okD_sl _⟩
   . exact Eq.mpr (congrArg KpI (toN_row0 neH_rd _)) hk
   . conv => whnf
     have q : (M.getD 6 default).held.filter (wantB (some l)) = s := (hs.trans (congrArg (List.filter (wantB (some l))) (toN_row0 neH_rd _))).symm
     clear hs
     have eX : clsS now (M.getD 6 default) = ⟨(M.getD 6 default).id, l, s⟩ := by
      unfold clsS; rw [eW]; exact (if_neg hc).trans (by rw [q])
     refine ⟨SlI.next ⟨6, M, hn, hi0, h1, h2⟩ hil _ (congrArg (M.set 6) eX), [(8, some 5148)], by dsimp only [SlI.next]; omega, rfl, ⟨leF_int rfl, leF_int rfl, leF_c (leC_os rfl (List.length_set).symm), leF_int rfl, leF_int rfl, trivial⟩, ⟨⟨rfl, ⟨rfl, (List.length_set).symm, rfl, rfl, fun p hp j hj => ?_⟩⟩, ⟨rfl, leN_eqN (congrArg Sed.held (set_ne (by decide)).symm)⟩, ⟨rfl, leN_eqN (congrArg Sed.held (set_ne (by decide)).symm)⟩, ⟨rfl, leN_eqN (congrArg Sed.held (set_ne (by decide)).symm)⟩, ⟨rfl, leN_eqN (congrArg Sed.held (set_ne (by decide)).symm)⟩, ⟨rfl, leN_eqN (congrArg Sed.held (set_ne (by decide)).symm)⟩, ⟨rfl, leN_eqN (congrArg Sed.held (set_ne (by decide)).symm)⟩, ⟨rfl, leN_eqN (congrArg Sed.held (set_at (s := ⟨(M.getD 6 default).id, l, s⟩) hiM).symm)⟩, ⟨rfl, leN_eqN (congrArg Sed.held (set_ne (by decide)).symm)⟩, trivial⟩⟩
     have hp : p < M.length := hp
     have hj : j < 3 := hj
     rcases (show p = 0 \/ p = 1 \/ p = 2 \/ p = 3 \/ p = 4 \/ p = 5 \/ p = 6 \/ p = 7 by omega) with rfl | rfl | rfl | rfl | rfl | rfl | rfl | rfl
     all_goals first
      | exact rowP_set_ne hj (by decide) ((updE_ne (by decide)).trans (updE_ne (by decide))) rfl
      | skip
     refine rowP_set_at hiM ?_
     rcases j with _ | _ | _ | j
     . exact leC_int rfl
     . exact leC_int rfl
     . exact leC_os rfl rfl
     . omega
theorem st1_7 (L : List Sed) (now draw : Int) (hv : validL L = true) (s : SlI L now) (hi : s.i = 7) (hil : s.i < L.length) (K : Kt) :
 exec T (mkQ LMs) 1024 Try.f21.ntmps 0 (loopIn (dropC 4 (Try.f21.body.getD Code.ret))) (S1 L now draw s).fr (S1 L now draw s).H (S1 L now draw s).nx (seqK (fun fr H _ => Goes (S1 L now draw) (fun s => L.length - s.i) 0 (L.length - s.i) fr H) K) := by
 obtain ⟨i, M, hn, hi0, h1, h2⟩ := s
 dsimp only at hi hil
 subst hi
 have h8 := vl_len hv
 have hiM : 7 < M.length := by omega
 have hS : SdOk (M.getD 7 default) := by rw [h2 _ (Nat.le_refl _)]; exact (vl_mem hv _ (getD_in hil)).2
 have hk := hS.k
 have hh := hS.n
 have hmn := hS.mn
 have w3 : IntKind.i64.wrap ((7 : Int) + 1) = ((7 + 1 : Nat) : Int) := rfl
 unfold S1
 dsimp only
 repeat' (first | (apply And.intro <;> intro hc <;> (first | exact Bool.noConfusion hc | (exfalso; first | exact absurd rfl hc | omega) | (simp only [zb0, ne_eq, not_true_eq_false] at hc <;> first | exact absurd rfl hc | (exfalso; first | exact absurd rfl hc | omega) | skip) | skip)) | (refine And.intro zp1 ?_) | (apply And.intro) | (intro s hs; skip) | (refine Exists.intro _ (And.intro ⟨rfl, rfl, rfl⟩ ?_)))
 conv => whnf
 obtain ⟨W, eW⟩ : ∃ W, lastF now (M.getD 7 default).held (M.getD 7 default).mn = W := ⟨_, rfl⟩
 refine loop_intro (mono_of LMs_ok) (fun s : {p : Nat × Int // p.1 <= (M.getD 7 default).held.length /\ lastF now ((M.getD 7 default).held.drop p.1) p.2 = W} => (⟨[(1, one (.int .i64 now)), (2, one (.int .u32 draw)), (9, one (.os 1 0 M.length)), (31, one (.int .i64 (L.length : Int))), (32, one (.int .i64 ((7 : Nat) : Int))), (10, one (.int .i64 ((7 : Nat) : Int))), (11, one (.int .i64 s.1.2)), (44, one (.os 9 0 (M.getD 7 default).held.length)), (45, one (.int .i64 ((M.getD 7 default).held.length : Int))), (46, one (.int .i64 (s.1.1 : Int)))], (1, some (entP 2 M.length M)) :: hepP 2 M, 10⟩ : Hd)) (fun s => (M.getD 7 default).held.length - s.1.1) (fun _ => rfl) ?_ ⟨(0, (M.getD 7 default).mn), Nat.zero_le _, eW⟩ [] ⟨rfl, ⟨leF_int rfl, leF_int rfl, leF_c (leC_os rfl rfl), leF_int rfl, leF_int rfl, leF_int rfl, leF_int rfl, leF_c (leC_os rfl rfl), leF_int rfl, leF_int rfl, trivial⟩, ⟨⟨rfl, leN_entP (by omega) (lt8 rfl rfl rfl rfl rfl rfl rfl rfl)⟩, ⟨rfl, leN_entN⟩, ⟨rfl, leN_entN⟩, ⟨rfl, leN_entN⟩, ⟨rfl, leN_entN⟩, ⟨rfl, leN_entN⟩, ⟨rfl, leN_entN⟩, ⟨rfl, leN_entN⟩, ⟨rfl, leN_entN⟩, trivial⟩⟩
 rintro ⟨⟨k, l⟩, hkl, hW⟩
 dsimp only at hkl hW ⊢
 by_cases hkn : k < (M.getD 7 default).held.length
 . have w4 : IntKind.i64.wrap ((k : Int) + 1) = ((k + 1 : Nat) : Int) := (IntWalk.i64_in _ (by omega)).trans (by omega)
   have hst : lastF now ((M.getD 7 default).held.drop (k + 1)) (if ((M.getD 7 default).held.getD k default).til <= now then ((M.getD 7 default).held.getD k default).num + 1 else l) = W := by rw [<- hW, drop_at hkn]; rfl
   have hm := vh_mem hS.h _ (getD_in hkn)
   have w5 : IntKind.i64.wrap (((M.getD 7 default).held.getD k default).num + 1) = ((M.getD 7 default).held.getD k default).num + 1 := IntWalk.i64_in _ (by omega)
   have z0 : 0 + (k : Int).toNat = k := Nat.zero_add k
   repeat' (first | (simp only [z0, w4, w5]) | (apply And.intro <;> intro hc <;> (first | exact Bool.noConfusion hc | (exfalso; first | exact absurd rfl hc | omega) | (simp only [zb0, ne_eq, not_true_eq_false] at hc <;> first | exact absurd rfl hc | (exfalso; first | exact absurd rfl hc | omega) | skip) | skip)) | (refine And.intro zp1 ?_) | (apply And.intro) | (intro s hs; skip) | (refine Exists.intro _ (And.intro ⟨rfl, rfl, rfl⟩ ?_)))
   . rw [if_pos hc] at hst
     conv => whnf
     exact ⟨⟨(k + 1, _), hkn, hst⟩, [], by dsimp only; omega, rfl, ⟨leF_int rfl, leF_int rfl, leF_c (leC_os rfl rfl), leF_int rfl, leF_int rfl, leF_int rfl, leF_int w5, leF_c (leC_os rfl rfl), leF_int rfl, leF_int w4, trivial⟩, ⟨⟨rfl, leN_entP (by omega) (lt8 rfl rfl rfl rfl rfl rfl rfl rfl)⟩, ⟨rfl, leN_entN⟩, ⟨rfl, leN_entN⟩, ⟨rfl, leN_entN⟩, ⟨rfl, leN_entN⟩, ⟨rfl, leN_entN⟩, ⟨rfl, leN_entN⟩, ⟨rfl, leN_entN⟩, ⟨rfl, leN_entN⟩, trivial⟩⟩
   . rw [if_neg hc] at hst
     conv => whnf
     exact ⟨⟨(k + 1, l), hkn, hst⟩, [], by dsimp only; omega, rfl, ⟨leF_int rfl, leF_int rfl, leF_c (leC_os rfl rfl), leF_int rfl, leF_int rfl, leF_int rfl, leF_int rfl, leF_c (leC_os rfl rfl), leF_int rfl, leF_int w4, trivial⟩, ⟨⟨rfl, leN_entP (by omega) (lt8 rfl rfl rfl rfl rfl rfl rfl rfl)⟩, ⟨rfl, leN_entN⟩, ⟨rfl, leN_entN⟩, ⟨rfl, leN_entN⟩, ⟨rfl, leN_entN⟩, ⟨rfl, leN_entN⟩, ⟨rfl, leN_entN⟩, ⟨rfl, leN_entN⟩, ⟨rfl, leN_entN⟩, trivial⟩⟩
 . obtain rfl : l = W := by
    rw [List.drop_of_length_le (by omega)] at hW; exact hW
   clear hW
   repeat' (first | (apply And.intro <;> intro hc <;> (first | exact Bool.noConfusion hc | (exfalso; first | exact absurd rfl hc | omega) | (simp only [zb0, ne_eq, not_true_eq_false] at hc <;> first | exact absurd rfl hc | (exfalso; first | exact absurd rfl hc | omega) | skip) | skip)) | (refine And.intro zp1 ?_) | (apply And.intro) | (intro s hs; skip) | (refine Exists.intro _ (And.intro ⟨rfl, rfl, rfl⟩ ?_)))
   . exact rfl
   . conv => whnf
     have eM : M.set 7 (clsS now (M.getD 7 default)) = M := by
      unfold clsS; rw [eW, show raiseS (M.getD 7 default) l = M.getD 7 default from if_pos hc]; exact set_self hiM
     exact ⟨SlI.next ⟨7, M, hn, hi0, h1, h2⟩ hil M eM, [], by dsimp only [SlI.next]; omega, rfl, ⟨leF_int rfl, leF_int rfl, leF_c (leC_os rfl rfl), leF_int rfl, leF_int rfl, trivial⟩, ⟨⟨rfl, leN_entP (by omega) (lt8 rfl rfl rfl rfl rfl rfl rfl rfl)⟩, ⟨rfl, leN_entN⟩, ⟨rfl, leN_entN⟩, ⟨rfl, leN_entN⟩, ⟨rfl, leN_entN⟩, ⟨rfl, leN_entN⟩, ⟨rfl, leN_entN⟩, ⟨rfl, leN_entN⟩, ⟨rfl, leN_entN⟩, trivial⟩⟩
   . exact Nat.le_of_eq (Nat.zero_add _)
   . exact ⟨rfl, okD_sl _⟩
   . exact Eq.mpr (congrArg KpI (toN_row0 neH_rd _)) hk
   . conv => whnf
     have q : (M.getD 7 default).held.filter (wantB (some l)) = s := (hs.trans (congrArg (List.filter (wantB (some l))) (toN_row0 neH_rd _))).symm
     clear hs
     have eX : clsS now (M.getD 7 default) = ⟨(M.getD 7 default).id, l, s⟩ := by
      unfold clsS; rw [eW]; exact (if_neg hc).trans (by rw [q])
     refine ⟨SlI.next ⟨7, M, hn, hi0, h1, h2⟩ hil _ (congrArg (M.set 7) eX), [(9, some 5148)], by dsimp only [SlI.next]; omega, rfl, ⟨leF_int rfl, leF_int rfl, leF_c (leC_os rfl (List.length_set).symm), leF_int rfl, leF_int rfl, trivial⟩, ⟨⟨rfl, ⟨rfl, (List.length_set).symm, rfl, rfl, fun p hp j hj => ?_⟩⟩, ⟨rfl, leN_eqN (congrArg Sed.held (set_ne (by decide)).symm)⟩, ⟨rfl, leN_eqN (congrArg Sed.held (set_ne (by decide)).symm)⟩, ⟨rfl, leN_eqN (congrArg Sed.held (set_ne (by decide)).symm)⟩, ⟨rfl, leN_eqN (congrArg Sed.held (set_ne (by decide)).symm)⟩, ⟨rfl, leN_eqN (congrArg Sed.held (set_ne (by decide)).symm)⟩, ⟨rfl, leN_eqN (congrArg Sed.held (set_ne (by decide)).symm)⟩, ⟨rfl, leN_eqN (congrArg Sed.held (set_ne (by decide)).symm)⟩, ⟨rfl, leN_eqN (congrArg Sed.held (set_at (s := ⟨(M.getD 7 default).id, l, s⟩) hiM).symm)⟩, trivial⟩⟩
     have hp : p < M.length := hp
     have hj : j < 3 := hj
     rcases (show p = 0 \/ p = 1 \/ p = 2 \/ p = 3 \/ p = 4 \/ p = 5 \/ p = 6 \/ p = 7 by omega) with rfl | rfl | rfl | rfl | rfl | rfl | rfl | rfl
     all_goals first
      | exact rowP_set_ne hj (by decide) ((updE_ne (by decide)).trans (updE_ne (by decide))) rfl
      | skip
     refine rowP_set_at hiM ?_
     rcases j with _ | _ | _ | j
     . exact leC_int rfl
     . exact leC_int rfl
     . exact leC_os rfl rfl
     . omega
theorem st1_all (L : List Sed) (now draw : Int) (hv : validL L = true) (s : SlI L now) (hil : s.i < L.length) (K : Kt) :
 exec T (mkQ LMs) 1024 Try.f21.ntmps 0 (loopIn (dropC 4 (Try.f21.body.getD Code.ret))) (S1 L now draw s).fr (S1 L now draw s).H (S1 L now draw s).nx (seqK (fun fr H _ => Goes (S1 L now draw) (fun s => L.length - s.i) 0 (L.length - s.i) fr H) K) := by
 have h8 := vl_len hv
 rcases (show s.i = 0 \/ s.i = 1 \/ s.i = 2 \/ s.i = 3 \/ s.i = 4 \/ s.i = 5 \/ s.i = 6 \/ s.i = 7 by omega) with h | h | h | h | h | h | h | h
 . exact st1_0 L now draw hv s h hil K
 . exact st1_1 L now draw hv s h hil K
 . exact st1_2 L now draw hv s h hil K
 . exact st1_3 L now draw hv s h hil K
 . exact st1_4 L now draw hv s h hil K
 . exact st1_5 L now draw hv s h hil K
 . exact st1_6 L now draw hv s h hil K
 . exact st1_7 L now draw hv s h hil K
end Go.Proofs.Ytfaibcgakcmhcaa.AX
namespace Go.Proofs.Ytfaibcgakcmhcaa.AX
theorem take_set {α : Type} {L : List α} {i : Nat} {x : α} (h : i < L.length) : (L.set i x).take (i + 1) = L.take i ++ [x] := by
 induction L generalizing i with
 | nil => exact absurd h (Nat.not_lt_zero _)
 | cons a t ih =>
   cases i with
   | zero => rfl
   | succ i => show a :: ((t.set i x).take (i + 1)) = a :: (t.take i ++ [x]); rw [ih (by simpa using h)]
theorem dropAt {α : Type} {L : List α} {d : α} {i : Nat} (h : i < L.length) : L.drop i = L.getD i d :: L.drop (i + 1) := by
 rw [List.drop_eq_getElem_cons h, List.getD_eq_getElem?_getD, List.getElem?_eq_getElem h]; rfl
def oneH (id now draw : Int) (h : Hel) (b : Nat) : Hel × List Cas :=
 if h.tm.start <= now then ({ h with tm := (stepT h.tm now (IntKind.u32.wrap (draw + (b : Int)))).1 }, if (stepT h.tm now (IntKind.u32.wrap (draw + (b : Int)))).2.1 = true then [⟨id, h.num, h.data⟩] else []) else (h, [])
theorem runH_cons {id now draw : Int} {h : Hel} {t : List Hel} {b : Nat} : runH id now draw (h :: t) b = ((oneH id now draw h b).1 :: (runH id now draw t (b + 1)).1, (oneH id now draw h b).2 ++ (runH id now draw t (b + 1)).2) := by
 unfold oneH
 show (if h.tm.start <= now then _ else _) = _
 split
 . split
   . rfl
   . rfl
 . rfl
theorem oneH_len {id now draw : Int} {h : Hel} {b : Nat} : (oneH id now draw h b).2.length <= 1 := by
 unfold oneH
 split
 . split
   . exact Nat.le_refl _
   . exact Nat.zero_le _
 . exact Nat.zero_le _
theorem runH_len2 {id now draw : Int} : ∀ {L : List Hel} {b : Nat}, (runH id now draw L b).2.length <= L.length := by
 intro L
 induction L with
 | nil => intro _; exact Nat.le_refl _
 | cons h t ih =>
   intro b
   rw [runH_cons]
   have h1 := oneH_len (id := id) (now := now) (draw := draw) (h := h) (b := b)
   have h2 := ih (b := b + 1)
   show ((oneH id now draw h b).2 ++ (runH id now draw t (b + 1)).2).length <= t.length + 1
   rw [List.length_append]; omega
structure StI (M0 : List Sed) (now draw : Int) where
 i : Nat
 M : List Sed
 Z : List Cas
 b : Nat
 n : M.length = M0.length
 hi : i <= M0.length
 hb : b <= 32 * i
 hz : Z.length <= b
 h2 : ∀ p, i <= p -> M.getD p default = M0.getD p default
 r1 : M.take i ++ (runL now draw (M0.drop i) b).1 = (runL now draw M0 0).1
 r2 : Z ++ (runL now draw (M0.drop i) b).2 = (runL now draw M0 0).2
def StI.next {M0 : List Sed} {now draw : Int} (s : StI M0 now draw) (h : s.i < M0.length) (h32 : (M0.getD s.i default).held.length <= 32) : StI M0 now draw where
 i := s.i + 1
 M := s.M.set s.i { M0.getD s.i default with held := (runH (M0.getD s.i default).id now draw (M0.getD s.i default).held s.b).1 }
 Z := s.Z ++ (runH (M0.getD s.i default).id now draw (M0.getD s.i default).held s.b).2
 b := s.b + (M0.getD s.i default).held.length
 n := by rw [List.length_set]; exact s.n
 hi := h
 hb := by have := s.hb; omega
 hz := by
  have h1 := s.hz
  have h2 := runH_len2 (id := (M0.getD s.i default).id) (now := now) (draw := draw) (L := (M0.getD s.i default).held) (b := s.b)
  rw [List.length_append]; omega
 h2 p hp := by rw [List.getD_eq_getElem?_getD, List.getElem?_set, if_neg (by omega), <- List.getD_eq_getElem?_getD]; exact s.h2 p (by omega)
 r1 := by
  have e := s.r1
  rw [dropAt (d := default) h] at e
  rw [take_set (by rw [s.n]; exact h), List.append_assoc]
  exact e
 r2 := by
  have e := s.r2
  rw [dropAt (d := default) h] at e
  rw [List.append_assoc]
  exact e
structure InI (H0 : List Hel) (id now draw : Int) (b : Nat) (Z0 : List Cas) where
 k : Nat
 H : List Hel
 Z : List Cas
 n : H.length = H0.length
 hk : k <= H0.length
 hz : Z.length <= Z0.length + k
 h2 : ∀ p, k <= p -> H.getD p default = H0.getD p default
 r1 : H.take k ++ (runH id now draw (H0.drop k) (b + k)).1 = (runH id now draw H0 b).1
 r2 : Z ++ (runH id now draw (H0.drop k) (b + k)).2 = Z0 ++ (runH id now draw H0 b).2
def InI.next {H0 : List Hel} {id now draw : Int} {b : Nat} {Z0 : List Cas} (s : InI H0 id now draw b Z0) (h : s.k < H0.length) (H' : List Hel) (Z' : List Cas) (e1 : s.H.set s.k (oneH id now draw (H0.getD s.k default) (b + s.k)).1 = H') (e2 : s.Z ++ (oneH id now draw (H0.getD s.k default) (b + s.k)).2 = Z') : InI H0 id now draw b Z0 where
 k := s.k + 1
 H := H'
 Z := Z'
 n := by rw [<- e1, List.length_set]; exact s.n
 hk := h
 hz := by
  have h1 := s.hz
  have h2 := oneH_len (id := id) (now := now) (draw := draw) (h := H0.getD s.k default) (b := b + s.k)
  rw [<- e2, List.length_append]; omega
 h2 p hp := by rw [<- e1, List.getD_eq_getElem?_getD, List.getElem?_set, if_neg (by omega), <- List.getD_eq_getElem?_getD]; exact s.h2 p (by omega)
 r1 := by
  have e := s.r1
  rw [dropAt (d := default) h, runH_cons] at e
  rw [<- e1, take_set (by rw [s.n]; exact h), List.append_assoc]
  exact e
 r2 := by
  have e := s.r2
  rw [dropAt (d := default) h, runH_cons] at e
  rw [<- e2, List.append_assoc]
  exact e
def InI.start (H0 : List Hel) (id now draw : Int) (b : Nat) (Z0 : List Cas) : InI H0 id now draw b Z0 := ⟨0, H0, Z0, rfl, Nat.zero_le _, Nat.le_refl _, fun _ _ => rfl, rfl, rfl⟩
theorem InI.last {H0 : List Hel} {id now draw : Int} {b : Nat} {Z0 : List Cas} (s : InI H0 id now draw b Z0) (h : ¬ s.k < H0.length) : s.H = (runH id now draw H0 b).1 /\ s.Z = Z0 ++ (runH id now draw H0 b).2 := by
 have hk := s.hk
 have e1 := s.r1
 have e2 := s.r2
 rw [List.drop_of_length_le (by omega)] at e1 e2
 rw [List.take_of_length_le (by rw [s.n]; omega)] at e1
 rw [<- e1, <- e2]
 exact ⟨(List.append_nil _).symm, (List.append_nil _).symm⟩
theorem one_no {id now draw : Int} {h : Hel} {b : Nat} (hs : ¬ h.tm.start <= now) : oneH id now draw h b = (h, []) := if_neg hs
theorem one_yes {id now draw : Int} {h : Hel} {b : Nat} {T : Trk × Bool × Int} (hs : h.tm.start <= now) (eT : stepT h.tm now (IntKind.u32.wrap (draw + (b : Int))) = T) : oneH id now draw h b = ({ h with tm := T.1 }, if T.2.1 = true then [⟨id, h.num, h.data⟩] else []) := by
 subst eT; exact if_pos hs
theorem setH_self {L : List Hel} {i : Nat} (h : i < L.length) : L.set i (L.getD i default) = L := by
 apply List.ext_getElem
 . rw [List.length_set]
 . intro k h1 h2
   rw [List.getElem_set]
   split
   . rename_i e
     subst e
     rw [List.getD_eq_getElem?_getD, List.getElem?_eq_getElem h]; rfl
   . rfl
end Go.Proofs.Ytfaibcgakcmhcaa.AX
namespace Go.Proofs.Ytfaibcgakcmhcaa.AX
open Go.RowKit
def S2 (M0 : List Sed) (now draw : Int) (s : StI M0 now draw) : Hd := ⟨[(1, one (.int .i64 now)), (2, one (.int .u32 draw)), (9, one (.os 1 0 s.M.length)), (14, one (.os 10 0 s.Z.length)), (15, one (.int .u32 (s.b : Int))), (65, one (.int .i64 (M0.length : Int))), (66, one (.int .i64 (s.i : Int)))], (1, some (entP 2 s.M.length s.M)) :: (hepP 2 s.M ++ [(10, some (entN neC 32 s.Z))]), 11⟩
theorem u32ok (x : Int) : drawOk (IntKind.u32.wrap x) := by unfold drawOk; rw [IntKind.wrap_u32']; omega
theorem leN_oneH {c : Wc} {t : TypeId} {l : List Hel} {n : Nat} {f : Nat -> Nat -> CV} (h : n = l.length /\ ∀ q, q < l.length -> ∀ j, j < 11 -> LeC c (f q j) (rowN neH l q j)) : LeN c ⟨t, n, 11, false, f⟩ (entN neH t l) := ⟨rfl, h.1, rfl, rfl, fun q hq j hj => h.2 q (h.1 ▸ hq) j hj⟩
theorem hel_row2 {c : Wc} {l : List Hel} {k : Nat} {t : Trk} {G : Nat -> CV} (hk : k < l.length) (hG : ∀ j, j < 8 -> LeC c (G j) (eTk.cell t j)) : l.length = (l.set k { l.getD k default with tm := t }).length /\ ∀ q, q < (l.set k { l.getD k default with tm := t }).length -> ∀ j, j < 11 -> LeC c (updE false (rowN neH l) k (ovw false neH.sz (rowN neH l k) (0 + 2) 8 G) q j) (rowN neH (l.set k { l.getD k default with tm := t }) q j) := by
 refine ⟨(List.length_set).symm, fun q hq j hj => ?_⟩
 by_cases hqk : q = k
 . subst hqk
   have e : rowN neH (l.set q { l.getD q default with tm := t }) q j = neH.cell { l.getD q default with tm := t } j := congrArg (fun z => neH.cell z j) (by rw [List.getD_eq_getElem?_getD, List.getElem?_set, if_pos rfl, if_pos hk]; rfl)
   rw [e]
   refine selC_in (beq_refl_nat _) ?_
   rcases j with _ | j
   . exact leC_int rfl
   rcases j with _ | j
   . exact (neH.sh _ 1 (by decide)).le
   iterate 8 (rcases j with _ | j; · exact hG _ (by decide))
   rcases j with _ | j
   . exact leC_int rfl
   exact absurd hj (by omega)
 . have e : rowN neH (l.set k { l.getD k default with tm := t }) q j = rowN neH l q j := congrArg (fun z => neH.cell z j) (by simp only [List.getD_eq_getElem?_getD]; rw [List.getElem?_set, if_neg (Ne.symm hqk)])
   rw [e, updE_ne hqk]
   exact (neH.sh _ j hj).le
theorem lt8c {P : Nat -> Prop} (h : P 0 /\ P 1 /\ P 2 /\ P 3 /\ P 4 /\ P 5 /\ P 6 /\ P 7) : ∀ j, j < 8 -> P j := by
 obtain ⟨h0, h1, h2, h3, h4, h5, h6, h7⟩ := h
 exact lt8 h0 h1 h2 h3 h4 h5 h6 h7
theorem casts_snoc {c : Wc} {t : TypeId} {Z : List Cas} {x : Cas} {g z : Nat -> CV} (h : ∀ j, j < 3 -> LeC c (g j) (neC.cell x j)) : LeN c ⟨t, Z.length + 1, 3, false, fun k j => selC (Nat.blt k Z.length) (rowN neC Z k j) (selC (Nat.beq (0 + (k - Z.length)) 0) (g j) (z j))⟩ (entN neC t (Z ++ [x])) := by
 refine ⟨rfl, by show _ = (Z ++ [x]).length; rw [List.length_append]; rfl, rfl, rfl, fun k hk j hj => ?_⟩
 have hk : k < Z.length + 1 := hk
 by_cases hkz : k < Z.length
 . refine selC_in (Nat.ble_eq_true_of_le hkz) ?_
   have e : rowN neC (Z ++ [x]) k j = rowN neC Z k j := congrArg (fun z => neC.cell z j) (by rw [List.getD_eq_getElem?_getD, List.getElem?_append_left hkz, <- List.getD_eq_getElem?_getD])
   show LeC c _ (rowN neC (Z ++ [x]) k j)
   rw [e]
   exact (neC.sh _ j hj).le
 . obtain rfl : k = Z.length := by omega
   refine selC_out (blt_self _) (selC_in (by rw [Nat.sub_self]; rfl) ?_)
   have e : rowN neC (Z ++ [x]) Z.length j = neC.cell x j := congrArg (fun z => neC.cell z j) (by simp [List.getD_eq_getElem?_getD])
   show LeC c _ (rowN neC (Z ++ [x]) Z.length j)
   rw [e]
   exact h j hj
theorem leN_eqZ {c : Wc} {t : TypeId} {l l' : List Cas} (h : l = l') : LeN c (entN neC t l) (entN neC t l') := by subst h; exact leN_entN
end Go.Proofs.Ytfaibcgakcmhcaa.AX
