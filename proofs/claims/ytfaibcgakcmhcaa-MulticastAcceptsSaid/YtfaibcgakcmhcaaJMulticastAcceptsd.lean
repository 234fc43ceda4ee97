/- Texts of one's own in one file: Ma3, Ma4, Ma5, Mkn, Mra, Cmp, Be, Mta, Mrb, Mqs, Ml8, Ms1, Ms2, Ms4, Ms5, Ms6, Ms3, Ms7, Mqc, Mrc. -/
import Derived.Test.YtfaibcgakcmhcaaJMulticastAcceptsc
import Derived.Lib.BytesEntry
import Derived.Laws.Externs
import Derived.WalkKit
import Derived.Laws.BytesArg
set_option linter.unusedVariables false
set_option linter.unusedSimpArgs false
set_option maxHeartbeats 16000000
set_option maxRecDepth 20000
namespace Go.Proofs.Ytfaibcgakcmhcaa.AX
open Go.RowKit
structure AcJ (L : List Sed) (a : Nat) (s : Sed) (now : Int) (c : Cas) (draw : Int) : Prop where
 lt : a < L.length
 n : L.length <= 9
 k : KpI s.held
 h : s.held.length <= 32
 num : 0 <= c.num /\ c.num < 1073741824
 d : c.data.length <= 64
 now : 0 <= now /\ now <= 1099511627776
 dr : drawOk draw
theorem acc3_0 (g0 : Nat) (L : List Sed) (a : Nat) (sd : Sed) (now : Int) (c : Cas) (deaf : Bool) (draw : Int) (hI : AcJ L a sd now c draw) (R : List Sed × Bool × Int) (hR : R = (L.set a (if deaf = true then raiseS sd (c.num + 1) else addSd sd (newH c now draw) (plcH c.num sd.held 0).1), !deaf, 0)) (a3 : a = 0) :
 Sem Try.prog Try.f11.ntmps 0 (dropC 11 (Try.f11.body.getD Code.ret)) (SB L a sd now c deaf draw ()).fr (SB L a sd now c deaf draw ()).H (SB L a sd now c deaf draw ()).nx (endH T Try.f11.results.toList fun x H _ => FinN (some R.1.length) (encAc R) (entN neS 78 R.1) x H) := by
 obtain ⟨ha, hn, hk, hh, hnum, hd, hnow, hdr⟩ := hI
 unfold SB
 subst a3
 have w1 : IntKind.i64.wrap (c.num + 1) = c.num + 1 := IntWalk.i64_in _ (by omega)
 have w2 : IntKind.i64.wrap (now + 20) = now + 20 := IntWalk.i64_in _ (by omega)
 cases deaf with
 | true =>
   refine sem_step (wd := 1024) (Q := mkQ (LMa g0)) (by decide) tysOk (q_of (LMa_ok g0)) mixed ?_
   repeat' (first | (simp only [w1]) | (apply And.intro <;> intro hc <;> (first | exact Bool.noConfusion hc | (exfalso; first | exact absurd rfl hc | omega) | (simp only [zb0, ne_eq, not_true_eq_false] at hc <;> first | exact absurd rfl hc | (exfalso; first | exact absurd rfl hc | omega) | skip) | skip)) | (refine And.intro zp1 ?_) | (apply And.intro) | (intro s hs; skip) | (refine Exists.intro _ (And.intro ⟨rfl, rfl, rfl⟩ ?_)))
   . exact rfl
   . conv => whnf
     refine fin_acc (s := sd) (d := 2) (hR.trans ?_) ha rfl (fun p h j => rowA_ne h) rfl rfl rfl rfl rfl rfl rfl fun q hq j hj => (neH.sh _ j hj).le
     rw [if_pos rfl, show raiseS sd (c.num + 1) = sd from if_pos hc]; rfl
   . exact ⟨rfl, okD_sl _⟩
   . exact Eq.mpr (congrArg KpI (toN_row0 neH_rd _)) hk
   . conv => whnf
     have q : sd.held.filter (wantB (some (c.num + 1))) = s := (hs.trans (by rw [toN_row0 neH_rd])).symm
     clear hs
     refine fin_acc (s := ⟨sd.id, c.num + 1, s⟩) (d := 5141) (hR.trans ?_) ha rfl (fun p h j => (updE_ne h).trans ((updE_ne h).trans (rowA_ne h))) rfl rfl rfl rfl rfl rfl rfl fun q hq j hj => (neH.sh _ j hj).le
     rw [if_pos rfl, show raiseS sd (c.num + 1) = ⟨sd.id, c.num + 1, s⟩ from (if_neg hc).trans (by rw [q])]; rfl
 | false =>
   obtain ⟨⟨i, b⟩, hP⟩ : ∃ P, plcH c.num sd.held 0 = P := ⟨_, rfl⟩
   have hle := plc_le (id := c.num) (L := sd.held) (k := 0)
   rw [hP, Nat.zero_add] at hle
   dsimp only at hle
   obtain ⟨hle1, _, _⟩ := hle
   have hR2 : R = (L.set 0 (addSd sd (newH c now draw) i), true, 0) := by rw [hR, hP]; rfl
   clear hR
   have w3 : IntKind.i64.wrap ((i : Int) + 1) = ((i + 1 : Nat) : Int) := (IntWalk.i64_in _ (by omega)).trans (by omega)
   obtain ⟨tr, hT⟩ : ∃ r, newT 2 3 2 now draw = r := ⟨_, rfl⟩
   refine sem_step (wd := 1) (Q := mkQ (LMa g0)) (by decide) tysOk (q_of (LMa_ok g0)) mixed ?_
   repeat' (first | (simp only [w2]) | (apply And.intro <;> intro hc <;> (first | exact Bool.noConfusion hc | (exfalso; first | exact absurd rfl hc | omega) | (simp only [zb0, ne_eq, not_true_eq_false] at hc <;> first | exact absurd rfl hc | (exfalso; first | exact absurd rfl hc | omega) | skip) | skip)) | (refine And.intro zp1 ?_) | (apply And.intro) | (intro s hs; skip) | (refine Exists.intro _ (And.intro ⟨rfl, rfl, rfl⟩ ?_)))
   refine sem_step (wd := 1) (Q := mkQ (LMa g0)) (by decide) tysOk (q_of (LMa_ok g0)) mixed ?_
   repeat' (first | (simp only [w2]) | (apply And.intro <;> intro hc <;> (first | exact Bool.noConfusion hc | (exfalso; first | exact absurd rfl hc | omega) | (simp only [zb0, ne_eq, not_true_eq_false] at hc <;> first | exact absurd rfl hc | (exfalso; first | exact absurd rfl hc | omega) | skip) | skip)) | (refine And.intro zp1 ?_) | (apply And.intro) | (intro s hs; (have q : tr = s := hT.symm.trans hs.symm; clear hs; subst q)) | (refine Exists.intro _ (And.intro ⟨rfl, rfl, rfl⟩ ?_)))
   refine sem_step (wd := 1) (Q := mkQ (LMa g0)) (by decide) tysOk (q_of (LMa_ok g0)) mixed ?_
   repeat' (first | (simp only [w2]) | (apply And.intro <;> intro hc <;> (first | exact Bool.noConfusion hc | (exfalso; first | exact absurd rfl hc | omega) | (simp only [zb0, ne_eq, not_true_eq_false] at hc <;> first | exact absurd rfl hc | (exfalso; first | exact absurd rfl hc | omega) | skip) | skip)) | (refine And.intro zp1 ?_) | (apply And.intro) | (intro s hs; skip) | (refine Exists.intro _ (And.intro ⟨rfl, rfl, rfl⟩ ?_)))
   refine sem_step (wd := 1) (Q := mkQ (LMa g0)) (by decide) tysOk (q_of (LMa_ok g0)) mixed ?_
   repeat' (first | (simp only [w2, w3]) | (apply And.intro <;> intro hc <;> (first | exact Bool.noConfusion hc | (exfalso; first | exact absurd rfl hc | omega) | (simp only [zb0, ne_eq, not_true_eq_false] at hc <;> first | exact absurd rfl hc | (exfalso; first | exact absurd rfl hc | omega) | skip) | skip)) | (refine And.intro zp1 ?_) | (apply And.intro) | (intro s hs; (have q := rd_plc hs (toN_row0 neH_rd _) hP; clear hs; subst q)) | (refine Exists.intro _ (And.intro ⟨rfl, rfl, rfl⟩ ?_)))
   . exact fun _ _ => ⟨rfl, okD_sl _⟩
   . exact Eq.mpr (congrArg (fun z : List Hel => z.length <= 9223372036854775807) (toN_row0 neH_rd _)) (by omega)
   refine sem_step (wd := 1) (Q := mkQ (LMa g0)) (by decide) tysOk (q_of (LMa_ok g0)) mixed ?_
   repeat' (first | (simp only [w2, w3]) | (apply And.intro <;> intro hc <;> (first | exact Bool.noConfusion hc | (exfalso; first | exact absurd rfl hc | omega) | (simp only [zb0, ne_eq, not_true_eq_false] at hc <;> first | exact absurd rfl hc | (exfalso; first | exact absurd rfl hc | omega) | skip) | skip)) | (refine And.intro zp1 ?_) | (apply And.intro) | (intro s hs; skip) | (refine Exists.intro _ (And.intro ⟨rfl, rfl, rfl⟩ ?_)))
   refine sem_step (wd := 1) (Q := mkQ (LMa g0)) (by decide) tysOk (q_of (LMa_ok g0)) mixed ?_
   repeat' (first | (simp only [w2, w3]) | (apply And.intro <;> intro hc <;> (first | exact Bool.noConfusion hc | (exfalso; first | exact absurd rfl hc | omega) | (simp only [zb0, ne_eq, not_true_eq_false] at hc <;> first | exact absurd rfl hc | (exfalso; first | exact absurd rfl hc | omega) | skip) | skip)) | (refine And.intro zp1 ?_) | (apply And.intro) | (intro s hs; skip) | (refine Exists.intro _ (And.intro ⟨rfl, rfl, rfl⟩ ?_)))
   refine sem_exec (wd := 1) (Q := mkQ (LMa g0)) (by decide) tysOk (q_of (LMa_ok g0)) mixed ?_
   repeat' (first | (simp only [w2, w3]) | (apply And.intro <;> intro hc <;> (first | exact Bool.noConfusion hc | (exfalso; first | exact absurd rfl hc | omega) | (simp only [zb0, ne_eq, not_true_eq_false] at hc <;> first | exact absurd rfl hc | (exfalso; first | exact absurd rfl hc | omega) | skip) | skip)) | (refine And.intro zp1 ?_) | (apply And.intro) | (intro s hs; skip) | (refine Exists.intro _ (And.intro ⟨rfl, rfl, rfl⟩ ?_)))
   conv => whnf
   have hAl : (addSd sd (newH c now draw) i).held.length = sd.held.length + 1 := insA_len hle1
   refine fin_acc (s := addSd sd (newH c now draw) i) (d := 44) hR2 ha rfl (fun p h j => (updE_ne h).trans (rowA_ne h)) rfl rfl (by rw [hAl]; rfl) rfl rfl hAl.symm rfl fun q hq j hj => ?_
   rw [hAl] at hq
   show LeC _ _ (rowN neH (insA i (newH c now draw) sd.held) q j)
   refine ins_cells (r := rowN neH sd.held) hle1 ?_ hq (fun h => ?_) (fun h => ?_) (fun h => ?_)
   . show min (sd.held.length + 1 - i) (sd.held.length + 1 - (i + 1)) = _
     omega
   . rw [show rowN neH (insA i (newH c now draw) sd.held) q j = rowN neH sd.held q j from congrArg (fun z => neH.cell z j) (insA_lt hle1 h)]
     exact (neH.sh _ j hj).le
   . subst h
     rw [show rowN neH (insA q (newH c now draw) sd.held) q j = neH.cell (newH c now draw) j from congrArg (fun z => neH.cell z j) (insA_eq hle1)]
     have e0 : newH c now draw = ⟨c.num, c.data, tr.1, if 1099511627776 < now + 20 then 1099511627776 else now + 20⟩ := by unfold newH; rw [hT]
     rw [e0]
     iterate 11 (rcases j with _ | j; · first | exact leC_int rfl | exact leC_bool rfl | exact leC_os_sl rfl rfl rfl (by first | rfl | exact Nat.zero_add _) (by first | exact Nat.le_refl _ | (simp; done)) fun q hq j hj => leC_cell (E := eB) (congrArg (fun z => c.data.getD z default) (Nat.zero_add q)))
     exact absurd hj (by omega)
   . rw [show rowN neH (insA i (newH c now draw) sd.held) q j = rowN neH sd.held (q - 1) j from congrArg (fun z => neH.cell z j) (insA_gt hle1 h)]
     exact (neH.sh _ j hj).le
theorem acc3_1 (g0 : Nat) (L : List Sed) (a : Nat) (sd : Sed) (now : Int) (c : Cas) (deaf : Bool) (draw : Int) (hI : AcJ L a sd now c draw) (R : List Sed × Bool × Int) (hR : R = (L.set a (if deaf = true then raiseS sd (c.num + 1) else addSd sd (newH c now draw) (plcH c.num sd.held 0).1), !deaf, 0)) (a3 : a = 1) :
 Sem Try.prog Try.f11.ntmps 0 (dropC 11 (Try.f11.body.getD Code.ret)) (SB L a sd now c deaf draw ()).fr (SB L a sd now c deaf draw ()).H (SB L a sd now c deaf draw ()).nx (endH T Try.f11.results.toList fun x H _ => FinN (some R.1.length) (encAc R) (entN neS 78 R.1) x H) := by
 obtain ⟨ha, hn, hk, hh, hnum, hd, hnow, hdr⟩ := hI
 unfold SB
 subst a3
 have w1 : IntKind.i64.wrap (c.num + 1) = c.num + 1 := IntWalk.i64_in _ (by omega)
 have w2 : IntKind.i64.wrap (now + 20) = now + 20 := IntWalk.i64_in _ (by omega)
 cases deaf with
 | true =>
   refine sem_step (wd := 1024) (Q := mkQ (LMa g0)) (by decide) tysOk (q_of (LMa_ok g0)) mixed ?_
   repeat' (first | (simp only [w1]) | (apply And.intro <;> intro hc <;> (first | exact Bool.noConfusion hc | (exfalso; first | exact absurd rfl hc | omega) | (simp only [zb0, ne_eq, not_true_eq_false] at hc <;> first | exact absurd rfl hc | (exfalso; first | exact absurd rfl hc | omega) | skip) | skip)) | (refine And.intro zp1 ?_) | (apply And.intro) | (intro s hs; skip) | (refine Exists.intro _ (And.intro ⟨rfl, rfl, rfl⟩ ?_)))
   . exact rfl
   . conv => whnf
     refine fin_acc (s := sd) (d := 2) (hR.trans ?_) ha rfl (fun p h j => rowA_ne h) rfl rfl rfl rfl rfl rfl rfl fun q hq j hj => (neH.sh _ j hj).le
     rw [if_pos rfl, show raiseS sd (c.num + 1) = sd from if_pos hc]; rfl
   . exact ⟨rfl, okD_sl _⟩
   . exact Eq.mpr (congrArg KpI (toN_row0 neH_rd _)) hk
   . conv => whnf
     have q : sd.held.filter (wantB (some (c.num + 1))) = s := (hs.trans (by rw [toN_row0 neH_rd])).symm
     clear hs
     refine fin_acc (s := ⟨sd.id, c.num + 1, s⟩) (d := 5141) (hR.trans ?_) ha rfl (fun p h j => (updE_ne h).trans ((updE_ne h).trans (rowA_ne h))) rfl rfl rfl rfl rfl rfl rfl fun q hq j hj => (neH.sh _ j hj).le
     rw [if_pos rfl, show raiseS sd (c.num + 1) = ⟨sd.id, c.num + 1, s⟩ from (if_neg hc).trans (by rw [q])]; rfl
 | false =>
   obtain ⟨⟨i, b⟩, hP⟩ : ∃ P, plcH c.num sd.held 0 = P := ⟨_, rfl⟩
   have hle := plc_le (id := c.num) (L := sd.held) (k := 0)
   rw [hP, Nat.zero_add] at hle
   dsimp only at hle
   obtain ⟨hle1, _, _⟩ := hle
   have hR2 : R = (L.set 1 (addSd sd (newH c now draw) i), true, 0) := by rw [hR, hP]; rfl
   clear hR
   have w3 : IntKind.i64.wrap ((i : Int) + 1) = ((i + 1 : Nat) : Int) := (IntWalk.i64_in _ (by omega)).trans (by omega)
   obtain ⟨tr, hT⟩ : ∃ r, newT 2 3 2 now draw = r := ⟨_, rfl⟩
   refine sem_step (wd := 1) (Q := mkQ (LMa g0)) (by decide) tysOk (q_of (LMa_ok g0)) mixed ?_
   repeat' (first | (simp only [w2]) | (apply And.intro <;> intro hc <;> (first | exact Bool.noConfusion hc | (exfalso; first | exact absurd rfl hc | omega) | (simp only [zb0, ne_eq, not_true_eq_false] at hc <;> first | exact absurd rfl hc | (exfalso; first | exact absurd rfl hc | omega) | skip) | skip)) | (refine And.intro zp1 ?_) | (apply And.intro) | (intro s hs; skip) | (refine Exists.intro _ (And.intro ⟨rfl, rfl, rfl⟩ ?_)))
   refine sem_step (wd := 1) (Q := mkQ (LMa g0)) (by decide) tysOk (q_of (LMa_ok g0)) mixed ?_
   repeat' (first | (simp only [w2]) | (apply And.intro <;> intro hc <;> (first | exact Bool.noConfusion hc | (exfalso; first | exact absurd rfl hc | omega) | (simp only [zb0, ne_eq, not_true_eq_false] at hc <;> first | exact absurd rfl hc | (exfalso; first | exact absurd rfl hc | omega) | skip) | skip)) | (refine And.intro zp1 ?_) | (apply And.intro) | (intro s hs; (have q : tr = s := hT.symm.trans hs.symm; clear hs; subst q)) | (refine Exists.intro _ (And.intro ⟨rfl, rfl, rfl⟩ ?_)))
   refine sem_step (wd := 1) (Q := mkQ (LMa g0)) (by decide) tysOk (q_of (LMa_ok g0)) mixed ?_
   repeat' (first | (simp only [w2]) | (apply And.intro <;> intro hc <;> (first | exact Bool.noConfusion hc | (exfalso; first | exact absurd rfl hc | omega) | (simp only [zb0, ne_eq, not_true_eq_false] at hc <;> first | exact absurd rfl hc | (exfalso; first | exact absurd rfl hc | omega) | skip) | skip)) | (refine And.intro zp1 ?_) | (apply And.intro) | (intro s hs; skip) | (refine Exists.intro _ (And.intro ⟨rfl, rfl, rfl⟩ ?_)))
   refine sem_step (wd := 1) (Q := mkQ (LMa g0)) (by decide) tysOk (q_of (LMa_ok g0)) mixed ?_
   repeat' (first | (simp only [w2, w3]) | (apply And.intro <;> intro hc <;> (first | exact Bool.noConfusion hc | (exfalso; first | exact absurd rfl hc | omega) | (simp only [zb0, ne_eq, not_true_eq_false] at hc <;> first | exact absurd rfl hc | (exfalso; first | exact absurd rfl hc | omega) | skip) | skip)) | (refine And.intro zp1 ?_) | (apply And.intro) | (intro s hs; (have q := rd_plc hs (toN_row0 neH_rd _) hP; clear hs; subst q)) | (refine Exists.intro _ (And.intro ⟨rfl, rfl, rfl⟩ ?_)))
   . exact fun _ _ => ⟨rfl, okD_sl _⟩
   . exact Eq.mpr (congrArg (fun z : List Hel => z.length <= 9223372036854775807) (toN_row0 neH_rd _)) (by omega)
   refine sem_step (wd := 1) (Q := mkQ (LMa g0)) (by decide) tysOk (q_of (LMa_ok g0)) mixed ?_
   repeat' (first | (simp only [w2, w3]) | (apply And.intro <;> intro hc <;> (first | exact Bool.noConfusion hc | (exfalso; first | exact absurd rfl hc | omega) | (simp only [zb0, ne_eq, not_true_eq_false] at hc <;> first | exact absurd rfl hc | (exfalso; first | exact absurd rfl hc | omega) | skip) | skip)) | (refine And.intro zp1 ?_) | (apply And.intro) | (intro s hs; skip) | (refine Exists.intro _ (And.intro ⟨rfl, rfl, rfl⟩ ?_)))
   refine sem_step (wd := 1) (Q := mkQ (LMa g0)) (by decide) tysOk (q_of (LMa_ok g0)) mixed ?_
   repeat' (first | (simp only [w2, w3]) | (apply And.intro <;> intro hc <;> (first | exact Bool.noConfusion hc | (exfalso; first | exact absurd rfl hc | omega) | (simp only [zb0, ne_eq, not_true_eq_false] at hc <;> first | exact absurd rfl hc | (exfalso; first | exact absurd rfl hc | omega) | skip) | skip)) | (refine And.intro zp1 ?_) | (apply And.intro) | (intro s hs; skip) | (refine Exists.intro _ (And.intro ⟨rfl, rfl, rfl⟩ ?_)))
   refine sem_exec (wd := 1) (Q := mkQ (LMa g0)) (by decide) tysOk (q_of (LMa_ok g0)) mixed ?_
   repeat' (first | (simp only [w2, w3]) | (apply And.intro <;> intro hc <;> (first | exact Bool.noConfusion hc | (exfalso; first | exact absurd rfl hc | omega) | (simp only [zb0, ne_eq, not_true_eq_false] at hc <;> first | exact absurd rfl hc | (exfalso; first | exact absurd rfl hc | omega) | skip) | skip)) | (refine And.intro zp1 ?_) | (apply And.intro) | (intro s hs; skip) | (refine Exists.intro _ (And.intro ⟨rfl, rfl, rfl⟩ ?_)))
   conv => whnf
   have hAl : (addSd sd (newH c now draw) i).held.length = sd.held.length + 1 := insA_len hle1
   refine fin_acc (s := addSd sd (newH c now draw) i) (d := 44) hR2 ha rfl (fun p h j => (updE_ne h).trans (rowA_ne h)) rfl rfl (by rw [hAl]; rfl) rfl rfl hAl.symm rfl fun q hq j hj => ?_
   rw [hAl] at hq
   show LeC _ _ (rowN neH (insA i (newH c now draw) sd.held) q j)
   refine ins_cells (r := rowN neH sd.held) hle1 ?_ hq (fun h => ?_) (fun h => ?_) (fun h => ?_)
   . show min (sd.held.length + 1 - i) (sd.held.length + 1 - (i + 1)) = _
     omega
   . rw [show rowN neH (insA i (newH c now draw) sd.held) q j = rowN neH sd.held q j from congrArg (fun z => neH.cell z j) (insA_lt hle1 h)]
     exact (neH.sh _ j hj).le
   . subst h
     rw [show rowN neH (insA q (newH c now draw) sd.held) q j = neH.cell (newH c now draw) j from congrArg (fun z => neH.cell z j) (insA_eq hle1)]
     have e0 : newH c now draw = ⟨c.num, c.data, tr.1, if 1099511627776 < now + 20 then 1099511627776 else now + 20⟩ := by unfold newH; rw [hT]
     rw [e0]
     iterate 11 (rcases j with _ | j; · first | exact leC_int rfl | exact leC_bool rfl | exact leC_os_sl rfl rfl rfl (by first | rfl | exact Nat.zero_add _) (by first | exact Nat.le_refl _ | (simp; done)) fun q hq j hj => leC_cell (E := eB) (congrArg (fun z => c.data.getD z default) (Nat.zero_add q)))
     exact absurd hj (by omega)
   . rw [show rowN neH (insA i (newH c now draw) sd.held) q j = rowN neH sd.held (q - 1) j from congrArg (fun z => neH.cell z j) (insA_gt hle1 h)]
     exact (neH.sh _ j hj).le
theorem acc3_2 (g0 : Nat) (L : List Sed) (a : Nat) (sd : Sed) (now : Int) (c : Cas) (deaf : Bool) (draw : Int) (hI : AcJ L a sd now c draw) (R : List Sed × Bool × Int) (hR : R = (L.set a (if deaf = true then raiseS sd (c.num + 1) else addSd sd (newH c now draw) (plcH c.num sd.held 0).1), !deaf, 0)) (a3 : a = 2) :
 Sem Try.prog Try.f11.ntmps 0 (dropC 11 (Try.f11.body.getD Code.ret)) (SB L a sd now c deaf draw ()).fr (SB L a sd now c deaf draw ()).H (SB L a sd now c deaf draw ()).nx (endH T Try.f11.results.toList fun x H _ => FinN (some R.1.length) (encAc R) (entN neS 78 R.1) x H) := by
 obtain ⟨ha, hn, hk, hh, hnum, hd, hnow, hdr⟩ := hI
 unfold SB
 subst a3
 have w1 : IntKind.i64.wrap (c.num + 1) = c.num + 1 := IntWalk.i64_in _ (by omega)
 have w2 : IntKind.i64.wrap (now + 20) = now + 20 := IntWalk.i64_in _ (by omega)
 cases deaf with
 | true =>
   refine sem_step (wd := 1024) (Q := mkQ (LMa g0)) (by decide) tysOk (q_of (LMa_ok g0)) mixed ?_
   repeat' (first | (simp only [w1]) | (apply And.intro <;> intro hc <;> (first | exact Bool.noConfusion hc | (exfalso; first | exact absurd rfl hc | omega) | (simp only [zb0, ne_eq, not_true_eq_false] at hc <;> first | exact absurd rfl hc | (exfalso; first | exact absurd rfl hc | omega) | skip) | skip)) | (refine And.intro zp1 ?_) | (apply And.intro) | (intro s hs; skip) | (refine Exists.intro _ (And.intro ⟨rfl, rfl, rfl⟩ ?_)))
   . exact rfl
   . conv => whnf
     refine fin_acc (s := sd) (d := 2) (hR.trans ?_) ha rfl (fun p h j => rowA_ne h) rfl rfl rfl rfl rfl rfl rfl fun q hq j hj => (neH.sh _ j hj).le
     rw [if_pos rfl, show raiseS sd (c.num + 1) = sd from if_pos hc]; rfl
   . exact ⟨rfl, okD_sl _⟩
   . exact Eq.mpr (congrArg KpI (toN_row0 neH_rd _)) hk
   . conv => whnf
     have q : sd.held.filter (wantB (some (c.num + 1))) = s := (hs.trans (by rw [toN_row0 neH_rd])).symm
     clear hs
     refine fin_acc (s := ⟨sd.id, c.num + 1, s⟩) (d := 5141) (hR.trans ?_) ha rfl (fun p h j => (updE_ne h).trans ((updE_ne h).trans (rowA_ne h))) rfl rfl rfl rfl rfl rfl rfl fun q hq j hj => (neH.sh _ j hj).le
     rw [if_pos rfl, show raiseS sd (c.num + 1) = ⟨sd.id, c.num + 1, s⟩ from (if_neg hc).trans (by rw [q])]; rfl
 | false =>
   obtain ⟨⟨i, b⟩, hP⟩ : ∃ P, plcH c.num sd.held 0 = P := ⟨_, rfl⟩
   have hle := plc_le (id := c.num) (L := sd.held) (k := 0)
   rw [hP, Nat.zero_add] at hle
   dsimp only at hle
   obtain ⟨hle1, _, _⟩ := hle
   have hR2 : R = (L.set 2 (addSd sd (newH c now draw) i), true, 0) := by rw [hR, hP]; rfl
   clear hR
   have w3 : IntKind.i64.wrap ((i : Int) + 1) = ((i + 1 : Nat) : Int) := (IntWalk.i64_in _ (by omega)).trans (by omega)
   obtain ⟨tr, hT⟩ : ∃ r, newT 2 3 2 now draw = r := ⟨_, rfl⟩
   refine sem_step (wd := 1) (Q := mkQ (LMa g0)) (by decide) tysOk (q_of (LMa_ok g0)) mixed ?_
   repeat' (first | (simp only [w2]) | (apply And.intro <;> intro hc <;> (first | exact Bool.noConfusion hc | (exfalso; first | exact absurd rfl hc | omega) | (simp only [zb0, ne_eq, not_true_eq_false] at hc <;> first | exact absurd rfl hc | (exfalso; first | exact absurd rfl hc | omega) | skip) | skip)) | (refine And.intro zp1 ?_) | (apply And.intro) | (intro s hs; skip) | (refine Exists.intro _ (And.intro ⟨rfl, rfl, rfl⟩ ?_)))
   refine sem_step (wd := 1) (Q := mkQ (LMa g0)) (by decide) tysOk (q_of (LMa_ok g0)) mixed ?_
   repeat' (first | (simp only [w2]) | (apply And.intro <;> intro hc <;> (first | exact Bool.noConfusion hc | (exfalso; first | exact absurd rfl hc | omega) | (simp only [zb0, ne_eq, not_true_eq_false] at hc <;> first | exact absurd rfl hc | (exfalso; first | exact absurd rfl hc | omega) | skip) | skip)) | (refine And.intro zp1 ?_) | (apply And.intro) | (intro s hs; (have q : tr = s := hT.symm.trans hs.symm; clear hs; subst q)) | (refine Exists.intro _ (And.intro ⟨rfl, rfl, rfl⟩ ?_)))
   refine sem_step (wd := 1) (Q := mkQ (LMa g0)) (by decide) tysOk (q_of (LMa_ok g0)) mixed ?_
   repeat' (first | (simp only [w2]) | (apply And.intro <;> intro hc <;> (first | exact Bool.noConfusion hc | (exfalso; first | exact absurd rfl hc | omega) | (simp only [zb0, ne_eq, not_true_eq_false] at hc <;> first | exact absurd rfl hc | (exfalso; first | exact absurd rfl hc | omega) | skip) | skip)) | (refine And.intro zp1 ?_) | (apply And.intro) | (intro s hs; skip) | (refine Exists.intro _ (And.intro ⟨rfl, rfl, rfl⟩ ?_)))
   refine sem_step (wd := 1) (Q := mkQ (LMa g0)) (by decide) tysOk (q_of (LMa_ok g0)) mixed ?_
   repeat' (first | (simp only [w2, w3]) | (apply And.intro <;> intro hc <;> (first | exact Bool.noConfusion hc | (exfalso; first | exact absurd rfl hc | omega) | (simp only [zb0, ne_eq, not_true_eq_false] at hc <;> first | exact absurd rfl hc | (exfalso; first | exact absurd rfl hc | omega) | skip) | skip)) | (refine And.intro zp1 ?_) | (apply And.intro) | (intro s hs; (have q := rd_plc hs (toN_row0 neH_rd _) hP; clear hs; subst q)) | (refine Exists.intro _ (And.intro ⟨rfl, rfl, rfl⟩ ?_)))
   . exact fun _ _ => ⟨rfl, okD_sl _⟩
   . exact Eq.mpr (congrArg (fun z : List Hel => z.length <= 9223372036854775807) (toN_row0 neH_rd _)) (by omega)
   refine sem_step (wd := 1) (Q := mkQ (LMa g0)) (by decide) tysOk (q_of (LMa_ok g0)) mixed ?_
   repeat' (first | (simp only [w2, w3]) | (apply And.intro <;> intro hc <;> (first | exact Bool.noConfusion hc | (exfalso; first | exact absurd rfl hc | omega) | (simp only [zb0, ne_eq, not_true_eq_false] at hc <;> first | exact absurd rfl hc | (exfalso; first | exact absurd rfl hc | omega) | skip) | skip)) | (refine And.intro zp1 ?_) | (apply And.intro) | (intro s hs; skip) | (refine Exists.intro _ (And.intro ⟨rfl, rfl, rfl⟩ ?_)))
   refine sem_step (wd := 1) (Q := mkQ (LMa g0)) (by decide) tysOk (q_of (LMa_ok g0)) mixed ?_
   repeat' (first | (simp only [w2, w3]) | (apply And.intro <;> intro hc <;> (first | exact Bool.noConfusion hc | (exfalso; first | exact absurd rfl hc | omega) | (simp only [zb0, ne_eq, not_true_eq_false] at hc <;> first | exact absurd rfl hc | (exfalso; first | exact absurd rfl hc | omega) | skip) | skip)) | (refine And.intro zp1 ?_) | (apply And.intro) | (intro s hs; skip) | (refine Exists.intro _ (And.intro ⟨rfl, rfl, rfl⟩ ?_)))
   refine sem_exec (wd := 1) (Q := mkQ (LMa g0)) (by decide) tysOk (q_of (LMa_ok g0)) mixed ?_
   repeat' (first | (simp only [w2, w3]) | (apply And.intro <;> intro hc <;> (first | exact Bool.noConfusion hc | (exfalso; first | exact absurd rfl hc | omega) | (simp only [zb0, ne_eq, not_true_eq_false] at hc <;> first | exact absurd rfl hc | (exfalso; first | exact absurd rfl hc | omega) | skip) | skip)) | (refine And.intro zp1 ?_) | (apply And.intro) | (intro s hs; skip) | (refine Exists.intro _ (And.intro ⟨rfl, rfl, rfl⟩ ?_)))
   conv => whnf
   have hAl : (addSd sd (newH c now draw) i).held.length = sd.held.length + 1 := insA_len hle1
   refine fin_acc (s := addSd sd (newH c now draw) i) (d := 44) hR2 ha rfl (fun p h j => (updE_ne h).trans (rowA_ne h)) rfl rfl (by rw [hAl]; rfl) rfl rfl hAl.symm rfl fun q hq j hj => ?_
   rw [hAl] at hq
   show LeC _ _ (rowN neH (insA i (newH c now draw) sd.held) q j)
   refine ins_cells (r := rowN neH sd.held) hle1 ?_ hq (fun h => ?_) (fun h => ?_) (fun h => ?_)
   . show min (sd.held.length + 1 - i) (sd.held.length + 1 - (i + 1)) = _
     omega
   . rw [show rowN neH (insA i (newH c now draw) sd.held) q j = rowN neH sd.held q j from congrArg (fun z => neH.cell z j) (insA_lt hle1 h)]
     exact (neH.sh _ j hj).le
   . subst h
     rw [show rowN neH (insA q (newH c now draw) sd.held) q j = neH.cell (newH c now draw) j from congrArg (fun z => neH.cell z j) (insA_eq hle1)]
     have e0 : newH c now draw = ⟨c.num, c.data, tr.1, if 1099511627776 < now + 20 then 1099511627776 else now + 20⟩ := by unfold newH; rw [hT]
     rw [e0]
     iterate 11 (rcases j with _ | j; · first | exact leC_int rfl | exact leC_bool rfl | exact leC_os_sl rfl rfl rfl (by first | rfl | exact Nat.zero_add _) (by first | exact Nat.le_refl _ | (simp; done)) fun q hq j hj => leC_cell (E := eB) (congrArg (fun z => c.data.getD z default) (Nat.zero_add q)))
     exact absurd hj (by omega)
   . rw [show rowN neH (insA i (newH c now draw) sd.held) q j = rowN neH sd.held (q - 1) j from congrArg (fun z => neH.cell z j) (insA_gt hle1 h)]
     exact (neH.sh _ j hj).le
theorem acc3_3 (g0 : Nat) (L : List Sed) (a : Nat) (sd : Sed) (now : Int) (c : Cas) (deaf : Bool) (draw : Int) (hI : AcJ L a sd now c draw) (R : List Sed × Bool × Int) (hR : R = (L.set a (if deaf = true then raiseS sd (c.num + 1) else addSd sd (newH c now draw) (plcH c.num sd.held 0).1), !deaf, 0)) (a3 : a = 3) :
 Sem Try.prog Try.f11.ntmps 0 (dropC 11 (Try.f11.body.getD Code.ret)) (SB L a sd now c deaf draw ()).fr (SB L a sd now c deaf draw ()).H (SB L a sd now c deaf draw ()).nx (endH T Try.f11.results.toList fun x H _ => FinN (some R.1.length) (encAc R) (entN neS 78 R.1) x H) := by
 obtain ⟨ha, hn, hk, hh, hnum, hd, hnow, hdr⟩ := hI
 unfold SB
 subst a3
 have w1 : IntKind.i64.wrap (c.num + 1) = c.num + 1 := IntWalk.i64_in _ (by omega)
 have w2 : IntKind.i64.wrap (now + 20) = now + 20 := IntWalk.i64_in _ (by omega)
 cases deaf with
 | true =>
   refine sem_step (wd := 1024) (Q := mkQ (LMa g0)) (by decide) tysOk (q_of (LMa_ok g0)) mixed ?_
   repeat' (first | (simp only [w1]) | (apply And.intro <;> intro hc <;> (first | exact Bool.noConfusion hc | (exfalso; first | exact absurd rfl hc | omega) | (simp only [zb0, ne_eq, not_true_eq_false] at hc <;> first | exact absurd rfl hc | (exfalso; first | exact absurd rfl hc | omega) | skip) | skip)) | (refine And.intro zp1 ?_) | (apply And.intro) | (intro s hs; skip) | (refine Exists.intro _ (And.intro ⟨rfl, rfl, rfl⟩ ?_)))
   . exact rfl
   . conv => whnf
     refine fin_acc (s := sd) (d := 2) (hR.trans ?_) ha rfl (fun p h j => rowA_ne h) rfl rfl rfl rfl rfl rfl rfl fun q hq j hj => (neH.sh _ j hj).le
     rw [if_pos rfl, show raiseS sd (c.num + 1) = sd from if_pos hc]; rfl
   . exact ⟨rfl, okD_sl _⟩
   . exact Eq.mpr (congrArg KpI (toN_row0 neH_rd _)) hk
   . conv => whnf
     have q : sd.held.filter (wantB (some (c.num + 1))) = s := (hs.trans (by rw [toN_row0 neH_rd])).symm
     clear hs
     refine fin_acc (s := ⟨sd.id, c.num + 1, s⟩) (d := 5141) (hR.trans ?_) ha rfl (fun p h j => (updE_ne h).trans ((updE_ne h).trans (rowA_ne h))) rfl rfl rfl rfl rfl rfl rfl fun q hq j hj => (neH.sh _ j hj).le
     rw [if_pos rfl, show raiseS sd (c.num + 1) = ⟨sd.id, c.num + 1, s⟩ from (if_neg hc).trans (by rw [q])]; rfl
 | false =>
   obtain ⟨⟨i, b⟩, hP⟩ : ∃ P, plcH c.num sd.held 0 = P := ⟨_, rfl⟩
   have hle := plc_le (id := c.num) (L := sd.held) (k := 0)
   rw [hP, Nat.zero_add] at hle
   dsimp only at hle
   obtain ⟨hle1, _, _⟩ := hle
   have hR2 : R = (L.set 3 (addSd sd (newH c now draw) i), true, 0) := by rw [hR, hP]; rfl
   clear hR
   have w3 : IntKind.i64.wrap ((i : Int) + 1) = ((i + 1 : Nat) : Int) := (IntWalk.i64_in _ (by omega)).trans (by omega)
   obtain ⟨tr, hT⟩ : ∃ r, newT 2 3 2 now draw = r := ⟨_, rfl⟩
   refine sem_step (wd := 1) (Q := mkQ (LMa g0)) (by decide) tysOk (q_of (LMa_ok g0)) mixed ?_
   repeat' (first | (simp only [w2]) | (apply And.intro <;> intro hc <;> (first | exact Bool.noConfusion hc | (exfalso; first | exact absurd rfl hc | omega) | (simp only [zb0, ne_eq, not_true_eq_false] at hc <;> first | exact absurd rfl hc | (exfalso; first | exact absurd rfl hc | omega) | skip) | skip)) | (refine And.intro zp1 ?_) | (apply And.intro) | (intro s hs; skip) | (refine Exists.intro _ (And.intro ⟨rfl, rfl, rfl⟩ ?_)))
   refine sem_step (wd := 1) (Q := mkQ (LMa g0)) (by decide) tysOk (q_of (LMa_ok g0)) mixed ?_
   repeat' (first | (simp only [w2]) | (apply And.intro <;> intro hc <;> (first | exact Bool.noConfusion hc | (exfalso; first | exact absurd rfl hc | omega) | (simp only [zb0, ne_eq, not_true_eq_false] at hc <;> first | exact absurd rfl hc | (exfalso; first | exact absurd rfl hc | omega) | skip) | skip)) | (refine And.intro zp1 ?_) | (apply And.intro) | (intro s hs; (have q : tr = s := hT.symm.trans hs.symm; clear hs; subst q)) | (refine Exists.intro _ (And.intro ⟨rfl, rfl, rfl⟩ ?_)))
   refine sem_step (wd := 1) (Q := mkQ (LMa g0)) (by decide) tysOk (q_of (LMa_ok g0)) mixed ?_
   repeat' (first | (simp only [w2]) | (apply And.intro <;> intro hc <;> (first | exact Bool.noConfusion hc | (exfalso; first | exact absurd rfl hc | omega) | (simp only [zb0, ne_eq, not_true_eq_false] at hc <;> first | exact absurd rfl hc | (exfalso; first | exact absurd rfl hc | omega) | skip) | skip)) | (refine And.intro zp1 ?_) | (apply And.intro) | (intro s hs; skip) | (refine Exists.intro _ (And.intro ⟨rfl, rfl, rfl⟩ ?_)))
   refine sem_step (wd := 1) (Q := mkQ (LMa g0)) (by decide) tysOk (q_of (LMa_ok g0)) mixed ?_
   repeat' (first | (simp only [w2, w3]) | (apply And.intro <;> intro hc <;> (first | exact Bool.noConfusion hc | (exfalso; first | exact absurd rfl hc | omega) | (simp only [zb0, ne_eq, not_true_eq_false] at hc <;> first | exact absurd rfl hc | (exfalso; first | exact absurd rfl hc | omega) | skip) | skip)) | (refine And.intro zp1 ?_) | (apply And.intro) | (intro s hs; (have q := rd_plc hs (toN_row0 neH_rd _) hP; clear hs; subst q)) | (refine Exists.intro _ (And.intro ⟨rfl, rfl, rfl⟩ ?_)))
   . exact fun _ _ => ⟨rfl, okD_sl _⟩
   . exact Eq.mpr (congrArg (fun z : List Hel => z.length <= 9223372036854775807) (toN_row0 neH_rd _)) (by omega)
   refine sem_step (wd := 1) (Q := mkQ (LMa g0)) (by decide) tysOk (q_of (LMa_ok g0)) mixed ?_
   repeat' (first | (simp only [w2, w3]) | (apply And.intro <;> intro hc <;> (first | exact Bool.noConfusion hc | (exfalso; first | exact absurd rfl hc | omega) | (simp only [zb0, ne_eq, not_true_eq_false] at hc <;> first | exact absurd rfl hc | (exfalso; first | exact absurd rfl hc | omega) | skip) | skip)) | (refine And.intro zp1 ?_) | (apply And.intro) | (intro s hs; skip) | (refine Exists.intro _ (And.intro ⟨rfl, rfl, rfl⟩ ?_)))
   refine sem_step (wd := 1) (Q := mkQ (LMa g0)) (by decide) tysOk (q_of (LMa_ok g0)) mixed ?_
   repeat' (first | (simp only [w2, w3]) | (apply And.intro <;> intro hc <;> (first | exact Bool.noConfusion hc | (exfalso; first | exact absurd rfl hc | omega) | (simp only [zb0, ne_eq, not_true_eq_false] at hc <;> first | exact absurd rfl hc | (exfalso; first | exact absurd rfl hc | omega) | skip) | skip)) | (refine And.intro zp1 ?_) | (apply And.intro) | (intro s hs; skip) | (refine Exists.intro _ (And.intro ⟨rfl, rfl, rfl⟩ ?_)))
   refine sem_exec (wd := 1) (Q := mkQ (LMa g0)) (by decide) tysOk (q_of (LMa_ok g0)) mixed ?_
   repeat' (first | (simp only [w2, w3]) | (apply And.intro <;> intro hc <;> (first | exact Bool.noConfusion hc | (exfalso; first | exact absurd rfl hc | omega) | (simp only [zb0, ne_eq, not_true_eq_false] at hc <;> first | exact absurd rfl hc | (exfalso; first | exact absurd rfl hc | omega) | skip) | skip)) | (refine And.intro zp1 ?_) | (apply And.intro) | (intro s hs; skip) | (refine Exists.intro _ (And.intro ⟨rfl, rfl, rfl⟩ ?_)))
   conv => whnf
   have hAl : (addSd sd (newH c now draw) i).held.length = sd.held.length + 1 := insA_len hle1
   refine fin_acc (s := addSd sd (newH c now draw) i) (d := 44) hR2 ha rfl (fun p h j => (updE_ne h).trans (rowA_ne h)) rfl rfl (by rw [hAl]; rfl) rfl rfl hAl.symm rfl fun q hq j hj => ?_
   rw [hAl] at hq
   show LeC _ _ (rowN neH (insA i (newH c now draw) sd.held) q j)
   refine ins_cells (r := rowN neH sd.held) hle1 ?_ hq (fun h => ?_) (fun h => ?_) (fun h => ?_)
   . show min (sd.held.length + 1 - i) (sd.held.length + 1 - (i + 1)) = _
     omega
   . rw [show rowN neH (insA i (newH c now draw) sd.held) q j = rowN neH sd.held q j from congrArg (fun z => neH.cell z j) (insA_lt hle1 h)]
     exact (neH.sh _ j hj).le
   . subst h
     rw [show rowN neH (insA q (newH c now draw) sd.held) q j = neH.cell (newH c now draw) j from congrArg (fun z => neH.cell z j) (insA_eq hle1)]
     have e0 : newH c now draw = ⟨c.num, c.data, tr.1, if 1099511627776 < now + 20 then 1099511627776 else now + 20⟩ := by unfold newH; rw [hT]
     rw [e0]
     iterate 11 (rcases j with _ | j; · first | exact leC_int rfl | exact leC_bool rfl | exact leC_os_sl rfl rfl rfl (by first | rfl | exact Nat.zero_add _) (by first | exact Nat.le_refl _ | (simp; done)) fun q hq j hj => leC_cell (E := eB) (congrArg (fun z => c.data.getD z default) (Nat.zero_add q)))
     exact absurd hj (by omega)
   . rw [show rowN neH (insA i (newH c now draw) sd.held) q j = rowN neH sd.held (q - 1) j from congrArg (fun z => neH.cell z j) (insA_gt hle1 h)]
     exact (neH.sh _ j hj).le
theorem acc3_4 (g0 : Nat) (L : List Sed) (a : Nat) (sd : Sed) (now : Int) (c : Cas) (deaf : Bool) (draw : Int) (hI : AcJ L a sd now c draw) (R : List Sed × Bool × Int) (hR : R = (L.set a (if deaf = true then raiseS sd (c.num + 1) else addSd sd (newH c now draw) (plcH c.num sd.held 0).1), !deaf, 0)) (a3 : a = 4) :
 Sem Try.prog Try.f11.ntmps 0 (dropC 11 (Try.f11.body.getD Code.ret)) (SB L a sd now c deaf draw ()).fr (SB L a sd now c deaf draw ()).H (SB L a sd now c deaf draw ()).nx (endH T Try.f11.results.toList fun x H _ => FinN (some R.1.length) (encAc R) (entN neS 78 R.1) x H) := by
 obtain ⟨ha, hn, hk, hh, hnum, hd, hnow, hdr⟩ := hI
 unfold SB
 subst a3
 have w1 : IntKind.i64.wrap (c.num + 1) = c.num + 1 := IntWalk.i64_in _ (by omega)
 have w2 : IntKind.i64.wrap (now + 20) = now + 20 := IntWalk.i64_in _ (by omega)
 cases deaf with
 | true =>
   refine sem_step (wd := 1024) (Q := mkQ (LMa g0)) (by decide) tysOk (q_of (LMa_ok g0)) mixed ?_
   repeat' (first | (simp only [w1]) | (apply And.intro <;> intro hc <;> (first | exact Bool.noConfusion hc | (exfalso; first | exact absurd rfl hc | omega) | (simp only [zb0, ne_eq, not_true_eq_false] at hc <;> first | exact absurd rfl hc | (exfalso; first | exact absurd rfl hc | omega) | skip) | skip)) | (refine And.intro zp1 ?_) | (apply And.intro) | (intro s hs; skip) | (refine Exists.intro _ (And.intro ⟨rfl, rfl, rfl⟩ ?_)))
   . exact rfl
   . conv => whnf
     refine fin_acc (s := sd) (d := 2) (hR.trans ?_) ha rfl (fun p h j => rowA_ne h) rfl rfl rfl rfl rfl rfl rfl fun q hq j hj => (neH.sh _ j hj).le
     rw [if_pos rfl, show raiseS sd (c.num + 1) = sd from if_pos hc]; rfl
   . exact ⟨rfl, okD_sl _⟩
   . exact Eq.mpr (congrArg KpI (toN_row0 neH_rd _)) hk
   . conv => whnf
     have q : sd.held.filter (wantB (some (c.num + 1))) = s := (hs.trans (by rw [toN_row0 neH_rd])).symm
     clear hs
     refine fin_acc (s := ⟨sd.id, c.num + 1, s⟩) (d := 5141) (hR.trans ?_) ha rfl (fun p h j => (updE_ne h).trans ((updE_ne h).trans (rowA_ne h))) rfl rfl rfl rfl rfl rfl rfl fun q hq j hj => (neH.sh _ j hj).le
     rw [if_pos rfl, show raiseS sd (c.num + 1) = ⟨sd.id, c.num + 1, s⟩ from (if_neg hc).trans (by rw [q])]; rfl
 | false =>
   obtain ⟨⟨i, b⟩, hP⟩ : ∃ P, plcH c.num sd.held 0 = P := ⟨_, rfl⟩
   have hle := plc_le (id := c.num) (L := sd.held) (k := 0)
   rw [hP, Nat.zero_add] at hle
   dsimp only at hle
   obtain ⟨hle1, _, _⟩ := hle
   have hR2 : R = (L.set 4 (addSd sd (newH c now draw) i), true, 0) := by rw [hR, hP]; rfl
   clear hR
   have w3 : IntKind.i64.wrap ((i : Int) + 1) = ((i + 1 : Nat) : Int) := (IntWalk.i64_in _ (by omega)).trans (by omega)
   obtain ⟨tr, hT⟩ : ∃ r, newT 2 3 2 now draw = r := ⟨_, rfl⟩
   refine sem_step (wd := 1) (Q := mkQ (LMa g0)) (by decide) tysOk (q_of (LMa_ok g0)) mixed ?_
   repeat' (first | (simp only [w2]) | (apply And.intro <;> intro hc <;> (first | exact Bool.noConfusion hc | (exfalso; first | exact absurd rfl hc | omega) | (simp only [zb0, ne_eq, not_true_eq_false] at hc <;> first | exact absurd rfl hc | (exfalso; first | exact absurd rfl hc | omega) | skip) | skip)) | (refine And.intro zp1 ?_) | (apply And.intro) | (intro s hs; skip) | (refine Exists.intro _ (And.intro ⟨rfl, rfl, rfl⟩ ?_)))
   refine sem_step (wd := 1) (Q := mkQ (LMa g0)) (by decide) tysOk (q_of (LMa_ok g0)) mixed ?_
   repeat' (first | (simp only [w2]) | (apply And.intro <;> intro hc <;> (first | exact Bool.noConfusion hc | (exfalso; first | exact absurd rfl hc | omega) | (simp only [zb0, ne_eq, not_true_eq_false] at hc <;> first | exact absurd rfl hc | (exfalso; first | exact absurd rfl hc | omega) | skip) | skip)) | (refine And.intro zp1 ?_) | (apply And.intro) | (intro s hs; (have q : tr = s := hT.symm.trans hs.symm; clear hs; subst q)) | (refine Exists.intro _ (And.intro ⟨rfl, rfl, rfl⟩ ?_)))
   refine sem_step (wd := 1) (Q := mkQ (LMa g0)) (by decide) tysOk (q_of (LMa_ok g0)) mixed ?_
   repeat' (first | (simp only [w2]) | (apply And.intro <;> intro hc <;> (first | exact Bool.noConfusion hc | (exfalso; first | exact absurd rfl hc | omega) | (simp only [zb0, ne_eq, not_true_eq_false] at hc <;> first | exact absurd rfl hc | (exfalso; first | exact absurd rfl hc | omega) | skip) | skip)) | (refine And.intro zp1 ?_) | (apply And.intro) | (intro s hs; skip) | (refine Exists.intro _ (And.intro ⟨rfl, rfl, rfl⟩ ?_)))
   refine sem_step (wd := 1) (Q := mkQ (LMa g0)) (by decide) tysOk (q_of (LMa_ok g0)) mixed ?_
   repeat' (first | (simp only [w2, w3]) | (apply And.intro <;> intro hc <;> (first | exact Bool.noConfusion hc | (exfalso; first | exact absurd rfl hc | omega) | (simp only [zb0, ne_eq, not_true_eq_false] at hc <;> first | exact absurd rfl hc | (exfalso; first | exact absurd rfl hc | omega) | skip) | skip)) | (refine And.intro zp1 ?_) | (apply And.intro) | (intro s hs; (have q := rd_plc hs (toN_row0 neH_rd _) hP; clear hs; subst q)) | (refine Exists.intro _ (And.intro ⟨rfl, rfl, rfl⟩ ?_)))
   . exact fun _ _ => ⟨rfl, okD_sl _⟩
   . exact Eq.mpr (congrArg (fun z : List Hel => z.length <= 9223372036854775807) (toN_row0 neH_rd _)) (by omega)
   refine sem_step (wd := 1) (Q := mkQ (LMa g0)) (by decide) tysOk (q_of (LMa_ok g0)) mixed ?_
   repeat' (first | (simp only [w2, w3]) | (apply And.intro <;> intro hc <;> (first | exact Bool.noConfusion hc | (exfalso; first | exact absurd rfl hc | omega) | (simp only [zb0, ne_eq, not_true_eq_false] at hc <;> first | exact absurd rfl hc | (exfalso; first | exact absurd rfl hc | omega) | skip) | skip)) | (refine And.intro zp1 ?_) | (apply And.intro) | (intro s hs; skip) | (refine Exists.intro _ (And.intro ⟨rfl, rfl, rfl⟩ ?_)))
   refine sem_step (wd := 1) (Q := mkQ (LMa g0)) (by decide) tysOk (q_of (LMa_ok g0)) mixed ?_
   repeat' (first | (simp only [w2, w3]) | (apply And.intro <;> intro hc <;> (first | exact Bool.noConfusion hc | (exfalso; first | exact absurd rfl hc | omega) | (simp only [zb0, ne_eq, not_true_eq_false] at hc <;> first | exact absurd rfl hc | (exfalso; first | exact absurd rfl hc | omega) | skip) | skip)) | (refine And.intro zp1 ?_) | (apply And.intro) | (intro s hs; skip) | (refine Exists.intro _ (And.intro ⟨rfl, rfl, rfl⟩ ?_)))
   refine sem_exec (wd := 1) (Q := mkQ (LMa g0)) (by decide) tysOk (q_of (LMa_ok g0)) mixed ?_
   repeat' (first | (simp only [w2, w3]) | (apply And.intro <;> intro hc <;> (first | exact Bool.noConfusion hc | (exfalso; first | exact absurd rfl hc | omega) | (simp only [zb0, ne_eq, not_true_eq_false] at hc <;> first | exact absurd rfl hc | (exfalso; first | exact absurd rfl hc | omega) | skip) | skip)) | (refine And.intro zp1 ?_) | (apply And.intro) | (intro s hs; skip) | (refine Exists.intro _ (And.intro ⟨rfl, rfl, rfl⟩ ?_)))
   conv => whnf
   have hAl : (addSd sd (newH c now draw) i).held.length = sd.held.length + 1 := insA_len hle1
   refine fin_acc (s := addSd sd (newH c now draw) i) (d := 44) hR2 ha rfl (fun p h j => (updE_ne h).trans (rowA_ne h)) rfl rfl (by rw [hAl]; rfl) rfl rfl hAl.symm rfl fun q hq j hj => ?_
   rw [hAl] at hq
   show LeC _ _ (rowN neH (insA i (newH c now draw) sd.held) q j)
   refine ins_cells (r := rowN neH sd.held) hle1 ?_ hq (fun h => ?_) (fun h => ?_) (fun h => ?_)
   . show min (sd.held.length + 1 - i) (sd.held.length + 1 - (i + 1)) = _
     omega
   . rw [show rowN neH (insA i (newH c now draw) sd.held) q j = rowN neH sd.held q j from congrArg (fun z => neH.cell z j) (insA_lt hle1 h)]
     exact (neH.sh _ j hj).le
   . subst h
     rw [show rowN neH (insA q (newH c now draw) sd.held) q j = neH.cell (newH c now draw) j from congrArg (fun z => neH.cell z j) (insA_eq hle1)]
     have e0 : newH c now draw = ⟨c.num, c.data, tr.1, if 1099511627776 < now + 20 then 1099511627776 else now + 20⟩ := by unfold newH; rw [hT]
     rw [e0]
     iterate 11 (rcases j with _ | j; · first | exact leC_int rfl | exact leC_bool rfl | exact leC_os_sl rfl rfl rfl (by first | rfl | exact Nat.zero_add _) (by first | exact Nat.le_refl _ | (simp; done)) fun q hq j hj => leC_cell (E := eB) (congrArg (fun z => c.data.getD z default) (Nat.zero_add q)))
     exact absurd hj (by omega)
   . rw [show rowN neH (insA i (newH c now draw) sd.held) q j = rowN neH sd.held (q - 1) j from congrArg (fun z => neH.cell z j) (insA_gt hle1 h)]
     exact (neH.sh _ j hj).le
theorem acc3_5 (g0 : Nat) (L : List Sed) (a : Nat) (sd : Sed) (now : Int) (c : Cas) (deaf : Bool) (draw : Int) (hI : AcJ L a sd now c draw) (R : List Sed × Bool × Int) (hR : R = (L.set a (if deaf = true then raiseS sd (c.num + 1) else addSd sd (newH c now draw) (plcH c.num sd.held 0).1), !deaf, 0)) (a3 : a = 5) :
 Sem Try.prog Try.f11.ntmps 0 (dropC 11 (Try.f11.body.getD Code.ret)) (SB L a sd now c deaf draw ()).fr (SB L a sd now c deaf draw ()).H (SB L a sd now c deaf draw ()).nx (endH T Try.f11.results.toList fun x H _ => FinN (some R.1.length) (encAc R) (entN neS 78 R.1) x H) := by
 obtain ⟨ha, hn, hk, hh, hnum, hd, hnow, hdr⟩ := hI
 unfold SB
 subst a3
 have w1 : IntKind.i64.wrap (c.num + 1) = c.num + 1 := IntWalk.i64_in _ (by omega)
 have w2 : IntKind.i64.wrap (now + 20) = now + 20 := IntWalk.i64_in _ (by omega)
 cases deaf with
 | true =>
   refine sem_step (wd := 1024) (Q := mkQ (LMa g0)) (by decide) tysOk (q_of (LMa_ok g0)) mixed ?_
   repeat' (first | (simp only [w1]) | (apply And.intro <;> intro hc <;> (first | exact Bool.noConfusion hc | (exfalso; first | exact absurd rfl hc | omega) | (simp only [zb0, ne_eq, not_true_eq_false] at hc <;> first | exact absurd rfl hc | (exfalso; first | exact absurd rfl hc | omega) | skip) | skip)) | (refine And.intro zp1 ?_) | (apply And.intro) | (intro s hs; skip) | (refine Exists.intro _ (And.intro ⟨rfl, rfl, rfl⟩ ?_)))
   . exact rfl
   . conv => whnf
     refine fin_acc (s := sd) (d := 2) (hR.trans ?_) ha rfl (fun p h j => rowA_ne h) rfl rfl rfl rfl rfl rfl rfl fun q hq j hj => (neH.sh _ j hj).le
     rw [if_pos rfl, show raiseS sd (c.num + 1) = sd from if_pos hc]; rfl
   . exact ⟨rfl, okD_sl _⟩
   . exact Eq.mpr (congrArg KpI (toN_row0 neH_rd _)) hk
   . conv => whnf
     have q : sd.held.filter (wantB (some (c.num + 1))) = s := (hs.trans (by rw [toN_row0 neH_rd])).symm
     clear hs
     refine fin_acc (s := ⟨sd.id, c.num + 1, s⟩) (d := 5141) (hR.trans ?_) ha rfl (fun p h j => (updE_ne h).trans ((updE_ne h).trans (rowA_ne h))) rfl rfl rfl rfl rfl rfl rfl fun q hq j hj => (neH.sh _ j hj).le
     rw [if_pos rfl, show raiseS sd (c.num + 1) = ⟨sd.id, c.num + 1, s⟩ from (if_neg hc).trans (by rw [q])]; rfl
 | false =>
   obtain ⟨⟨i, b⟩, hP⟩ : ∃ P, plcH c.num sd.held 0 = P := ⟨_, rfl⟩
   have hle := plc_le (id := c.num) (L := sd.held) (k := 0)
   rw [hP, Nat.zero_add] at hle
   dsimp only at hle
   obtain ⟨hle1, _, _⟩ := hle
   have hR2 : R = (L.set 5 (addSd sd (newH c now draw) i), true, 0) := by rw [hR, hP]; rfl
   clear hR
   have w3 : IntKind.i64.wrap ((i : Int) + 1) = ((i + 1 : Nat) : Int) := (IntWalk.i64_in _ (by omega)).trans (by omega)
   obtain ⟨tr, hT⟩ : ∃ r, newT 2 3 2 now draw = r := ⟨_, rfl⟩
   refine sem_step (wd := 1) (Q := mkQ (LMa g0)) (by decide) tysOk (q_of (LMa_ok g0)) mixed ?_
   repeat' (first | (simp only [w2]) | (apply And.intro <;> intro hc <;> (first | exact Bool.noConfusion hc | (exfalso; first | exact absurd rfl hc | omega) | (simp only [zb0, ne_eq, not_true_eq_false] at hc <;> first | exact absurd rfl hc | (exfalso; first | exact absurd rfl hc | omega) | skip) | skip)) | (refine And.intro zp1 ?_) | (apply And.intro) | (intro s hs; skip) | (refine Exists.intro _ (And.intro ⟨rfl, rfl, rfl⟩ ?_)))
   refine sem_step (wd := 1) (Q := mkQ (LMa g0)) (by decide) tysOk (q_of (LMa_ok g0)) mixed ?_
   repeat' (first | (simp only [w2]) | (apply And.intro <;> intro hc <;> (first | exact Bool.noConfusion hc | (exfalso; first | exact absurd rfl hc | omega) | (simp only [zb0, ne_eq, not_true_eq_false] at hc <;> first | exact absurd rfl hc | (exfalso; first | exact absurd rfl hc | omega) | skip) | skip)) | (refine And.intro zp1 ?_) | (apply And.intro) | (intro s hs; (have q : tr = s := hT.symm.trans hs.symm; clear hs; subst q)) | (refine Exists.intro _ (And.intro ⟨rfl, rfl, rfl⟩ ?_)))
   refine sem_step (wd := 1) (Q := mkQ (LMa g0)) (by decide) tysOk (q_of (LMa_ok g0)) mixed ?_
   repeat' (first | (simp only [w2]) | (apply And.intro <;> intro hc <;> (first | exact Bool.noConfusion hc | (exfalso; first | exact absurd rfl hc | omega) | (simp only [zb0, ne_eq, not_true_eq_false] at hc <;> first | exact absurd rfl hc | (exfalso; first | exact absurd rfl hc | omega) | skip) | skip)) | (refine And.intro zp1 ?_) | (apply And.intro) | (intro s hs; skip) | (refine Exists.intro _ (And.intro ⟨rfl, rfl, rfl⟩ ?_)))
   refine sem_step (wd := 1) (Q := mkQ (LMa g0)) (by decide) tysOk (q_of (LMa_ok g0)) mixed ?_
   repeat' (first | (simp only [w2, w3]) | (apply And.intro <;> intro hc <;> (first | exact Bool.noConfusion hc | (exfalso; first | exact absurd rfl hc | omega) | (simp only [zb0, ne_eq, not_true_eq_false] at hc <;> first | exact absurd rfl hc | (exfalso; first | exact absurd rfl hc | omega) | skip) | skip)) | (refine And.intro zp1 ?_) | (apply And.intro) | (intro s hs; (have q := rd_plc hs (toN_row0 neH_rd _) hP; clear hs; subst q)) | (refine Exists.intro _ (And.intro ⟨rfl, rfl, rfl⟩ ?_)))
   . exact fun _ _ => ⟨rfl, okD_sl _⟩
   . exact Eq.mpr (congrArg (fun z : List Hel => z.length <= 9223372036854775807) (toN_row0 neH_rd _)) (by omega)
   refine sem_step (wd := 1) (Q := mkQ (LMa g0)) (by decide) tysOk (q_of (LMa_ok g0)) mixed ?_
   repeat' (first | (simp only [w2, w3]) | (apply And.intro <;> intro hc <;> (first | exact Bool.noConfusion hc | (exfalso; first | exact absurd rfl hc | omega) | (simp only [zb0, ne_eq, not_true_eq_false] at hc <;> first | exact absurd rfl hc | (exfalso; first | exact absurd rfl hc | omega) | skip) | skip)) | (refine And.intro zp1 ?_) | (apply And.intro) | (intro s hs; skip) | (refine Exists.intro _ (And.intro ⟨rfl, rfl, rfl⟩ ?_)))
   refine sem_step (wd := 1) (Q := mkQ (LMa g0)) (by decide) tysOk (q_of (LMa_ok g0)) mixed ?_
   repeat' (first | (simp only [w2, w3]) | (apply And.intro <;> intro hc <;> (first | exact Bool.noConfusion hc | (exfalso; first | exact absurd rfl hc | omega) | (simp only [zb0, ne_eq, not_true_eq_false] at hc <;> first | exact absurd rfl hc | (exfalso; first | exact absurd rfl hc | omega) | skip) | skip)) | (refine And.intro zp1 ?_) | (apply And.intro) | (intro s hs; skip) | (refine Exists.intro _ (And.intro ⟨rfl, rfl, rfl⟩ ?_)))
   refine sem_exec (wd := 1) (Q := mkQ (LMa g0)) (by decide) tysOk (q_of (LMa_ok g0)) mixed ?_
   repeat' (first | (simp only [w2, w3]) | (apply And.intro <;> intro hc <;> (first | exact Bool.noConfusion hc | (exfalso; first | exact absurd rfl hc | omega) | (simp only [zb0, ne_eq, not_true_eq_false] at hc <;> first | exact absurd rfl hc | (exfalso; first | exact absurd rfl hc | omega) | skip) | skip)) | (refine And.intro zp1 ?_) | (apply And.intro) | (intro s hs; skip) | (refine Exists.intro _ (And.intro ⟨rfl, rfl, rfl⟩ ?_)))
   conv => whnf
   have hAl : (addSd sd (newH c now draw) i).held.length = sd.held.length + 1 := insA_len hle1
   refine fin_acc (s := addSd sd (newH c now draw) i) (d := 44) hR2 ha rfl (fun p h j => (updE_ne h).trans (rowA_ne h)) rfl rfl (by rw [hAl]; rfl) rfl rfl hAl.symm rfl fun q hq j hj => ?_
   rw [hAl] at hq
   show LeC _ _ (rowN neH (insA i (newH c now draw) sd.held) q j)
   refine ins_cells (r := rowN neH sd.held) hle1 ?_ hq (fun h => ?_) (fun h => ?_) (fun h => ?_)
   . show min (sd.held.length + 1 - i) (sd.held.length + 1 - (i + 1)) = _
     omega
   . rw [show rowN neH (insA i (newH c now draw) sd.held) q j = rowN neH sd.held q j from congrArg (fun z => neH.cell z j) (insA_lt hle1 h)]
     exact (neH.sh _ j hj).le
   . subst h
     rw [show rowN neH (insA q (newH c now draw) sd.held) q j = neH.cell (newH c now draw) j from congrArg (fun z => neH.cell z j) (insA_eq hle1)]
     have e0 : newH c now draw = ⟨c.num, c.data, tr.1, if 1099511627776 < now + 20 then 1099511627776 else now + 20⟩ := by unfold newH; rw [hT]
     rw [e0]
     iterate 11 (rcases j with _ | j; · first | exact leC_int rfl | exact leC_bool rfl | exact leC_os_sl rfl rfl rfl (by first | rfl | exact Nat.zero_add _) (by first | exact Nat.le_refl _ | (simp; done)) fun q hq j hj => leC_cell (E := eB) (congrArg (fun z => c.data.getD z default) (Nat.zero_add q)))
     exact absurd hj (by omega)
   . rw [show rowN neH (insA i (newH c now draw) sd.held) q j = rowN neH sd.held (q - 1) j from congrArg (fun z => neH.cell z j) (insA_gt hle1 h)]
     exact (neH.sh _ j hj).le
theorem acc3_6 (g0 : Nat) (L : List Sed) (a : Nat) (sd : Sed) (now : Int) (c : Cas) (deaf : Bool) (draw : Int) (hI : AcJ L a sd now c draw) (R : List Sed × Bool × Int) (hR : R = (L.set a (if deaf = true then raiseS sd (c.num + 1) else addSd sd (newH c now draw) (plcH c.num sd.held 0).1), !deaf, 0)) (a3 : a = 6) :
 Sem Try.prog Try.f11.ntmps 0 (dropC 11 (Try.f11.body.getD Code.ret)) (SB L a sd now c deaf draw ()).fr (SB L a sd now c deaf draw ()).H (SB L a sd now c deaf draw ()).nx (endH T Try.f11.results.toList fun x H _ => FinN (some R.1.length) (encAc R) (entN neS 78 R.1) x H) := by
 obtain ⟨ha, hn, hk, hh, hnum, hd, hnow, hdr⟩ := hI
 unfold SB
 subst a3
 have w1 : IntKind.i64.wrap (c.num + 1) = c.num + 1 := IntWalk.i64_in _ (by omega)
 have w2 : IntKind.i64.wrap (now + 20) = now + 20 := IntWalk.i64_in _ (by omega)
 cases deaf with
 | true =>
   refine sem_step (wd := 1024) (Q := mkQ (LMa g0)) (by decide) tysOk (q_of (LMa_ok g0)) mixed ?_
   repeat' (first | (simp only [w1]) | (apply And.intro <;> intro hc <;> (first | exact Bool.noConfusion hc | (exfalso; first | exact absurd rfl hc | omega) | (simp only [zb0, ne_eq, not_true_eq_false] at hc <;> first | exact absurd rfl hc | (exfalso; first | exact absurd rfl hc | omega) | skip) | skip)) | (refine And.intro zp1 ?_) | (apply And.intro) | (intro s hs; skip) | (refine Exists.intro _ (And.intro ⟨rfl, rfl, rfl⟩ ?_)))
   . exact rfl
   . conv => whnf
     refine fin_acc (s := sd) (d := 2) (hR.trans ?_) ha rfl (fun p h j => rowA_ne h) rfl rfl rfl rfl rfl rfl rfl fun q hq j hj => (neH.sh _ j hj).le
     rw [if_pos rfl, show raiseS sd (c.num + 1) = sd from if_pos hc]; rfl
   . exact ⟨rfl, okD_sl _⟩
   . exact Eq.mpr (congrArg KpI (toN_row0 neH_rd _)) hk
   . conv => whnf
     have q : sd.held.filter (wantB (some (c.num + 1))) = s := (hs.trans (by rw [toN_row0 neH_rd])).symm
     clear hs
     refine fin_acc (s := ⟨sd.id, c.num + 1, s⟩) (d := 5141) (hR.trans ?_) ha rfl (fun p h j => (updE_ne h).trans ((updE_ne h).trans (rowA_ne h))) rfl rfl rfl rfl rfl rfl rfl fun q hq j hj => (neH.sh _ j hj).le
     rw [if_pos rfl, show raiseS sd (c.num + 1) = ⟨sd.id, c.num + 1, s⟩ from (if_neg hc).trans (by rw [q])]; rfl
 | false =>
   obtain ⟨⟨i, b⟩, hP⟩ : ∃ P, plcH c.num sd.held 0 = P := ⟨_, rfl⟩
   have hle := plc_le (id := c.num) (L := sd.held) (k := 0)
   rw [hP, Nat.zero_add] at hle
   dsimp only at hle
   obtain ⟨hle1, _, _⟩ := hle
   have hR2 : R = (L.set 6 (addSd sd (newH c now draw) i), true, 0) := by rw [hR, hP]; rfl
   clear hR
   have w3 : IntKind.i64.wrap ((i : Int) + 1) = ((i + 1 : Nat) : Int) := (IntWalk.i64_in _ (by omega)).trans (by omega)
   obtain ⟨tr, hT⟩ : ∃ r, newT 2 3 2 now draw = r := ⟨_, rfl⟩
   refine sem_step (wd := 1) (Q := mkQ (LMa g0)) (by decide) tysOk (q_of (LMa_ok g0)) mixed ?_
   repeat' (first | (simp only [w2]) | (apply And.intro <;> intro hc <;> (first | exact Bool.noConfusion hc | (exfalso; first | exact absurd rfl hc | omega) | (simp only [zb0, ne_eq, not_true_eq_false] at hc <;> first | exact absurd rfl hc | (exfalso; first | exact absurd rfl hc | omega) | skip) | skip)) | (refine And.intro zp1 ?_) | (apply And.intro) | (intro s hs; skip) | (refine Exists.intro _ (And.intro ⟨rfl, rfl, rfl⟩ ?_)))
   refine sem_step (wd := 1) (Q := mkQ (LMa g0)) (by decide) tysOk (q_of (LMa_ok g0)) mixed ?_
   repeat' (first | (simp only [w2]) | (apply And.intro <;> intro hc <;> (first | exact Bool.noConfusion hc | (exfalso; first | exact absurd rfl hc | omega) | (simp only [zb0, ne_eq, not_true_eq_false] at hc <;> first | exact absurd rfl hc | (exfalso; first | exact absurd rfl hc | omega) | skip) | skip)) | (refine And.intro zp1 ?_) | (apply And.intro) | (intro s hs; (have q : tr = s := hT.symm.trans hs.symm; clear hs; subst q)) | (refine Exists.intro _ (And.intro ⟨rfl, rfl, rfl⟩ ?_)))
   refine sem_step (wd := 1) (Q := mkQ (LMa g0)) (by decide) tysOk (q_of (LMa_ok g0)) mixed ?_
   repeat' (first | (simp only [w2]) | (apply And.intro <;> intro hc <;> (first | exact Bool.noConfusion hc | (exfalso; first | exact absurd rfl hc | omega) | (simp only [zb0, ne_eq, not_true_eq_false] at hc <;> first | exact absurd rfl hc | (exfalso; first | exact absurd rfl hc | omega) | skip) | skip)) | (refine And.intro zp1 ?_) | (apply And.intro) | (intro s hs; skip) | (refine Exists.intro _ (And.intro ⟨rfl, rfl, rfl⟩ ?_)))
   refine sem_step (wd := 1) (Q := mkQ (LMa g0)) (by decide) tysOk (q_of (LMa_ok g0)) mixed ?_
   repeat' (first | (simp only [w2, w3]) | (apply And.intro <;> intro hc <;> (first | exact Bool.noConfusion hc | (exfalso; first | exact absurd rfl hc | omega) | (simp only [zb0, ne_eq, not_true_eq_false] at hc <;> first | exact absurd rfl hc | (exfalso; first | exact absurd rfl hc | omega) | skip) | skip)) | (refine And.intro zp1 ?_) | (apply And.intro) | (intro s hs; (have q := rd_plc hs (toN_row0 neH_rd _) hP; clear hs; subst q)) | (refine Exists.intro _ (And.intro ⟨rfl, rfl, rfl⟩ ?_)))
   . exact fun _ _ => ⟨rfl, okD_sl _⟩
   . exact Eq.mpr (congrArg (fun z : List Hel => z.length <= 9223372036854775807) (toN_row0 neH_rd _)) (by omega)
   refine sem_step (wd := 1) (Q := mkQ (LMa g0)) (by decide) tysOk (q_of (LMa_ok g0)) mixed ?_
   repeat' (first | (simp only [w2, w3]) | (apply And.intro <;> intro hc <;> (first | exact Bool.noConfusion hc | (exfalso; first | exact absurd rfl hc | omega) | (simp only [zb0, ne_eq, not_true_eq_false] at hc <;> first | exact absurd rfl hc | (exfalso; first | exact absurd rfl hc | omega) | skip) | skip)) | (refine And.intro zp1 ?_) | (apply And.intro) | (intro s hs; skip) | (refine Exists.intro _ (And.intro ⟨rfl, rfl, rfl⟩ ?_)))
   refine sem_step (wd := 1) (Q := mkQ (LMa g0)) (by decide) tysOk (q_of (LMa_ok g0)) mixed ?_
   repeat' (first | (simp only [w2, w3]) | (apply And.intro <;> intro hc <;> (first | exact Bool.noConfusion hc | (exfalso; first | exact absurd rfl hc | omega) | (simp only [zb0, ne_eq, not_true_eq_false] at hc <;> first | exact absurd rfl hc | (exfalso; first | exact absurd rfl hc | omega) | skip) | skip)) | (refine And.intro zp1 ?_) | (apply And.intro) | (intro s hs; skip) | (refine Exists.intro _ (And.intro ⟨rfl, rfl, rfl⟩ ?_)))
   refine sem_exec (wd := 1) (Q := mkQ (LMa g0)) (by decide) tysOk (q_of (LMa_ok g0)) mixed ?_
   repeat' (first | (simp only [w2, w3]) | (apply And.intro <;> intro hc <;> (first | exact Bool.noConfusion hc | (exfalso; first | exact absurd rfl hc | omega) | (simp only [zb0, ne_eq, not_true_eq_false] at hc <;> first | exact absurd rfl hc | (exfalso; first | exact absurd rfl hc | omega) | skip) | skip)) | (refine And.intro zp1 ?_) | (apply And.intro) | (intro s hs; skip) | (refine Exists.intro _ (And.intro ⟨rfl, rfl, rfl⟩ ?_)))
   conv => whnf
   have hAl : (addSd sd (newH c now draw) i).held.length = sd.held.length + 1 := insA_len hle1
   refine fin_acc (s := addSd sd (newH c now draw) i) (d := 44) hR2 ha rfl (fun p h j => (updE_ne h).trans (rowA_ne h)) rfl rfl (by rw [hAl]; rfl) rfl rfl hAl.symm rfl fun q hq j hj => ?_
   rw [hAl] at hq
   show LeC _ _ (rowN neH (insA i (newH c now draw) sd.held) q j)
   refine ins_cells (r := rowN neH sd.held) hle1 ?_ hq (fun h => ?_) (fun h => ?_) (fun h => ?_)
   . show min (sd.held.length + 1 - i) (sd.held.length + 1 - (i + 1)) = _
     omega
   . rw [show rowN neH (insA i (newH c now draw) sd.held) q j = rowN neH sd.held q j from congrArg (fun z => neH.cell z j) (insA_lt hle1 h)]
     exact (neH.sh _ j hj).le
   . subst h
     rw [show rowN neH (insA q (newH c now draw) sd.held) q j = neH.cell (newH c now draw) j from congrArg (fun z => neH.cell z j) (insA_eq hle1)]
     have e0 : newH c now draw = ⟨c.num, c.data, tr.1, if 1099511627776 < now + 20 then 1099511627776 else now + 20⟩ := by unfold newH; rw [hT]
     rw [e0]
     iterate 11 (rcases j with _ | j; · first | exact leC_int rfl | exact leC_bool rfl | exact leC_os_sl rfl rfl rfl (by first | rfl | exact Nat.zero_add _) (by first | exact Nat.le_refl _ | (simp; done)) fun q hq j hj => leC_cell (E := eB) (congrArg (fun z => c.data.getD z default) (Nat.zero_add q)))
     exact absurd hj (by omega)
   . rw [show rowN neH (insA i (newH c now draw) sd.held) q j = rowN neH sd.held (q - 1) j from congrArg (fun z => neH.cell z j) (insA_gt hle1 h)]
     exact (neH.sh _ j hj).le
theorem acc3_7 (g0 : Nat) (L : List Sed) (a : Nat) (sd : Sed) (now : Int) (c : Cas) (deaf : Bool) (draw : Int) (hI : AcJ L a sd now c draw) (R : List Sed × Bool × Int) (hR : R = (L.set a (if deaf = true then raiseS sd (c.num + 1) else addSd sd (newH c now draw) (plcH c.num sd.held 0).1), !deaf, 0)) (a3 : a = 7) :
 Sem Try.prog Try.f11.ntmps 0 (dropC 11 (Try.f11.body.getD Code.ret)) (SB L a sd now c deaf draw ()).fr (SB L a sd now c deaf draw ()).H (SB L a sd now c deaf draw ()).nx (endH T Try.f11.results.toList fun x H _ => FinN (some R.1.length) (encAc R) (entN neS 78 R.1) x H) := by
 obtain ⟨ha, hn, hk, hh, hnum, hd, hnow, hdr⟩ := hI
 unfold SB
 subst a3
 have w1 : IntKind.i64.wrap (c.num + 1) = c.num + 1 := IntWalk.i64_in _ (by omega)
 have w2 : IntKind.i64.wrap (now + 20) = now + 20 := IntWalk.i64_in _ (by omega)
 cases deaf with
 | true =>
   refine sem_step (wd := 1024) (Q := mkQ (LMa g0)) (by decide) tysOk (q_of (LMa_ok g0)) mixed ?_
   repeat' (first | (simp only [w1]) | (apply And.intro <;> intro hc <;> (first | exact Bool.noConfusion hc | (exfalso; first | exact absurd rfl hc | omega) | (simp only [zb0, ne_eq, not_true_eq_false] at hc <;> first | exact absurd rfl hc | (exfalso; first | exact absurd rfl hc | omega) | skip) | skip)) | (refine And.intro zp1 ?_) | (apply And.intro) | (intro s hs; skip) | (refine Exists.intro _ (And.intro ⟨rfl, rfl, rfl⟩ ?_)))
   . exact rfl
   . conv => whnf
     refine fin_acc (s := sd) (d := 2) (hR.trans ?_) ha rfl (fun p h j => rowA_ne h) rfl rfl rfl rfl rfl rfl rfl fun q hq j hj => (neH.sh _ j hj).le
     rw [if_pos rfl, show raiseS sd (c.num + 1) = sd from if_pos hc]; rfl
   . exact ⟨rfl, okD_sl _⟩
   . exact Eq.mpr (congrArg KpI (toN_row0 neH_rd _)) hk
   . conv => whnf
     have q : sd.held.filter (wantB (some (c.num + 1))) = s := (hs.trans (by rw [toN_row0 neH_rd])).symm
     clear hs
     refine fin_acc (s := ⟨sd.id, c.num + 1, s⟩) (d := 5141) (hR.trans ?_) ha rfl (fun p h j => (updE_ne h).trans ((updE_ne h).trans (rowA_ne h))) rfl rfl rfl rfl rfl rfl rfl fun q hq j hj => (neH.sh _ j hj).le
     rw [if_pos rfl, show raiseS sd (c.num + 1) = ⟨sd.id, c.num + 1, s⟩ from (if_neg hc).trans (by rw [q])]; rfl
 | false =>
   obtain ⟨⟨i, b⟩, hP⟩ : ∃ P, plcH c.num sd.held 0 = P := ⟨_, rfl⟩
   have hle := plc_le (id := c.num) (L := sd.held) (k := 0)
   rw [hP, Nat.zero_add] at hle
   dsimp only at hle
   obtain ⟨hle1, _, _⟩ := hle
   have hR2 : R = (L.set 7 (addSd sd (newH c now draw) i), true, 0) := by rw [hR, hP]; rfl
   clear hR
   have w3 : IntKind.i64.wrap ((i : Int) + 1) = ((i + 1 : Nat) : Int) := (IntWalk.i64_in _ (by omega)).trans (by omega)
   obtain ⟨tr, hT⟩ : ∃ r, newT 2 3 2 now draw = r := ⟨_, rfl⟩
   refine sem_step (wd := 1) (Q := mkQ (LMa g0)) (by decide) tysOk (q_of (LMa_ok g0)) mixed ?_
   repeat' (first | (simp only [w2]) | (apply And.intro <;> intro hc <;> (first | exact Bool.noConfusion hc | (exfalso; first | exact absurd rfl hc | omega) | (simp only [zb0, ne_eq, not_true_eq_false] at hc <;> first | exact absurd rfl hc | (exfalso; first | exact absurd rfl hc | omega) | skip) | skip)) | (refine And.intro zp1 ?_) | (apply And.intro) | (intro s hs; skip) | (refine Exists.intro _ (And.intro ⟨rfl, rfl, rfl⟩ ?_)))
   refine sem_step (wd := 1) (Q := mkQ (LMa g0)) (by decide) tysOk (q_of (LMa_ok g0)) mixed ?_
   repeat' (first | (simp only [w2]) | (apply And.intro <;> intro hc <;> (first | exact Bool.noConfusion hc | (exfalso; first | exact absurd rfl hc | omega) | (simp only [zb0, ne_eq, not_true_eq_false] at hc <;> first | exact absurd rfl hc | (exfalso; first | exact absurd rfl hc | omega) | skip) | skip)) | (refine And.intro zp1 ?_) | (apply And.intro) | (intro s hs; (have q : tr = s := hT.symm.trans hs.symm; clear hs; subst q)) | (refine Exists.intro _ (And.intro ⟨rfl, rfl, rfl⟩ ?_)))
   refine sem_step (wd := 1) (Q := mkQ (LMa g0)) (by decide) tysOk (q_of (LMa_ok g0)) mixed ?_
   repeat' (first | (simp only [w2]) | (apply And.intro <;> intro hc <;> (first | exact Bool.noConfusion hc | (exfalso; first | exact absurd rfl hc | omega) | (simp only [zb0, ne_eq, not_true_eq_false] at hc <;> first | exact absurd rfl hc | (exfalso; first | exact absurd rfl hc | omega) | skip) | skip)) | (refine And.intro zp1 ?_) | (apply And.intro) | (intro s hs; skip) | (refine Exists.intro _ (And.intro ⟨rfl, rfl, rfl⟩ ?_)))
   refine sem_step (wd := 1) (Q := mkQ (LMa g0)) (by decide) tysOk (q_of (LMa_ok g0)) mixed ?_
   repeat' (first | (simp only [w2, w3]) | (apply And.intro <;> intro hc <;> (first | exact Bool.noConfusion hc | (exfalso; first | exact absurd rfl hc | omega) | (simp only [zb0, ne_eq, not_true_eq_false] at hc <;> first | exact absurd rfl hc | (exfalso; first | exact absurd rfl hc | omega) | skip) | skip)) | (refine And.intro zp1 ?_) | (apply And.intro) | (intro s hs; (have q := rd_plc hs (toN_row0 neH_rd _) hP; clear hs; subst q)) | (refine Exists.intro _ (And.intro ⟨rfl, rfl, rfl⟩ ?_)))
   . exact fun _ _ => ⟨rfl, okD_sl _⟩
   . exact Eq.mpr (congrArg (fun z : List Hel => z.length <= 9223372036854775807) (toN_row0 neH_rd _)) (by omega)
   refine sem_step (wd := 1) (Q := mkQ (LMa g0)) (by decide) tysOk (q_of (LMa_ok g0)) mixed ?_
   repeat' (first | (simp only [w2, w3]) | (apply And.intro <;> intro hc <;> (first | exact Bool.noConfusion hc | (exfalso; first | exact absurd rfl hc | omega) | (simp only [zb0, ne_eq, not_true_eq_false] at hc <;> first | exact absurd rfl hc | (exfalso; first | exact absurd rfl hc | omega) | skip) | skip)) | (refine And.intro zp1 ?_) | (apply And.intro) | (intro s hs; skip) | (refine Exists.intro _ (And.intro ⟨rfl, rfl, rfl⟩ ?_)))
   refine sem_step (wd := 1) (Q := mkQ (LMa g0)) (by decide) tysOk (q_of (LMa_ok g0)) mixed ?_
   repeat' (first | (simp only [w2, w3]) | (apply And.intro <;> intro hc <;> (first | exact Bool.noConfusion hc | (exfalso; first | exact absurd rfl hc | omega) | (simp only [zb0, ne_eq, not_true_eq_false] at hc <;> first | exact absurd rfl hc | (exfalso; first | exact absurd rfl hc | omega) | skip) | skip)) | (refine And.intro zp1 ?_) | (apply And.intro) | (intro s hs; skip) | (refine Exists.intro _ (And.intro ⟨rfl, rfl, rfl⟩ ?_)))
   refine sem_exec (wd := 1) (Q := mkQ (LMa g0)) (by decide) tysOk (q_of (LMa_ok g0)) mixed ?_
   repeat' (first | (simp only [w2, w3]) | (apply And.intro <;> intro hc <;> (first | exact Bool.noConfusion hc | (exfalso; first | exact absurd rfl hc | omega) | (simp only [zb0, ne_eq, not_true_eq_false] at hc <;> first | exact absurd rfl hc | (exfalso; first | exact absurd rfl hc | omega) | skip) | skip)) | (refine And.intro zp1 ?_) | (apply And.intro) | (intro s hs; skip) | (refine Exists.intro _ (And.intro ⟨rfl, rfl, rfl⟩ ?_)))
   conv => whnf
   have hAl : (addSd sd (newH c now draw) i).held.length = sd.held.length + 1 := insA_len hle1
   refine fin_acc (s := addSd sd (newH c now draw) i) (d := 44) hR2 ha rfl (fun p h j => (updE_ne h).trans (rowA_ne h)) rfl rfl (by rw [hAl]; rfl) rfl rfl hAl.symm rfl fun q hq j hj => ?_
   rw [hAl] at hq
   show LeC _ _ (rowN neH (insA i (newH c now draw) sd.held) q j)
   refine ins_cells (r := rowN neH sd.held) hle1 ?_ hq (fun h => ?_) (fun h => ?_) (fun h => ?_)
   . show min (sd.held.length + 1 - i) (sd.held.length + 1 - (i + 1)) = _
     omega
   . rw [show rowN neH (insA i (newH c now draw) sd.held) q j = rowN neH sd.held q j from congrArg (fun z => neH.cell z j) (insA_lt hle1 h)]
     exact (neH.sh _ j hj).le
   . subst h
     rw [show rowN neH (insA q (newH c now draw) sd.held) q j = neH.cell (newH c now draw) j from congrArg (fun z => neH.cell z j) (insA_eq hle1)]
     have e0 : newH c now draw = ⟨c.num, c.data, tr.1, if 1099511627776 < now + 20 then 1099511627776 else now + 20⟩ := by unfold newH; rw [hT]
     rw [e0]
     iterate 11 (rcases j with _ | j; · first | exact leC_int rfl | exact leC_bool rfl | exact leC_os_sl rfl rfl rfl (by first | rfl | exact Nat.zero_add _) (by first | exact Nat.le_refl _ | (simp; done)) fun q hq j hj => leC_cell (E := eB) (congrArg (fun z => c.data.getD z default) (Nat.zero_add q)))
     exact absurd hj (by omega)
   . rw [show rowN neH (insA i (newH c now draw) sd.held) q j = rowN neH sd.held (q - 1) j from congrArg (fun z => neH.cell z j) (insA_gt hle1 h)]
     exact (neH.sh _ j hj).le
theorem acc3_8 (g0 : Nat) (L : List Sed) (a : Nat) (sd : Sed) (now : Int) (c : Cas) (deaf : Bool) (draw : Int) (hI : AcJ L a sd now c draw) (R : List Sed × Bool × Int) (hR : R = (L.set a (if deaf = true then raiseS sd (c.num + 1) else addSd sd (newH c now draw) (plcH c.num sd.held 0).1), !deaf, 0)) (a3 : a = 8) :
 Sem Try.prog Try.f11.ntmps 0 (dropC 11 (Try.f11.body.getD Code.ret)) (SB L a sd now c deaf draw ()).fr (SB L a sd now c deaf draw ()).H (SB L a sd now c deaf draw ()).nx (endH T Try.f11.results.toList fun x H _ => FinN (some R.1.length) (encAc R) (entN neS 78 R.1) x H) := by
 obtain ⟨ha, hn, hk, hh, hnum, hd, hnow, hdr⟩ := hI
 unfold SB
 subst a3
 have w1 : IntKind.i64.wrap (c.num + 1) = c.num + 1 := IntWalk.i64_in _ (by omega)
 have w2 : IntKind.i64.wrap (now + 20) = now + 20 := IntWalk.i64_in _ (by omega)
 cases deaf with
 | true =>
   refine sem_step (wd := 1024) (Q := mkQ (LMa g0)) (by decide) tysOk (q_of (LMa_ok g0)) mixed ?_
   repeat' (first | (simp only [w1]) | (apply And.intro <;> intro hc <;> (first | exact Bool.noConfusion hc | (exfalso; first | exact absurd rfl hc | omega) | (simp only [zb0, ne_eq, not_true_eq_false] at hc <;> first | exact absurd rfl hc | (exfalso; first | exact absurd rfl hc | omega) | skip) | skip)) | (refine And.intro zp1 ?_) | (apply And.intro) | (intro s hs; skip) | (refine Exists.intro _ (And.intro ⟨rfl, rfl, rfl⟩ ?_)))
   . exact rfl
   . conv => whnf
     refine fin_acc (s := sd) (d := 2) (hR.trans ?_) ha rfl (fun p h j => rowA_ne h) rfl rfl rfl rfl rfl rfl rfl fun q hq j hj => (neH.sh _ j hj).le
     rw [if_pos rfl, show raiseS sd (c.num + 1) = sd from if_pos hc]; rfl
   . exact ⟨rfl, okD_sl _⟩
   . exact Eq.mpr (congrArg KpI (toN_row0 neH_rd _)) hk
   . conv => whnf
     have q : sd.held.filter (wantB (some (c.num + 1))) = s := (hs.trans (by rw [toN_row0 neH_rd])).symm
     clear hs
     refine fin_acc (s := ⟨sd.id, c.num + 1, s⟩) (d := 5141) (hR.trans ?_) ha rfl (fun p h j => (updE_ne h).trans ((updE_ne h).trans (rowA_ne h))) rfl rfl rfl rfl rfl rfl rfl fun q hq j hj => (neH.sh _ j hj).le
     rw [if_pos rfl, show raiseS sd (c.num + 1) = ⟨sd.id, c.num + 1, s⟩ from (if_neg hc).trans (by rw [q])]; rfl
 | false =>
   obtain ⟨⟨i, b⟩, hP⟩ : ∃ P, plcH c.num sd.held 0 = P := ⟨_, rfl⟩
   have hle := plc_le (id := c.num) (L := sd.held) (k := 0)
   rw [hP, Nat.zero_add] at hle
   dsimp only at hle
   obtain ⟨hle1, _, _⟩ := hle
   have hR2 : R = (L.set 8 (addSd sd (newH c now draw) i), true, 0) := by rw [hR, hP]; rfl
   clear hR
   have w3 : IntKind.i64.wrap ((i : Int) + 1) = ((i + 1 : Nat) : Int) := (IntWalk.i64_in _ (by omega)).trans (by omega)
   obtain ⟨tr, hT⟩ : ∃ r, newT 2 3 2 now draw = r := ⟨_, rfl⟩
   refine sem_step (wd := 1) (Q := mkQ (LMa g0)) (by decide) tysOk (q_of (LMa_ok g0)) mixed ?_
   repeat' (first | (simp only [w2]) | (apply And.intro <;> intro hc <;> (first | exact Bool.noConfusion hc | (exfalso; first | exact absurd rfl hc | omega) | (simp only [zb0, ne_eq, not_true_eq_false] at hc <;> first | exact absurd rfl hc | (exfalso; first | exact absurd rfl hc | omega) | skip) | skip)) | (refine And.intro zp1 ?_) | (apply And.intro) | (intro s hs; skip) | (refine Exists.intro _ (And.intro ⟨rfl, rfl, rfl⟩ ?_)))
   refine sem_step (wd := 1) (Q := mkQ (LMa g0)) (by decide) tysOk (q_of (LMa_ok g0)) mixed ?_
   repeat' (first | (simp only [w2]) | (apply And.intro <;> intro hc <;> (first | exact Bool.noConfusion hc | (exfalso; first | exact absurd rfl hc | omega) | (simp only [zb0, ne_eq, not_true_eq_false] at hc <;> first | exact absurd rfl hc | (exfalso; first | exact absurd rfl hc | omega) | skip) | skip)) | (refine And.intro zp1 ?_) | (apply And.intro) | (intro s hs; (have q : tr = s := hT.symm.trans hs.symm; clear hs; subst q)) | (refine Exists.intro _ (And.intro ⟨rfl, rfl, rfl⟩ ?_)))
   refine sem_step (wd := 1) (Q := mkQ (LMa g0)) (by decide) tysOk (q_of (LMa_ok g0)) mixed ?_
   repeat' (first | (simp only [w2]) | (apply And.intro <;> intro hc <;> (first | exact Bool.noConfusion hc | (exfalso; first | exact absurd rfl hc | omega) | (simp only [zb0, ne_eq, not_true_eq_false] at hc <;> first | exact absurd rfl hc | (exfalso; first | exact absurd rfl hc | omega) | skip) | skip)) | (refine And.intro zp1 ?_) | (apply And.intro) | (intro s hs; skip) | (refine Exists.intro _ (And.intro ⟨rfl, rfl, rfl⟩ ?_)))
   refine sem_step (wd := 1) (Q := mkQ (LMa g0)) (by decide) tysOk (q_of (LMa_ok g0)) mixed ?_
   repeat' (first | (simp only [w2, w3]) | (apply And.intro <;> intro hc <;> (first | exact Bool.noConfusion hc | (exfalso; first | exact absurd rfl hc | omega) | (simp only [zb0, ne_eq, not_true_eq_false] at hc <;> first | exact absurd rfl hc | (exfalso; first | exact absurd rfl hc | omega) | skip) | skip)) | (refine And.intro zp1 ?_) | (apply And.intro) | (intro s hs; (have q := rd_plc hs (toN_row0 neH_rd _) hP; clear hs; subst q)) | (refine Exists.intro _ (And.intro ⟨rfl, rfl, rfl⟩ ?_)))
   . exact fun _ _ => ⟨rfl, okD_sl _⟩
   . exact Eq.mpr (congrArg (fun z : List Hel => z.length <= 9223372036854775807) (toN_row0 neH_rd _)) (by omega)
   refine sem_step (wd := 1) (Q := mkQ (LMa g0)) (by decide) tysOk (q_of (LMa_ok g0)) mixed ?_
   repeat' (first | (simp only [w2, w3]) | (apply And.intro <;> intro hc <;> (first | exact Bool.noConfusion hc | (exfalso; first | exact absurd rfl hc | omega) | (simp only [zb0, ne_eq, not_true_eq_false] at hc <;> first | exact absurd rfl hc | (exfalso; first | exact absurd rfl hc | omega) | skip) | skip)) | (refine And.intro zp1 ?_) | (apply And.intro) | (intro s hs; skip) | (refine Exists.intro _ (And.intro ⟨rfl, rfl, rfl⟩ ?_)))
   refine sem_step (wd := 1) (Q := mkQ (LMa g0)) (by decide) tysOk (q_of (LMa_ok g0)) mixed ?_
   repeat' (first | (simp only [w2, w3]) | (apply And.intro <;> intro hc <;> (first | exact Bool.noConfusion hc | (exfalso; first | exact absurd rfl hc | omega) | (simp only [zb0, ne_eq, not_true_eq_false] at hc <;> first | exact absurd rfl hc | (exfalso; first | exact absurd rfl hc | omega) | skip) | skip)) | (refine And.intro zp1 ?_) | (apply And.intro) | (intro s hs; skip) | (refine Exists.intro _ (And.intro ⟨rfl, rfl, rfl⟩ ?_)))
   refine sem_exec (wd := 1) (Q := mkQ (LMa g0)) (by decide) tysOk (q_of (LMa_ok g0)) mixed ?_
   repeat' (first | (simp only [w2, w3]) | (apply And.intro <;> intro hc <;> (first | exact Bool.noConfusion hc | (exfalso; first | exact absurd rfl hc | omega) | (simp only [zb0, ne_eq, not_true_eq_false] at hc <;> first | exact absurd rfl hc | (exfalso; first | exact absurd rfl hc | omega) | skip) | skip)) | (refine And.intro zp1 ?_) | (apply And.intro) | (intro s hs; skip) | (refine Exists.intro _ (And.intro ⟨rfl, rfl, rfl⟩ ?_)))
   conv => whnf
   have hAl : (addSd sd (newH c now draw) i).held.length = sd.held.length + 1 := insA_len hle1
   refine fin_acc (s := addSd sd (newH c now draw) i) (d := 44) hR2 ha rfl (fun p h j => (updE_ne h).trans (rowA_ne h)) rfl rfl (by rw [hAl]; rfl) rfl rfl hAl.symm rfl fun q hq j hj => ?_
   rw [hAl] at hq
   show LeC _ _ (rowN neH (insA i (newH c now draw) sd.held) q j)
   refine ins_cells (r := rowN neH sd.held) hle1 ?_ hq (fun h => ?_) (fun h => ?_) (fun h => ?_)
   . show min (sd.held.length + 1 - i) (sd.held.length + 1 - (i + 1)) = _
     omega
   . rw [show rowN neH (insA i (newH c now draw) sd.held) q j = rowN neH sd.held q j from congrArg (fun z => neH.cell z j) (insA_lt hle1 h)]
     exact (neH.sh _ j hj).le
   . subst h
     rw [show rowN neH (insA q (newH c now draw) sd.held) q j = neH.cell (newH c now draw) j from congrArg (fun z => neH.cell z j) (insA_eq hle1)]
     have e0 : newH c now draw = ⟨c.num, c.data, tr.1, if 1099511627776 < now + 20 then 1099511627776 else now + 20⟩ := by unfold newH; rw [hT]
     rw [e0]
     iterate 11 (rcases j with _ | j; · first | exact leC_int rfl | exact leC_bool rfl | exact leC_os_sl rfl rfl rfl (by first | rfl | exact Nat.zero_add _) (by first | exact Nat.le_refl _ | (simp; done)) fun q hq j hj => leC_cell (E := eB) (congrArg (fun z => c.data.getD z default) (Nat.zero_add q)))
     exact absurd hj (by omega)
   . rw [show rowN neH (insA i (newH c now draw) sd.held) q j = rowN neH sd.held (q - 1) j from congrArg (fun z => neH.cell z j) (insA_gt hle1 h)]
     exact (neH.sh _ j hj).le
theorem acc3 (g0 : Nat) (L : List Sed) (a : Nat) (sd : Sed) (now : Int) (c : Cas) (deaf : Bool) (draw : Int) (hI : AcJ L a sd now c draw) (R : List Sed × Bool × Int) (hR : R = (L.set a (if deaf = true then raiseS sd (c.num + 1) else addSd sd (newH c now draw) (plcH c.num sd.held 0).1), !deaf, 0)) :
 Sem Try.prog Try.f11.ntmps 0 (dropC 11 (Try.f11.body.getD Code.ret)) (SB L a sd now c deaf draw ()).fr (SB L a sd now c deaf draw ()).H (SB L a sd now c deaf draw ()).nx (endH T Try.f11.results.toList fun x H _ => FinN (some R.1.length) (encAc R) (entN neS 78 R.1) x H) := by
 have h : a = 0 \/ a = 1 \/ a = 2 \/ a = 3 \/ a = 4 \/ a = 5 \/ a = 6 \/ a = 7 \/ a = 8 := by have := hI.lt; have := hI.n; omega
 rcases h with h | h | h | h | h | h | h | h | h
 . exact acc3_0 g0 L a sd now c deaf draw hI R hR h
 . exact acc3_1 g0 L a sd now c deaf draw hI R hR h
 . exact acc3_2 g0 L a sd now c deaf draw hI R hR h
 . exact acc3_3 g0 L a sd now c deaf draw hI R hR h
 . exact acc3_4 g0 L a sd now c deaf draw hI R hR h
 . exact acc3_5 g0 L a sd now c deaf draw hI R hR h
 . exact acc3_6 g0 L a sd now c deaf draw hI R hR h
 . exact acc3_7 g0 L a sd now c deaf draw hI R hR h
 . exact acc3_8 g0 L a sd now c deaf draw hI R hR h
theorem acc2_0 (g0 : Nat) (L : List Sed) (a : Nat) (now : Int) (c : Cas) (deaf : Bool) (draw : Int) (hI : AcI L a now c draw) (R : List Sed × Bool × Int) (hR : R = (L.set a (accS (L.getD a default) now c deaf draw).1, (accS (L.getD a default) now c deaf draw).2, 0)) (a3 : a = 0) :
 Sem Try.prog Try.f11.ntmps 0 (dropC 7 (Try.f11.body.getD Code.ret)) (SA L a now c deaf draw ()).fr (SA L a now c deaf draw ()).H (SA L a now c deaf draw ()).nx (endH T Try.f11.results.toList fun x H _ => FinN (some R.1.length) (encAc R) (entN neS 78 R.1) x H) := by
 obtain ⟨ha, hn, hk, hh, hmn, hnum, hd, hnow, hdr⟩ := hI
 unfold SA
 rw [entG_A]
 obtain ⟨sd, es⟩ : ∃ s, L.getD a default = s := ⟨_, rfl⟩
 rw [es] at hk hh hmn hR ⊢
 subst a3
 refine sem_step (wd := 1) (Q := mkQ (LMa g0)) (by decide) tysOk (q_of (LMa_ok g0)) mixed ?_
 repeat' (first | (apply And.intro <;> intro hc <;> (first | exact Bool.noConfusion hc | (exfalso; first | exact absurd rfl hc | omega) | (simp only [zb0, ne_eq, not_true_eq_false] at hc <;> first | exact absurd rfl hc | (exfalso; first | exact absurd rfl hc | omega) | skip) | skip)) | (refine And.intro zp1 ?_) | (apply And.intro) | (intro s hs; skip) | (refine Exists.intro _ (And.intro ⟨rfl, rfl, rfl⟩ ?_)))
 refine sem_step (wd := 1) (Q := mkQ (LMa g0)) (by decide) tysOk (q_of (LMa_ok g0)) mixed ?_
 repeat' (first | (apply And.intro <;> intro hc <;> (first | exact Bool.noConfusion hc | (exfalso; first | exact absurd rfl hc | omega) | (simp only [zb0, ne_eq, not_true_eq_false] at hc <;> first | exact absurd rfl hc | (exfalso; first | exact absurd rfl hc | omega) | skip) | skip)) | (refine And.intro zp1 ?_) | (apply And.intro) | (intro s hs; skip) | (refine Exists.intro _ (And.intro ⟨rfl, rfl, rfl⟩ ?_)))
 . refine fin_acc (s := sd) (d := 2) (hR.trans ?_) ha rfl (fun p h j => rowA_ne h) rfl rfl rfl rfl rfl rfl rfl fun q hq j hj => (neH.sh _ j hj).le
   unfold accS
   rw [if_pos hc]
 have hge := hc
 have w1 : IntKind.i64.wrap (c.num - 31) = c.num - 31 := IntWalk.i64_in _ (by omega)
 obtain ⟨⟨i, b⟩, hP⟩ : ∃ P, plcH c.num sd.held 0 = P := ⟨_, rfl⟩
 have hle := plc_le (id := c.num) (L := sd.held) (k := 0)
 rw [hP, Nat.zero_add] at hle
 dsimp only at hle
 obtain ⟨hle1, hle2, _⟩ := hle
 cases b with
 | true =>
   have hil := hle2 rfl
   clear hle2
   have hR2 : R = (L.set 0 (hearS sd i), false, 0) := by
    rw [hR]; unfold accS; rw [if_neg (by omega), hP]; rfl
   refine sem_step (wd := 1) (Q := mkQ (LMa g0)) (by decide) tysOk (q_of (LMa_ok g0)) mixed ?_
   repeat' (first | (apply And.intro <;> intro hc <;> (first | exact Bool.noConfusion hc | (exfalso; first | exact absurd rfl hc | omega) | (simp only [zb0, ne_eq, not_true_eq_false] at hc <;> first | exact absurd rfl hc | (exfalso; first | exact absurd rfl hc | omega) | skip) | skip)) | (refine And.intro zp1 ?_) | (apply And.intro) | (intro s hs; (first | (have q := rd_plc hs (toN_row0 neH_rd _) hP; clear hs; subst q) | (have q := rd_hear hs (Nat.zero_add i); clear hs; subst q))) | (refine Exists.intro _ (And.intro ⟨rfl, rfl, rfl⟩ ?_)))
   . exact fun _ _ => ⟨rfl, okD_sl _⟩
   . exact Eq.mpr (congrArg (fun z : List Hel => z.length <= 9223372036854775807) (toN_row0 neH_rd _)) (by omega)
   conv => whnf
   have hLh : (hearS sd i).held.length = sd.held.length := List.length_set
   refine fin_acc (s := hearS sd i) (d := 2) hR2 ha rfl (fun p h j => rowA_ne h) rfl rfl (by rw [hLh]; rfl) rfl rfl hLh.symm rfl fun q hq j hj => hel_row hil hj
 | false =>
   clear hle2
   refine sem_step (wd := 1) (Q := mkQ (LMa g0)) (by decide) tysOk (q_of (LMa_ok g0)) mixed ?_
   repeat' (first | (apply And.intro <;> intro hc <;> (first | exact Bool.noConfusion hc | (exfalso; first | exact absurd rfl hc | omega) | (simp only [zb0, ne_eq, not_true_eq_false] at hc <;> first | exact absurd rfl hc | (exfalso; first | exact absurd rfl hc | omega) | skip) | skip)) | (refine And.intro zp1 ?_) | (apply And.intro) | (intro s hs; (first | (have q := rd_plc hs (toN_row0 neH_rd _) hP; clear hs; subst q))) | (refine Exists.intro _ (And.intro ⟨rfl, rfl, rfl⟩ ?_)))
   . exact fun _ _ => ⟨rfl, okD_sl _⟩
   . exact Eq.mpr (congrArg (fun z : List Hel => z.length <= 9223372036854775807) (toN_row0 neH_rd _)) (by omega)
   change Sem _ _ _ _ _ _ _ _
   refine sem_cut (wd := 1024) (Q := mkQ (LMa g0)) (by decide) tysOk (q_of (LMa_ok g0)) (mono_of (LMa_ok g0)) mixed (SB L 0 (raiseS sd (c.num - 31)) now c deaf draw) (by intro _; rfl) ?_ ?_
   . repeat' (first | (simp only [w1]) | (apply And.intro <;> intro hc <;> (first | exact Bool.noConfusion hc | (exfalso; first | exact absurd rfl hc | omega) | (simp only [zb0, ne_eq, not_true_eq_false] at hc <;> first | exact absurd rfl hc | (exfalso; first | exact absurd rfl hc | omega) | skip) | skip)) | (refine And.intro zp1 ?_) | (apply And.intro) | (intro s hs; skip) | (refine Exists.intro _ (And.intro ⟨rfl, rfl, rfl⟩ ?_)))
     . exact rfl
     . conv => whnf
       rw [show raiseS sd (c.num - 31) = sd from if_pos hc]
       exact ⟨(), [], rfl, ⟨leF_int rfl, leF_bool rfl, leF_int rfl, leF_ptr rfl, leF_c (leC_os rfl rfl), leF_ptr rfl, trivial⟩, ⟨⟨rfl, leN_varA fun j hj => (neC.sh _ j hj).le⟩, ⟨rfl, ⟨rfl, rfl, rfl, rfl, fun p hp j hj => rowA_le hj rfl⟩⟩, ⟨rfl, leN_entN⟩, trivial⟩⟩
     . exact ⟨rfl, okD_sl _⟩
     . exact Eq.mpr (congrArg KpI (toN_row0 neH_rd _)) hk
     . conv => whnf
       have q : sd.held.filter (wantB (some (c.num - 31))) = s := (hs.trans (by rw [toN_row0 neH_rd])).symm
       clear hs
       rw [show raiseS sd (c.num - 31) = ⟨sd.id, c.num - 31, s⟩ from (if_neg hc).trans (by rw [q])]
       refine ⟨(), [(2, some 4141)], rfl, ⟨leF_int rfl, leF_bool rfl, leF_int rfl, leF_ptr rfl, leF_c (leC_os rfl rfl), leF_ptr rfl, trivial⟩, ⟨⟨rfl, leN_varA fun j hj => (neC.sh _ j hj).le⟩, ⟨rfl, ⟨rfl, rfl, rfl, rfl, fun p hp j hj => ?_⟩⟩, ⟨rfl, leN_entN⟩, trivial⟩⟩
       have hj : j < 3 := hj
       refine rowA_to hj (fun h => (updE_ne h).trans ((updE_ne h).trans (rowA_ne h))) fun h => ?_
       subst h
       rcases j with _ | _ | _ | j
       . exact leC_int rfl
       . exact leC_int rfl
       . exact leC_os rfl rfl
       . omega
   . intro _
     refine acc3 g0 L 0 (raiseS sd (c.num - 31)) now c deaf draw ⟨ha, hn, raise_k hk, raise_h hh, hnum, hd, hnow, hdr⟩ R ?_
     rw [hR]
     unfold accS
     rw [if_neg hge, hP]
     cases deaf <;> rfl
theorem acc2_1 (g0 : Nat) (L : List Sed) (a : Nat) (now : Int) (c : Cas) (deaf : Bool) (draw : Int) (hI : AcI L a now c draw) (R : List Sed × Bool × Int) (hR : R = (L.set a (accS (L.getD a default) now c deaf draw).1, (accS (L.getD a default) now c deaf draw).2, 0)) (a3 : a = 1) :
 Sem Try.prog Try.f11.ntmps 0 (dropC 7 (Try.f11.body.getD Code.ret)) (SA L a now c deaf draw ()).fr (SA L a now c deaf draw ()).H (SA L a now c deaf draw ()).nx (endH T Try.f11.results.toList fun x H _ => FinN (some R.1.length) (encAc R) (entN neS 78 R.1) x H) := by
 obtain ⟨ha, hn, hk, hh, hmn, hnum, hd, hnow, hdr⟩ := hI
 unfold SA
 rw [entG_A]
 obtain ⟨sd, es⟩ : ∃ s, L.getD a default = s := ⟨_, rfl⟩
 rw [es] at hk hh hmn hR ⊢
 subst a3
 refine sem_step (wd := 1) (Q := mkQ (LMa g0)) (by decide) tysOk (q_of (LMa_ok g0)) mixed ?_
 repeat' (first | (apply And.intro <;> intro hc <;> (first | exact Bool.noConfusion hc | (exfalso; first | exact absurd rfl hc | omega) | (simp only [zb0, ne_eq, not_true_eq_false] at hc <;> first | exact absurd rfl hc | (exfalso; first | exact absurd rfl hc | omega) | skip) | skip)) | (refine And.intro zp1 ?_) | (apply And.intro) | (intro s hs; skip) | (refine Exists.intro _ (And.intro ⟨rfl, rfl, rfl⟩ ?_)))
 refine sem_step (wd := 1) (Q := mkQ (LMa g0)) (by decide) tysOk (q_of (LMa_ok g0)) mixed ?_
 repeat' (first | (apply And.intro <;> intro hc <;> (first | exact Bool.noConfusion hc | (exfalso; first | exact absurd rfl hc | omega) | (simp only [zb0, ne_eq, not_true_eq_false] at hc <;> first | exact absurd rfl hc | (exfalso; first | exact absurd rfl hc | omega) | skip) | skip)) | (refine And.intro zp1 ?_) | (apply And.intro) | (intro s hs; skip) | (refine Exists.intro _ (And.intro ⟨rfl, rfl, rfl⟩ ?_)))
 . refine fin_acc (s := sd) (d := 2) (hR.trans ?_) ha rfl (fun p h j => rowA_ne h) rfl rfl rfl rfl rfl rfl rfl fun q hq j hj => (neH.sh _ j hj).le
   unfold accS
   rw [if_pos hc]
 have hge := hc
 have w1 : IntKind.i64.wrap (c.num - 31) = c.num - 31 := IntWalk.i64_in _ (by omega)
 obtain ⟨⟨i, b⟩, hP⟩ : ∃ P, plcH c.num sd.held 0 = P := ⟨_, rfl⟩
 have hle := plc_le (id := c.num) (L := sd.held) (k := 0)
 rw [hP, Nat.zero_add] at hle
 dsimp only at hle
 obtain ⟨hle1, hle2, _⟩ := hle
 cases b with
 | true =>
   have hil := hle2 rfl
   clear hle2
   have hR2 : R = (L.set 1 (hearS sd i), false, 0) := by
    rw [hR]; unfold accS; rw [if_neg (by omega), hP]; rfl
   refine sem_step (wd := 1) (Q := mkQ (LMa g0)) (by decide) tysOk (q_of (LMa_ok g0)) mixed ?_
   repeat' (first | (apply And.intro <;> intro hc <;> (first | exact Bool.noConfusion hc | (exfalso; first | exact absurd rfl hc | omega) | (simp only [zb0, ne_eq, not_true_eq_false] at hc <;> first | exact absurd rfl hc | (exfalso; first | exact absurd rfl hc | omega) | skip) | skip)) | (refine And.intro zp1 ?_) | (apply And.intro) | (intro s hs; (first | (have q := rd_plc hs (toN_row0 neH_rd _) hP; clear hs; subst q) | (have q := rd_hear hs (Nat.zero_add i); clear hs; subst q))) | (refine Exists.intro _ (And.intro ⟨rfl, rfl, rfl⟩ ?_)))
   . exact fun _ _ => ⟨rfl, okD_sl _⟩
   . exact Eq.mpr (congrArg (fun z : List Hel => z.length <= 9223372036854775807) (toN_row0 neH_rd _)) (by omega)
   conv => whnf
   have hLh : (hearS sd i).held.length = sd.held.length := List.length_set
   refine fin_acc (s := hearS sd i) (d := 2) hR2 ha rfl (fun p h j => rowA_ne h) rfl rfl (by rw [hLh]; rfl) rfl rfl hLh.symm rfl fun q hq j hj => hel_row hil hj
 | false =>
   clear hle2
   refine sem_step (wd := 1) (Q := mkQ (LMa g0)) (by decide) tysOk (q_of (LMa_ok g0)) mixed ?_
   repeat' (first | (apply And.intro <;> intro hc <;> (first | exact Bool.noConfusion hc | (exfalso; first | exact absurd rfl hc | omega) | (simp only [zb0, ne_eq, not_true_eq_false] at hc <;> first | exact absurd rfl hc | (exfalso; first | exact absurd rfl hc | omega) | skip) | skip)) | (refine And.intro zp1 ?_) | (apply And.intro) | (intro s hs; (first | (have q := rd_plc hs (toN_row0 neH_rd _) hP; clear hs; subst q))) | (refine Exists.intro _ (And.intro ⟨rfl, rfl, rfl⟩ ?_)))
   . exact fun _ _ => ⟨rfl, okD_sl _⟩
   . exact Eq.mpr (congrArg (fun z : List Hel => z.length <= 9223372036854775807) (toN_row0 neH_rd _)) (by omega)
   change Sem _ _ _ _ _ _ _ _
   refine sem_cut (wd := 1024) (Q := mkQ (LMa g0)) (by decide) tysOk (q_of (LMa_ok g0)) (mono_of (LMa_ok g0)) mixed (SB L 1 (raiseS sd (c.num - 31)) now c deaf draw) (by intro _; rfl) ?_ ?_
   . repeat' (first | (simp only [w1]) | (apply And.intro <;> intro hc <;> (first | exact Bool.noConfusion hc | (exfalso; first | exact absurd rfl hc | omega) | (simp only [zb0, ne_eq, not_true_eq_false] at hc <;> first | exact absurd rfl hc | (exfalso; first | exact absurd rfl hc | omega) | skip) | skip)) | (refine And.intro zp1 ?_) | (apply And.intro) | (intro s hs; skip) | (refine Exists.intro _ (And.intro ⟨rfl, rfl, rfl⟩ ?_)))
     . exact rfl
     . conv => whnf
       rw [show raiseS sd (c.num - 31) = sd from if_pos hc]
       exact ⟨(), [], rfl, ⟨leF_int rfl, leF_bool rfl, leF_int rfl, leF_ptr rfl, leF_c (leC_os rfl rfl), leF_ptr rfl, trivial⟩, ⟨⟨rfl, leN_varA fun j hj => (neC.sh _ j hj).le⟩, ⟨rfl, ⟨rfl, rfl, rfl, rfl, fun p hp j hj => rowA_le hj rfl⟩⟩, ⟨rfl, leN_entN⟩, trivial⟩⟩
     . exact ⟨rfl, okD_sl _⟩
     . exact Eq.mpr (congrArg KpI (toN_row0 neH_rd _)) hk
     . conv => whnf
       have q : sd.held.filter (wantB (some (c.num - 31))) = s := (hs.trans (by rw [toN_row0 neH_rd])).symm
       clear hs
       rw [show raiseS sd (c.num - 31) = ⟨sd.id, c.num - 31, s⟩ from (if_neg hc).trans (by rw [q])]
       refine ⟨(), [(2, some 4141)], rfl, ⟨leF_int rfl, leF_bool rfl, leF_int rfl, leF_ptr rfl, leF_c (leC_os rfl rfl), leF_ptr rfl, trivial⟩, ⟨⟨rfl, leN_varA fun j hj => (neC.sh _ j hj).le⟩, ⟨rfl, ⟨rfl, rfl, rfl, rfl, fun p hp j hj => ?_⟩⟩, ⟨rfl, leN_entN⟩, trivial⟩⟩
       have hj : j < 3 := hj
       refine rowA_to hj (fun h => (updE_ne h).trans ((updE_ne h).trans (rowA_ne h))) fun h => ?_
       subst h
       rcases j with _ | _ | _ | j
       . exact leC_int rfl
       . exact leC_int rfl
       . exact leC_os rfl rfl
       . omega
   . intro _
     refine acc3 g0 L 1 (raiseS sd (c.num - 31)) now c deaf draw ⟨ha, hn, raise_k hk, raise_h hh, hnum, hd, hnow, hdr⟩ R ?_
     rw [hR]
     unfold accS
     rw [if_neg hge, hP]
     cases deaf <;> rfl
theorem acc2_2 (g0 : Nat) (L : List Sed) (a : Nat) (now : Int) (c : Cas) (deaf : Bool) (draw : Int) (hI : AcI L a now c draw) (R : List Sed × Bool × Int) (hR : R = (L.set a (accS (L.getD a default) now c deaf draw).1, (accS (L.getD a default) now c deaf draw).2, 0)) (a3 : a = 2) :
 Sem Try.prog Try.f11.ntmps 0 (dropC 7 (Try.f11.body.getD Code.ret)) (SA L a now c deaf draw ()).fr (SA L a now c deaf draw ()).H (SA L a now c deaf draw ()).nx (endH T Try.f11.results.toList fun x H _ => FinN (some R.1.length) (encAc R) (entN neS 78 R.1) x H) := by
 obtain ⟨ha, hn, hk, hh, hmn, hnum, hd, hnow, hdr⟩ := hI
 unfold SA
 rw [entG_A]
 obtain ⟨sd, es⟩ : ∃ s, L.getD a default = s := ⟨_, rfl⟩
 rw [es] at hk hh hmn hR ⊢
 subst a3
 refine sem_step (wd := 1) (Q := mkQ (LMa g0)) (by decide) tysOk (q_of (LMa_ok g0)) mixed ?_
 repeat' (first | (apply And.intro <;> intro hc <;> (first | exact Bool.noConfusion hc | (exfalso; first | exact absurd rfl hc | omega) | (simp only [zb0, ne_eq, not_true_eq_false] at hc <;> first | exact absurd rfl hc | (exfalso; first | exact absurd rfl hc | omega) | skip) | skip)) | (refine And.intro zp1 ?_) | (apply And.intro) | (intro s hs; skip) | (refine Exists.intro _ (And.intro ⟨rfl, rfl, rfl⟩ ?_)))
 refine sem_step (wd := 1) (Q := mkQ (LMa g0)) (by decide) tysOk (q_of (LMa_ok g0)) mixed ?_
 repeat' (first | (apply And.intro <;> intro hc <;> (first | exact Bool.noConfusion hc | (exfalso; first | exact absurd rfl hc | omega) | (simp only [zb0, ne_eq, not_true_eq_false] at hc <;> first | exact absurd rfl hc | (exfalso; first | exact absurd rfl hc | omega) | skip) | skip)) | (refine And.intro zp1 ?_) | (apply And.intro) | (intro s hs; skip) | (refine Exists.intro _ (And.intro ⟨rfl, rfl, rfl⟩ ?_)))
 . refine fin_acc (s := sd) (d := 2) (hR.trans ?_) ha rfl (fun p h j => rowA_ne h) rfl rfl rfl rfl rfl rfl rfl fun q hq j hj => (neH.sh _ j hj).le
   unfold accS
   rw [if_pos hc]
 have hge := hc
 have w1 : IntKind.i64.wrap (c.num - 31) = c.num - 31 := IntWalk.i64_in _ (by omega)
 obtain ⟨⟨i, b⟩, hP⟩ : ∃ P, plcH c.num sd.held 0 = P := ⟨_, rfl⟩
 have hle := plc_le (id := c.num) (L := sd.held) (k := 0)
 rw [hP, Nat.zero_add] at hle
 dsimp only at hle
 obtain ⟨hle1, hle2, _⟩ := hle
 cases b with
 | true =>
   have hil := hle2 rfl
   clear hle2
   have hR2 : R = (L.set 2 (hearS sd i), false, 0) := by
    rw [hR]; unfold accS; rw [if_neg (by omega), hP]; rfl
   refine sem_step (wd := 1) (Q := mkQ (LMa g0)) (by decide) tysOk (q_of (LMa_ok g0)) mixed ?_
   repeat' (first | (apply And.intro <;> intro hc <;> (first | exact Bool.noConfusion hc | (exfalso; first | exact absurd rfl hc | omega) | (simp only [zb0, ne_eq, not_true_eq_false] at hc <;> first | exact absurd rfl hc | (exfalso; first | exact absurd rfl hc | omega) | skip) | skip)) | (refine And.intro zp1 ?_) | (apply And.intro) | (intro s hs; (first | (have q := rd_plc hs (toN_row0 neH_rd _) hP; clear hs; subst q) | (have q := rd_hear hs (Nat.zero_add i); clear hs; subst q))) | (refine Exists.intro _ (And.intro ⟨rfl, rfl, rfl⟩ ?_)))
   . exact fun _ _ => ⟨rfl, okD_sl _⟩
   . exact Eq.mpr (congrArg (fun z : List Hel => z.length <= 9223372036854775807) (toN_row0 neH_rd _)) (by omega)
   conv => whnf
   have hLh : (hearS sd i).held.length = sd.held.length := List.length_set
   refine fin_acc (s := hearS sd i) (d := 2) hR2 ha rfl (fun p h j => rowA_ne h) rfl rfl (by rw [hLh]; rfl) rfl rfl hLh.symm rfl fun q hq j hj => hel_row hil hj
 | false =>
   clear hle2
   refine sem_step (wd := 1) (Q := mkQ (LMa g0)) (by decide) tysOk (q_of (LMa_ok g0)) mixed ?_
   repeat' (first | (apply And.intro <;> intro hc <;> (first | exact Bool.noConfusion hc | (exfalso; first | exact absurd rfl hc | omega) | (simp only [zb0, ne_eq, not_true_eq_false] at hc <;> first | exact absurd rfl hc | (exfalso; first | exact absurd rfl hc | omega) | skip) | skip)) | (refine And.intro zp1 ?_) | (apply And.intro) | (intro s hs; (first | (have q := rd_plc hs (toN_row0 neH_rd _) hP; clear hs; subst q))) | (refine Exists.intro _ (And.intro ⟨rfl, rfl, rfl⟩ ?_)))
   . exact fun _ _ => ⟨rfl, okD_sl _⟩
   . exact Eq.mpr (congrArg (fun z : List Hel => z.length <= 9223372036854775807) (toN_row0 neH_rd _)) (by omega)
   change Sem _ _ _ _ _ _ _ _
   refine sem_cut (wd := 1024) (Q := mkQ (LMa g0)) (by decide) tysOk (q_of (LMa_ok g0)) (mono_of (LMa_ok g0)) mixed (SB L 2 (raiseS sd (c.num - 31)) now c deaf draw) (by intro _; rfl) ?_ ?_
   . repeat' (first | (simp only [w1]) | (apply And.intro <;> intro hc <;> (first | exact Bool.noConfusion hc | (exfalso; first | exact absurd rfl hc | omega) | (simp only [zb0, ne_eq, not_true_eq_false] at hc <;> first | exact absurd rfl hc | (exfalso; first | exact absurd rfl hc | omega) | skip) | skip)) | (refine And.intro zp1 ?_) | (apply And.intro) | (intro s hs; skip) | (refine Exists.intro _ (And.intro ⟨rfl, rfl, rfl⟩ ?_)))
     . exact rfl
     . conv => whnf
       rw [show raiseS sd (c.num - 31) = sd from if_pos hc]
       exact ⟨(), [], rfl, ⟨leF_int rfl, leF_bool rfl, leF_int rfl, leF_ptr rfl, leF_c (leC_os rfl rfl), leF_ptr rfl, trivial⟩, ⟨⟨rfl, leN_varA fun j hj => (neC.sh _ j hj).le⟩, ⟨rfl, ⟨rfl, rfl, rfl, rfl, fun p hp j hj => rowA_le hj rfl⟩⟩, ⟨rfl, leN_entN⟩, trivial⟩⟩
     . exact ⟨rfl, okD_sl _⟩
     . exact Eq.mpr (congrArg KpI (toN_row0 neH_rd _)) hk
     . conv => whnf
       have q : sd.held.filter (wantB (some (c.num - 31))) = s := (hs.trans (by rw [toN_row0 neH_rd])).symm
       clear hs
       rw [show raiseS sd (c.num - 31) = ⟨sd.id, c.num - 31, s⟩ from (if_neg hc).trans (by rw [q])]
       refine ⟨(), [(2, some 4141)], rfl, ⟨leF_int rfl, leF_bool rfl, leF_int rfl, leF_ptr rfl, leF_c (leC_os rfl rfl), leF_ptr rfl, trivial⟩, ⟨⟨rfl, leN_varA fun j hj => (neC.sh _ j hj).le⟩, ⟨rfl, ⟨rfl, rfl, rfl, rfl, fun p hp j hj => ?_⟩⟩, ⟨rfl, leN_entN⟩, trivial⟩⟩
       have hj : j < 3 := hj
       refine rowA_to hj (fun h => (updE_ne h).trans ((updE_ne h).trans (rowA_ne h))) fun h => ?_
       subst h
       rcases j with _ | _ | _ | j
       . exact leC_int rfl
       . exact leC_int rfl
       . exact leC_os rfl rfl
       . omega
   . intro _
     refine acc3 g0 L 2 (raiseS sd (c.num - 31)) now c deaf draw ⟨ha, hn, raise_k hk, raise_h hh, hnum, hd, hnow, hdr⟩ R ?_
     rw [hR]
     unfold accS
     rw [if_neg hge, hP]
     cases deaf <;> rfl
theorem acc2_3 (g0 : Nat) (L : List Sed) (a : Nat) (now : Int) (c : Cas) (deaf : Bool) (draw : Int) (hI : AcI L a now c draw) (R : List Sed × Bool × Int) (hR : R = (L.set a (accS (L.getD a default) now c deaf draw).1, (accS (L.getD a default) now c deaf draw).2, 0)) (a3 : a = 3) :
 Sem Try.prog Try.f11.ntmps 0 (dropC 7 (Try.f11.body.getD Code.ret)) (SA L a now c deaf draw ()).fr (SA L a now c deaf draw ()).H (SA L a now c deaf draw ()).nx (endH T Try.f11.results.toList fun x H _ => FinN (some R.1.length) (encAc R) (entN neS 78 R.1) x H) := by
 obtain ⟨ha, hn, hk, hh, hmn, hnum, hd, hnow, hdr⟩ := hI
 unfold SA
 rw [entG_A]
 obtain ⟨sd, es⟩ : ∃ s, L.getD a default = s := ⟨_, rfl⟩
 rw [es] at hk hh hmn hR ⊢
 subst a3
 refine sem_step (wd := 1) (Q := mkQ (LMa g0)) (by decide) tysOk (q_of (LMa_ok g0)) mixed ?_
 repeat' (first | (apply And.intro <;> intro hc <;> (first | exact Bool.noConfusion hc | (exfalso; first | exact absurd rfl hc | omega) | (simp only [zb0, ne_eq, not_true_eq_false] at hc <;> first | exact absurd rfl hc | (exfalso; first | exact absurd rfl hc | omega) | skip) | skip)) | (refine And.intro zp1 ?_) | (apply And.intro) | (intro s hs; skip) | (refine Exists.intro _ (And.intro ⟨rfl, rfl, rfl⟩ ?_)))
 refine sem_step (wd := 1) (Q := mkQ (LMa g0)) (by decide) tysOk (q_of (LMa_ok g0)) mixed ?_
 repeat' (first | (apply And.intro <;> intro hc <;> (first | exact Bool.noConfusion hc | (exfalso; first | exact absurd rfl hc | omega) | (simp only [zb0, ne_eq, not_true_eq_false] at hc <;> first | exact absurd rfl hc | (exfalso; first | exact absurd rfl hc | omega) | skip) | skip)) | (refine And.intro zp1 ?_) | (apply And.intro) | (intro s hs; skip) | (refine Exists.intro _ (And.intro ⟨rfl, rfl, rfl⟩ ?_)))
 . refine fin_acc (s := sd) (d := 2) (hR.trans ?_) ha rfl (fun p h j => rowA_ne h) rfl rfl rfl rfl rfl rfl rfl fun q hq j hj => (neH.sh _ j hj).le
   unfold accS
   rw [if_pos hc]
 have hge := hc
 have w1 : IntKind.i64.wrap (c.num - 31) = c.num - 31 := IntWalk.i64_in _ (by omega)
 obtain ⟨⟨i, b⟩, hP⟩ : ∃ P, plcH c.num sd.held 0 = P := ⟨_, rfl⟩
 have hle := plc_le (id := c.num) (L := sd.held) (k := 0)
 rw [hP, Nat.zero_add] at hle
 dsimp only at hle
 obtain ⟨hle1, hle2, _⟩ := hle
 cases b with
 | true =>
   have hil := hle2 rfl
   clear hle2
   have hR2 : R = (L.set 3 (hearS sd i), false, 0) := by
    rw [hR]; unfold accS; rw [if_neg (by omega), hP]; rfl
   refine sem_step (wd := 1) (Q := mkQ (LMa g0)) (by decide) tysOk (q_of (LMa_ok g0)) mixed ?_
   repeat' (first | (apply And.intro <;> intro hc <;> (first | exact Bool.noConfusion hc | (exfalso; first | exact absurd rfl hc | omega) | (simp only [zb0, ne_eq, not_true_eq_false] at hc <;> first | exact absurd rfl hc | (exfalso; first | exact absurd rfl hc | omega) | skip) | skip)) | (refine And.intro zp1 ?_) | (apply And.intro) | (intro s hs; (first | (have q := rd_plc hs (toN_row0 neH_rd _) hP; clear hs; subst q) | (have q := rd_hear hs (Nat.zero_add i); clear hs; subst q))) | (refine Exists.intro _ (And.intro ⟨rfl, rfl, rfl⟩ ?_)))
   . exact fun _ _ => ⟨rfl, okD_sl _⟩
   . exact Eq.mpr (congrArg (fun z : List Hel => z.length <= 9223372036854775807) (toN_row0 neH_rd _)) (by omega)
   conv => whnf
   have hLh : (hearS sd i).held.length = sd.held.length := List.length_set
   refine fin_acc (s := hearS sd i) (d := 2) hR2 ha rfl (fun p h j => rowA_ne h) rfl rfl (by rw [hLh]; rfl) rfl rfl hLh.symm rfl fun q hq j hj => hel_row hil hj
 | false =>
   clear hle2
   refine sem_step (wd := 1) (Q := mkQ (LMa g0)) (by decide) tysOk (q_of (LMa_ok g0)) mixed ?_
   repeat' (first | (apply And.intro <;> intro hc <;> (first | exact Bool.noConfusion hc | (exfalso; first | exact absurd rfl hc | omega) | (simp only [zb0, ne_eq, not_true_eq_false] at hc <;> first | exact absurd rfl hc | (exfalso; first | exact absurd rfl hc | omega) | skip) | skip)) | (refine And.intro zp1 ?_) | (apply And.intro) | (intro s hs; (first | (have q := rd_plc hs (toN_row0 neH_rd _) hP; clear hs; subst q))) | (refine Exists.intro _ (And.intro ⟨rfl, rfl, rfl⟩ ?_)))
   . exact fun _ _ => ⟨rfl, okD_sl _⟩
   . exact Eq.mpr (congrArg (fun z : List Hel => z.length <= 9223372036854775807) (toN_row0 neH_rd _)) (by omega)
   change Sem _ _ _ _ _ _ _ _
   refine sem_cut (wd := 1024) (Q := mkQ (LMa g0)) (by decide) tysOk (q_of (LMa_ok g0)) (mono_of (LMa_ok g0)) mixed (SB L 3 (raiseS sd (c.num - 31)) now c deaf draw) (by intro _; rfl) ?_ ?_
   . repeat' (first | (simp only [w1]) | (apply And.intro <;> intro hc <;> (first | exact Bool.noConfusion hc | (exfalso; first | exact absurd rfl hc | omega) | (simp only [zb0, ne_eq, not_true_eq_false] at hc <;> first | exact absurd rfl hc | (exfalso; first | exact absurd rfl hc | omega) | skip) | skip)) | (refine And.intro zp1 ?_) | (apply And.intro) | (intro s hs; skip) | (refine Exists.intro _ (And.intro ⟨rfl, rfl, rfl⟩ ?_)))
     . exact rfl
     . conv => whnf
       rw [show raiseS sd (c.num - 31) = sd from if_pos hc]
       exact ⟨(), [], rfl, ⟨leF_int rfl, leF_bool rfl, leF_int rfl, leF_ptr rfl, leF_c (leC_os rfl rfl), leF_ptr rfl, trivial⟩, ⟨⟨rfl, leN_varA fun j hj => (neC.sh _ j hj).le⟩, ⟨rfl, ⟨rfl, rfl, rfl, rfl, fun p hp j hj => rowA_le hj rfl⟩⟩, ⟨rfl, leN_entN⟩, trivial⟩⟩
     . exact ⟨rfl, okD_sl _⟩
     . exact Eq.mpr (congrArg KpI (toN_row0 neH_rd _)) hk
     . conv => whnf
       have q : sd.held.filter (wantB (some (c.num - 31))) = s := (hs.trans (by rw [toN_row0 neH_rd])).symm
       clear hs
       rw [show raiseS sd (c.num - 31) = ⟨sd.id, c.num - 31, s⟩ from (if_neg hc).trans (by rw [q])]
       refine ⟨(), [(2, some 4141)], rfl, ⟨leF_int rfl, leF_bool rfl, leF_int rfl, leF_ptr rfl, leF_c (leC_os rfl rfl), leF_ptr rfl, trivial⟩, ⟨⟨rfl, leN_varA fun j hj => (neC.sh _ j hj).le⟩, ⟨rfl, ⟨rfl, rfl, rfl, rfl, fun p hp j hj => ?_⟩⟩, ⟨rfl, leN_entN⟩, trivial⟩⟩
       have hj : j < 3 := hj
       refine rowA_to hj (fun h => (updE_ne h).trans ((updE_ne h).trans (rowA_ne h))) fun h => ?_
       subst h
       rcases j with _ | _ | _ | j
       . exact leC_int rfl
       . exact leC_int rfl
       . exact leC_os rfl rfl
       . omega
   . intro _
     refine acc3 g0 L 3 (raiseS sd (c.num - 31)) now c deaf draw ⟨ha, hn, raise_k hk, raise_h hh, hnum, hd, hnow, hdr⟩ R ?_
     rw [hR]
     unfold accS
     rw [if_neg hge, hP]
     cases deaf <;> rfl
theorem acc2_4 (g0 : Nat) (L : List Sed) (a : Nat) (now : Int) (c : Cas) (deaf : Bool) (draw : Int) (hI : AcI L a now c draw) (R : List Sed × Bool × Int) (hR : R = (L.set a (accS (L.getD a default) now c deaf draw).1, (accS (L.getD a default) now c deaf draw).2, 0)) (a3 : a = 4) :
 Sem Try.prog Try.f11.ntmps 0 (dropC 7 (Try.f11.body.getD Code.ret)) (SA L a now c deaf draw ()).fr (SA L a now c deaf draw ()).H (SA L a now c deaf draw ()).nx (endH T Try.f11.results.toList fun x H _ => FinN (some R.1.length) (encAc R) (entN neS 78 R.1) x H) := by
 obtain ⟨ha, hn, hk, hh, hmn, hnum, hd, hnow, hdr⟩ := hI
 unfold SA
 rw [entG_A]
 obtain ⟨sd, es⟩ : ∃ s, L.getD a default = s := ⟨_, rfl⟩
 rw [es] at hk hh hmn hR ⊢
 subst a3
 refine sem_step (wd := 1) (Q := mkQ (LMa g0)) (by decide) tysOk (q_of (LMa_ok g0)) mixed ?_
 repeat' (first | (apply And.intro <;> intro hc <;> (first | exact Bool.noConfusion hc | (exfalso; first | exact absurd rfl hc | omega) | (simp only [zb0, ne_eq, not_true_eq_false] at hc <;> first | exact absurd rfl hc | (exfalso; first | exact absurd rfl hc | omega) | skip) | skip)) | (refine And.intro zp1 ?_) | (apply And.intro) | (intro s hs; skip) | (refine Exists.intro _ (And.intro ⟨rfl, rfl, rfl⟩ ?_)))
 refine sem_step (wd := 1) (Q := mkQ (LMa g0)) (by decide) tysOk (q_of (LMa_ok g0)) mixed ?_
 repeat' (first | (apply And.intro <;> intro hc <;> (first | exact Bool.noConfusion hc | (exfalso; first | exact absurd rfl hc | omega) | (simp only [zb0, ne_eq, not_true_eq_false] at hc <;> first | exact absurd rfl hc | (exfalso; first | exact absurd rfl hc | omega) | skip) | skip)) | (refine And.intro zp1 ?_) | (apply And.intro) | (intro s hs; skip) | (refine Exists.intro _ (And.intro ⟨rfl, rfl, rfl⟩ ?_)))
 . refine fin_acc (s := sd) (d := 2) (hR.trans ?_) ha rfl (fun p h j => rowA_ne h) rfl rfl rfl rfl rfl rfl rfl fun q hq j hj => (neH.sh _ j hj).le
   unfold accS
   rw [if_pos hc]
 have hge := hc
 have w1 : IntKind.i64.wrap (c.num - 31) = c.num - 31 := IntWalk.i64_in _ (by omega)
 obtain ⟨⟨i, b⟩, hP⟩ : ∃ P, plcH c.num sd.held 0 = P := ⟨_, rfl⟩
 have hle := plc_le (id := c.num) (L := sd.held) (k := 0)
 rw [hP, Nat.zero_add] at hle
 dsimp only at hle
 obtain ⟨hle1, hle2, _⟩ := hle
 cases b with
 | true =>
   have hil := hle2 rfl
   clear hle2
   have hR2 : R = (L.set 4 (hearS sd i), false, 0) := by
    rw [hR]; unfold accS; rw [if_neg (by omega), hP]; rfl
   refine sem_step (wd := 1) (Q := mkQ (LMa g0)) (by decide) tysOk (q_of (LMa_ok g0)) mixed ?_
   repeat' (first | (apply And.intro <;> intro hc <;> (first | exact Bool.noConfusion hc | (exfalso; first | exact absurd rfl hc | omega) | (simp only [zb0, ne_eq, not_true_eq_false] at hc <;> first | exact absurd rfl hc | (exfalso; first | exact absurd rfl hc | omega) | skip) | skip)) | (refine And.intro zp1 ?_) | (apply And.intro) | (intro s hs; (first | (have q := rd_plc hs (toN_row0 neH_rd _) hP; clear hs; subst q) | (have q := rd_hear hs (Nat.zero_add i); clear hs; subst q))) | (refine Exists.intro _ (And.intro ⟨rfl, rfl, rfl⟩ ?_)))
   . exact fun _ _ => ⟨rfl, okD_sl _⟩
   . exact Eq.mpr (congrArg (fun z : List Hel => z.length <= 9223372036854775807) (toN_row0 neH_rd _)) (by omega)
   conv => whnf
   have hLh : (hearS sd i).held.length = sd.held.length := List.length_set
   refine fin_acc (s := hearS sd i) (d := 2) hR2 ha rfl (fun p h j => rowA_ne h) rfl rfl (by rw [hLh]; rfl) rfl rfl hLh.symm rfl fun q hq j hj => hel_row hil hj
 | false =>
   clear hle2
   refine sem_step (wd := 1) (Q := mkQ (LMa g0)) (by decide) tysOk (q_of (LMa_ok g0)) mixed ?_
   repeat' (first | (apply And.intro <;> intro hc <;> (first | exact Bool.noConfusion hc | (exfalso; first | exact absurd rfl hc | omega) | (simp only [zb0, ne_eq, not_true_eq_false] at hc <;> first | exact absurd rfl hc | (exfalso; first | exact absurd rfl hc | omega) | skip) | skip)) | (refine And.intro zp1 ?_) | (apply And.intro) | (intro s hs; (first | (have q := rd_plc hs (toN_row0 neH_rd _) hP; clear hs; subst q))) | (refine Exists.intro _ (And.intro ⟨rfl, rfl, rfl⟩ ?_)))
   . exact fun _ _ => ⟨rfl, okD_sl _⟩
   . exact Eq.mpr (congrArg (fun z : List Hel => z.length <= 9223372036854775807) (toN_row0 neH_rd _)) (by omega)
   change Sem _ _ _ _ _ _ _ _
   refine sem_cut (wd := 1024) (Q := mkQ (LMa g0)) (by decide) tysOk (q_of (LMa_ok g0)) (mono_of (LMa_ok g0)) mixed (SB L 4 (raiseS sd (c.num - 31)) now c deaf draw) (by intro _; rfl) ?_ ?_
   . repeat' (first | (simp only [w1]) | (apply And.intro <;> intro hc <;> (first | exact Bool.noConfusion hc | (exfalso; first | exact absurd rfl hc | omega) | (simp only [zb0, ne_eq, not_true_eq_false] at hc <;> first | exact absurd rfl hc | (exfalso; first | exact absurd rfl hc | omega) | skip) | skip)) | (refine And.intro zp1 ?_) | (apply And.intro) | (intro s hs; skip) | (refine Exists.intro _ (And.intro ⟨rfl, rfl, rfl⟩ ?_)))
     . exact rfl
     . conv => whnf
       rw [show raiseS sd (c.num - 31) = sd from if_pos hc]
       exact ⟨(), [], rfl, ⟨leF_int rfl, leF_bool rfl, leF_int rfl, leF_ptr rfl, leF_c (leC_os rfl rfl), leF_ptr rfl, trivial⟩, ⟨⟨rfl, leN_varA fun j hj => (neC.sh _ j hj).le⟩, ⟨rfl, ⟨rfl, rfl, rfl, rfl, fun p hp j hj => rowA_le hj rfl⟩⟩, ⟨rfl, leN_entN⟩, trivial⟩⟩
     . exact ⟨rfl, okD_sl _⟩
     . exact Eq.mpr (congrArg KpI (toN_row0 neH_rd _)) hk
     . conv => whnf
       have q : sd.held.filter (wantB (some (c.num - 31))) = s := (hs.trans (by rw [toN_row0 neH_rd])).symm
       clear hs
       rw [show raiseS sd (c.num - 31) = ⟨sd.id, c.num - 31, s⟩ from (if_neg hc).trans (by rw [q])]
       refine ⟨(), [(2, some 4141)], rfl, ⟨leF_int rfl, leF_bool rfl, leF_int rfl, leF_ptr rfl, leF_c (leC_os rfl rfl), leF_ptr rfl, trivial⟩, ⟨⟨rfl, leN_varA fun j hj => (neC.sh _ j hj).le⟩, ⟨rfl, ⟨rfl, rfl, rfl, rfl, fun p hp j hj => ?_⟩⟩, ⟨rfl, leN_entN⟩, trivial⟩⟩
       have hj : j < 3 := hj
       refine rowA_to hj (fun h => (updE_ne h).trans ((updE_ne h).trans (rowA_ne h))) fun h => ?_
       subst h
       rcases j with _ | _ | _ | j
       . exact leC_int rfl
       . exact leC_int rfl
       . exact leC_os rfl rfl
       . omega
   . intro _
     refine acc3 g0 L 4 (raiseS sd (c.num - 31)) now c deaf draw ⟨ha, hn, raise_k hk, raise_h hh, hnum, hd, hnow, hdr⟩ R ?_
     rw [hR]
     unfold accS
     rw [if_neg hge, hP]
     cases deaf <;> rfl
theorem acc2_5 (g0 : Nat) (L : List Sed) (a : Nat) (now : Int) (c : Cas) (deaf : Bool) (draw : Int) (hI : AcI L a now c draw) (R : List Sed × Bool × Int) (hR : R = (L.set a (accS (L.getD a default) now c deaf draw).1, (accS (L.getD a default) now c deaf draw).2, 0)) (a3 : a = 5) :
 Sem Try.prog Try.f11.ntmps 0 (dropC 7 (Try.f11.body.getD Code.ret)) (SA L a now c deaf draw ()).fr (SA L a now c deaf draw ()).H (SA L a now c deaf draw ()).nx (endH T Try.f11.results.toList fun x H _ => FinN (some R.1.length) (encAc R) (entN neS 78 R.1) x H) := by
 obtain ⟨ha, hn, hk, hh, hmn, hnum, hd, hnow, hdr⟩ := hI
 unfold SA
 rw [entG_A]
 obtain ⟨sd, es⟩ : ∃ s, L.getD a default = s := ⟨_, rfl⟩
 rw [es] at hk hh hmn hR ⊢
 subst a3
 refine sem_step (wd := 1) (Q := mkQ (LMa g0)) (by decide) tysOk (q_of (LMa_ok g0)) mixed ?_
 repeat' (first | (apply And.intro <;> intro hc <;> (first | exact Bool.noConfusion hc | (exfalso; first | exact absurd rfl hc | omega) | (simp only [zb0, ne_eq, not_true_eq_false] at hc <;> first | exact absurd rfl hc | (exfalso; first | exact absurd rfl hc | omega) | skip) | skip)) | (refine And.intro zp1 ?_) | (apply And.intro) | (intro s hs; skip) | (refine Exists.intro _ (And.intro ⟨rfl, rfl, rfl⟩ ?_)))
 refine sem_step (wd := 1) (Q := mkQ (LMa g0)) (by decide) tysOk (q_of (LMa_ok g0)) mixed ?_
 repeat' (first | (apply And.intro <;> intro hc <;> (first | exact Bool.noConfusion hc | (exfalso; first | exact absurd rfl hc | omega) | (simp only [zb0, ne_eq, not_true_eq_false] at hc <;> first | exact absurd rfl hc | (exfalso; first | exact absurd rfl hc | omega) | skip) | skip)) | (refine And.intro zp1 ?_) | (apply And.intro) | (intro s hs; skip) | (refine Exists.intro _ (And.intro ⟨rfl, rfl, rfl⟩ ?_)))
 . refine fin_acc (s := sd) (d := 2) (hR.trans ?_) ha rfl (fun p h j => rowA_ne h) rfl rfl rfl rfl rfl rfl rfl fun q hq j hj => (neH.sh _ j hj).le
   unfold accS
   rw [if_pos hc]
 have hge := hc
 have w1 : IntKind.i64.wrap (c.num - 31) = c.num - 31 := IntWalk.i64_in _ (by omega)
 obtain ⟨⟨i, b⟩, hP⟩ : ∃ P, plcH c.num sd.held 0 = P := ⟨_, rfl⟩
 have hle := plc_le (id := c.num) (L := sd.held) (k := 0)
 rw [hP, Nat.zero_add] at hle
 dsimp only at hle
 obtain ⟨hle1, hle2, _⟩ := hle
 cases b with
 | true =>
   have hil := hle2 rfl
   clear hle2
   have hR2 : R = (L.set 5 (hearS sd i), false, 0) := by
    rw [hR]; unfold accS; rw [if_neg (by omega), hP]; rfl
   refine sem_step (wd := 1) (Q := mkQ (LMa g0)) (by decide) tysOk (q_of (LMa_ok g0)) mixed ?_
   repeat' (first | (apply And.intro <;> intro hc <;> (first | exact Bool.noConfusion hc | (exfalso; first | exact absurd rfl hc | omega) | (simp only [zb0, ne_eq, not_true_eq_false] at hc <;> first | exact absurd rfl hc | (exfalso; first | exact absurd rfl hc | omega) | skip) | skip)) | (refine And.intro zp1 ?_) | (apply And.intro) | (intro s hs; (first | (have q := rd_plc hs (toN_row0 neH_rd _) hP; clear hs; subst q) | (have q := rd_hear hs (Nat.zero_add i); clear hs; subst q))) | (refine Exists.intro _ (And.intro ⟨rfl, rfl, rfl⟩ ?_)))
   . exact fun _ _ => ⟨rfl, okD_sl _⟩
   . exact Eq.mpr (congrArg (fun z : List Hel => z.length <= 9223372036854775807) (toN_row0 neH_rd _)) (by omega)
   conv => whnf
   have hLh : (hearS sd i).held.length = sd.held.length := List.length_set
   refine fin_acc (s := hearS sd i) (d := 2) hR2 ha rfl (fun p h j => rowA_ne h) rfl rfl (by rw [hLh]; rfl) rfl rfl hLh.symm rfl fun q hq j hj => hel_row hil hj
 | false =>
   clear hle2
   refine sem_step (wd := 1) (Q := mkQ (LMa g0)) (by decide) tysOk (q_of (LMa_ok g0)) mixed ?_
   repeat' (first | (apply And.intro <;> intro hc <;> (first | exact Bool.noConfusion hc | (exfalso; first | exact absurd rfl hc | omega) | (simp only [zb0, ne_eq, not_true_eq_false] at hc <;> first | exact absurd rfl hc | (exfalso; first | exact absurd rfl hc | omega) | skip) | skip)) | (refine And.intro zp1 ?_) | (apply And.intro) | (intro s hs; (first | (have q := rd_plc hs (toN_row0 neH_rd _) hP; clear hs; subst q))) | (refine Exists.intro _ (And.intro ⟨rfl, rfl, rfl⟩ ?_)))
   . exact fun _ _ => ⟨rfl, okD_sl _⟩
   . exact Eq.mpr (congrArg (fun z : List Hel => z.length <= 9223372036854775807) (toN_row0 neH_rd _)) (by omega)
   change Sem _ _ _ _ _ _ _ _
   refine sem_cut (wd := 1024) (Q := mkQ (LMa g0)) (by decide) tysOk (q_of (LMa_ok g0)) (mono_of (LMa_ok g0)) mixed (SB L 5 (raiseS sd (c.num - 31)) now c deaf draw) (by intro _; rfl) ?_ ?_
   . repeat' (first | (simp only [w1]) | (apply And.intro <;> intro hc <;> (first | exact Bool.noConfusion hc | (exfalso; first | exact absurd rfl hc | omega) | (simp only [zb0, ne_eq, not_true_eq_false] at hc <;> first | exact absurd rfl hc | (exfalso; first | exact absurd rfl hc | omega) | skip) | skip)) | (refine And.intro zp1 ?_) | (apply And.intro) | (intro s hs; skip) | (refine Exists.intro _ (And.intro ⟨rfl, rfl, rfl⟩ ?_)))
     . exact rfl
     . conv => whnf
       rw [show raiseS sd (c.num - 31) = sd from if_pos hc]
       exact ⟨(), [], rfl, ⟨leF_int rfl, leF_bool rfl, leF_int rfl, leF_ptr rfl, leF_c (leC_os rfl rfl), leF_ptr rfl, trivial⟩, ⟨⟨rfl, leN_varA fun j hj => (neC.sh _ j hj).le⟩, ⟨rfl, ⟨rfl, rfl, rfl, rfl, fun p hp j hj => rowA_le hj rfl⟩⟩, ⟨rfl, leN_entN⟩, trivial⟩⟩
     . exact ⟨rfl, okD_sl _⟩
     . exact Eq.mpr (congrArg KpI (toN_row0 neH_rd _)) hk
     . conv => whnf
       have q : sd.held.filter (wantB (some (c.num - 31))) = s := (hs.trans (by rw [toN_row0 neH_rd])).symm
       clear hs
       rw [show raiseS sd (c.num - 31) = ⟨sd.id, c.num - 31, s⟩ from (if_neg hc).trans (by rw [q])]
       refine ⟨(), [(2, some 4141)], rfl, ⟨leF_int rfl, leF_bool rfl, leF_int rfl, leF_ptr rfl, leF_c (leC_os rfl rfl), leF_ptr rfl, trivial⟩, ⟨⟨rfl, leN_varA fun j hj => (neC.sh _ j hj).le⟩, ⟨rfl, ⟨rfl, rfl, rfl, rfl, fun p hp j hj => ?_⟩⟩, ⟨rfl, leN_entN⟩, trivial⟩⟩
       have hj : j < 3 := hj
       refine rowA_to hj (fun h => (updE_ne h).trans ((updE_ne h).trans (rowA_ne h))) fun h => ?_
       subst h
       rcases j with _ | _ | _ | j
       . exact leC_int rfl
       . exact leC_int rfl
       . exact leC_os rfl rfl
       . omega
   . intro _
     refine acc3 g0 L 5 (raiseS sd (c.num - 31)) now c deaf draw ⟨ha, hn, raise_k hk, raise_h hh, hnum, hd, hnow, hdr⟩ R ?_
     rw [hR]
     unfold accS
     rw [if_neg hge, hP]
     cases deaf <;> rfl
theorem acc2_6 (g0 : Nat) (L : List Sed) (a : Nat) (now : Int) (c : Cas) (deaf : Bool) (draw : Int) (hI : AcI L a now c draw) (R : List Sed × Bool × Int) (hR : R = (L.set a (accS (L.getD a default) now c deaf draw).1, (accS (L.getD a default) now c deaf draw).2, 0)) (a3 : a = 6) :
 Sem Try.prog Try.f11.ntmps 0 (dropC 7 (Try.f11.body.getD Code.ret)) (SA L a now c deaf draw ()).fr (SA L a now c deaf draw ()).H (SA L a now c deaf draw ()).nx (endH T Try.f11.results.toList fun x H _ => FinN (some R.1.length) (encAc R) (entN neS 78 R.1) x H) := by
 obtain ⟨ha, hn, hk, hh, hmn, hnum, hd, hnow, hdr⟩ := hI
 unfold SA
 rw [entG_A]
 obtain ⟨sd, es⟩ : ∃ s, L.getD a default = s := ⟨_, rfl⟩
 rw [es] at hk hh hmn hR ⊢
 subst a3
 refine sem_step (wd := 1) (Q := mkQ (LMa g0)) (by decide) tysOk (q_of (LMa_ok g0)) mixed ?_
 repeat' (first | (apply And.intro <;> intro hc <;> (first | exact Bool.noConfusion hc | (exfalso; first | exact absurd rfl hc | omega) | (simp only [zb0, ne_eq, not_true_eq_false] at hc <;> first | exact absurd rfl hc | (exfalso; first | exact absurd rfl hc | omega) | skip) | skip)) | (refine And.intro zp1 ?_) | (apply And.intro) | (intro s hs; skip) | (refine Exists.intro _ (And.intro ⟨rfl, rfl, rfl⟩ ?_)))
 refine sem_step (wd := 1) (Q := mkQ (LMa g0)) (by decide) tysOk (q_of (LMa_ok g0)) mixed ?_
 repeat' (first | (apply And.intro <;> intro hc <;> (first | exact Bool.noConfusion hc | (exfalso; first | exact absurd rfl hc | omega) | (simp only [zb0, ne_eq, not_true_eq_false] at hc <;> first | exact absurd rfl hc | (exfalso; first | exact absurd rfl hc | omega) | skip) | skip)) | (refine And.intro zp1 ?_) | (apply And.intro) | (intro s hs; skip) | (refine Exists.intro _ (And.intro ⟨rfl, rfl, rfl⟩ ?_)))
 . refine fin_acc (s := sd) (d := 2) (hR.trans ?_) ha rfl (fun p h j => rowA_ne h) rfl rfl rfl rfl rfl rfl rfl fun q hq j hj => (neH.sh _ j hj).le
   unfold accS
   rw [if_pos hc]
 have hge := hc
 have w1 : IntKind.i64.wrap (c.num - 31) = c.num - 31 := IntWalk.i64_in _ (by omega)
 obtain ⟨⟨i, b⟩, hP⟩ : ∃ P, plcH c.num sd.held 0 = P := ⟨_, rfl⟩
 have hle := plc_le (id := c.num) (L := sd.held) (k := 0)
 rw [hP, Nat.zero_add] at hle
 dsimp only at hle
 obtain ⟨hle1, hle2, _⟩ := hle
 cases b with
 | true =>
   have hil := hle2 rfl
   clear hle2
   have hR2 : R = (L.set 6 (hearS sd i), false, 0) := by
    rw [hR]; unfold accS; rw [if_neg (by omega), hP]; rfl
   refine sem_step (wd := 1) (Q := mkQ (LMa g0)) (by decide) tysOk (q_of (LMa_ok g0)) mixed ?_
   repeat' (first | (apply And.intro <;> intro hc <;> (first | exact Bool.noConfusion hc | (exfalso; first | exact absurd rfl hc | omega) | (simp only [zb0, ne_eq, not_true_eq_false] at hc <;> first | exact absurd rfl hc | (exfalso; first | exact absurd rfl hc | omega) | skip) | skip)) | (refine And.intro zp1 ?_) | (apply And.intro) | (intro s hs; (first | (have q := rd_plc hs (toN_row0 neH_rd _) hP; clear hs; subst q) | (have q := rd_hear hs (Nat.zero_add i); clear hs; subst q))) | (refine Exists.intro _ (And.intro ⟨rfl, rfl, rfl⟩ ?_)))
   . exact fun _ _ => ⟨rfl, okD_sl _⟩
   . exact Eq.mpr (congrArg (fun z : List Hel => z.length <= 9223372036854775807) (toN_row0 neH_rd _)) (by omega)
   conv => whnf
   have hLh : (hearS sd i).held.length = sd.held.length := List.length_set
   refine fin_acc (s := hearS sd i) (d := 2) hR2 ha rfl (fun p h j => rowA_ne h) rfl rfl (by rw [hLh]; rfl) rfl rfl hLh.symm rfl fun q hq j hj => hel_row hil hj
 | false =>
   clear hle2
   refine sem_step (wd := 1) (Q := mkQ (LMa g0)) (by decide) tysOk (q_of (LMa_ok g0)) mixed ?_
   repeat' (first | (apply And.intro <;> intro hc <;> (first | exact Bool.noConfusion hc | (exfalso; first | exact absurd rfl hc | omega) | (simp only [zb0, ne_eq, not_true_eq_false] at hc <;> first | exact absurd rfl hc | (exfalso; first | exact absurd rfl hc | omega) | skip) | skip)) | (refine And.intro zp1 ?_) | (apply And.intro) | (intro s hs; (first | (have q := rd_plc hs (toN_row0 neH_rd _) hP; clear hs; subst q))) | (refine Exists.intro _ (And.intro ⟨rfl, rfl, rfl⟩ ?_)))
   . exact fun _ _ => ⟨rfl, okD_sl _⟩
   . exact Eq.mpr (congrArg (fun z : List Hel => z.length <= 9223372036854775807) (toN_row0 neH_rd _)) (by omega)
   change Sem _ _ _ _ _ _ _ _
   refine sem_cut (wd := 1024) (Q := mkQ (LMa g0)) (by decide) tysOk (q_of (LMa_ok g0)) (mono_of (LMa_ok g0)) mixed (SB L 6 (raiseS sd (c.num - 31)) now c deaf draw) (by intro _; rfl) ?_ ?_
   . repeat' (first | (simp only [w1]) | (apply And.intro <;> intro hc <;> (first | exact Bool.noConfusion hc | (exfalso; first | exact absurd rfl hc | omega) | (simp only [zb0, ne_eq, not_true_eq_false] at hc <;> first | exact absurd rfl hc | (exfalso; first | exact absurd rfl hc | omega) | skip) | skip)) | (refine And.intro zp1 ?_) | (apply And.intro) | (intro s hs; skip) | (refine Exists.intro _ (And.intro ⟨rfl, rfl, rfl⟩ ?_)))
     . exact rfl
     . conv => whnf
       rw [show raiseS sd (c.num - 31) = sd from if_pos hc]
       exact ⟨(), [], rfl, ⟨leF_int rfl, leF_bool rfl, leF_int rfl, leF_ptr rfl, leF_c (leC_os rfl rfl), leF_ptr rfl, trivial⟩, ⟨⟨rfl, leN_varA fun j hj => (neC.sh _ j hj).le⟩, ⟨rfl, ⟨rfl, rfl, rfl, rfl, fun p hp j hj => rowA_le hj rfl⟩⟩, ⟨rfl, leN_entN⟩, trivial⟩⟩
     . exact ⟨rfl, okD_sl _⟩
     . exact Eq.mpr (congrArg KpI (toN_row0 neH_rd _)) hk
     . conv => whnf
       have q : sd.held.filter (wantB (some (c.num - 31))) = s := (hs.trans (by rw [toN_row0 neH_rd])).symm
       clear hs
       rw [show raiseS sd (c.num - 31) = ⟨sd.id, c.num - 31, s⟩ from (if_neg hc).trans (by rw [q])]
       refine ⟨(), [(2, some 4141)], rfl, ⟨leF_int rfl, leF_bool rfl, leF_int rfl, leF_ptr rfl, leF_c (leC_os rfl rfl), leF_ptr rfl, trivial⟩, ⟨⟨rfl, leN_varA fun j hj => (neC.sh _ j hj).le⟩, ⟨rfl, ⟨rfl, rfl, rfl, rfl, fun p hp j hj => ?_⟩⟩, ⟨rfl, leN_entN⟩, trivial⟩⟩
       have hj : j < 3 := hj
       refine rowA_to hj (fun h => (updE_ne h).trans ((updE_ne h).trans (rowA_ne h))) fun h => ?_
       subst h
       rcases j with _ | _ | _ | j
       . exact leC_int rfl
       . exact leC_int rfl
       . exact leC_os rfl rfl
       . omega
   . intro _
     refine acc3 g0 L 6 (raiseS sd (c.num - 31)) now c deaf draw ⟨ha, hn, raise_k hk, raise_h hh, hnum, hd, hnow, hdr⟩ R ?_
     rw [hR]
     unfold accS
     rw [if_neg hge, hP]
     cases deaf <;> rfl
theorem acc2_7 (g0 : Nat) (L : List Sed) (a : Nat) (now : Int) (c : Cas) (deaf : Bool) (draw : Int) (hI : AcI L a now c draw) (R : List Sed × Bool × Int) (hR : R = (L.set a (accS (L.getD a default) now c deaf draw).1, (accS (L.getD a default) now c deaf draw).2, 0)) (a3 : a = 7) :
 Sem Try.prog Try.f11.ntmps 0 (dropC 7 (Try.f11.body.getD Code.ret)) (SA L a now c deaf draw ()).fr (SA L a now c deaf draw ()).H (SA L a now c deaf draw ()).nx (endH T Try.f11.results.toList fun x H _ => FinN (some R.1.length) (encAc R) (entN neS 78 R.1) x H) := by
 obtain ⟨ha, hn, hk, hh, hmn, hnum, hd, hnow, hdr⟩ := hI
 unfold SA
 rw [entG_A]
 obtain ⟨sd, es⟩ : ∃ s, L.getD a default = s := ⟨_, rfl⟩
 rw [es] at hk hh hmn hR ⊢
 subst a3
 refine sem_step (wd := 1) (Q := mkQ (LMa g0)) (by decide) tysOk (q_of (LMa_ok g0)) mixed ?_
 repeat' (first | (apply And.intro <;> intro hc <;> (first | exact Bool.noConfusion hc | (exfalso; first | exact absurd rfl hc | omega) | (simp only [zb0, ne_eq, not_true_eq_false] at hc <;> first | exact absurd rfl hc | (exfalso; first | exact absurd rfl hc | omega) | skip) | skip)) | (refine And.intro zp1 ?_) | (apply And.intro) | (intro s hs; skip) | (refine Exists.intro _ (And.intro ⟨rfl, rfl, rfl⟩ ?_)))
 refine sem_step (wd := 1) (Q := mkQ (LMa g0)) (by decide) tysOk (q_of (LMa_ok g0)) mixed ?_
 repeat' (first | (apply And.intro <;> intro hc <;> (first | exact Bool.noConfusion hc | (exfalso; first | exact absurd rfl hc | omega) | (simp only [zb0, ne_eq, not_true_eq_false] at hc <;> first | exact absurd rfl hc | (exfalso; first | exact absurd rfl hc | omega) | skip) | skip)) | (refine And.intro zp1 ?_) | (apply And.intro) | (intro s hs; skip) | (refine Exists.intro _ (And.intro ⟨rfl, rfl, rfl⟩ ?_)))
 . refine fin_acc (s := sd) (d := 2) (hR.trans ?_) ha rfl (fun p h j => rowA_ne h) rfl rfl rfl rfl rfl rfl rfl fun q hq j hj => (neH.sh _ j hj).le
   unfold accS
   rw [if_pos hc]
 have hge := hc
 have w1 : IntKind.i64.wrap (c.num - 31) = c.num - 31 := IntWalk.i64_in _ (by omega)
 obtain ⟨⟨i, b⟩, hP⟩ : ∃ P, plcH c.num sd.held 0 = P := ⟨_, rfl⟩
 have hle := plc_le (id := c.num) (L := sd.held) (k := 0)
 rw [hP, Nat.zero_add] at hle
 dsimp only at hle
 obtain ⟨hle1, hle2, _⟩ := hle
 cases b with
 | true =>
   have hil := hle2 rfl
   clear hle2
   have hR2 : R = (L.set 7 (hearS sd i), false, 0) := by
    rw [hR]; unfold accS; rw [if_neg (by omega), hP]; rfl
   refine sem_step (wd := 1) (Q := mkQ (LMa g0)) (by decide) tysOk (q_of (LMa_ok g0)) mixed ?_
   repeat' (first | (apply And.intro <;> intro hc <;> (first | exact Bool.noConfusion hc | (exfalso; first | exact absurd rfl hc | omega) | (simp only [zb0, ne_eq, not_true_eq_false] at hc <;> first | exact absurd rfl hc | (exfalso; first | exact absurd rfl hc | omega) | skip) | skip)) | (refine And.intro zp1 ?_) | (apply And.intro) | (intro s hs; (first | (have q := rd_plc hs (toN_row0 neH_rd _) hP; clear hs; subst q) | (have q := rd_hear hs (Nat.zero_add i); clear hs; subst q))) | (refine Exists.intro _ (And.intro ⟨rfl, rfl, rfl⟩ ?_)))
   . exact fun _ _ => ⟨rfl, okD_sl _⟩
   . exact Eq.mpr (congrArg (fun z : List Hel => z.length <= 9223372036854775807) (toN_row0 neH_rd _)) (by omega)
   conv => whnf
   have hLh : (hearS sd i).held.length = sd.held.length := List.length_set
   refine fin_acc (s := hearS sd i) (d := 2) hR2 ha rfl (fun p h j => rowA_ne h) rfl rfl (by rw [hLh]; rfl) rfl rfl hLh.symm rfl fun q hq j hj => hel_row hil hj
 | false =>
   clear hle2
   refine sem_step (wd := 1) (Q := mkQ (LMa g0)) (by decide) tysOk (q_of (LMa_ok g0)) mixed ?_
   repeat' (first | (apply And.intro <;> intro hc <;> (first | exact Bool.noConfusion hc | (exfalso; first | exact absurd rfl hc | omega) | (simp only [zb0, ne_eq, not_true_eq_false] at hc <;> first | exact absurd rfl hc | (exfalso; first | exact absurd rfl hc | omega) | skip) | skip)) | (refine And.intro zp1 ?_) | (apply And.intro) | (intro s hs; (first | (have q := rd_plc hs (toN_row0 neH_rd _) hP; clear hs; subst q))) | (refine Exists.intro _ (And.intro ⟨rfl, rfl, rfl⟩ ?_)))
   . exact fun _ _ => ⟨rfl, okD_sl _⟩
   . exact Eq.mpr (congrArg (fun z : List Hel => z.length <= 9223372036854775807) (toN_row0 neH_rd _)) (by omega)
   change Sem _ _ _ _ _ _ _ _
   refine sem_cut (wd := 1024) (Q := mkQ (LMa g0)) (by decide) tysOk (q_of (LMa_ok g0)) (mono_of (LMa_ok g0)) mixed (SB L 7 (raiseS sd (c.num - 31)) now c deaf draw) (by intro _; rfl) ?_ ?_
   . repeat' (first | (simp only [w1]) | (apply And.intro <;> intro hc <;> (first | exact Bool.noConfusion hc | (exfalso; first | exact absurd rfl hc | omega) | (simp only [zb0, ne_eq, not_true_eq_false] at hc <;> first | exact absurd rfl hc | (exfalso; first | exact absurd rfl hc | omega) | skip) | skip)) | (refine And.intro zp1 ?_) | (apply And.intro) | (intro s hs; skip) | (refine Exists.intro _ (And.intro ⟨rfl, rfl, rfl⟩ ?_)))
     . exact rfl
     . conv => whnf
       rw [show raiseS sd (c.num - 31) = sd from if_pos hc]
       exact ⟨(), [], rfl, ⟨leF_int rfl, leF_bool rfl, leF_int rfl, leF_ptr rfl, leF_c (leC_os rfl rfl), leF_ptr rfl, trivial⟩, ⟨⟨rfl, leN_varA fun j hj => (neC.sh _ j hj).le⟩, ⟨rfl, ⟨rfl, rfl, rfl, rfl, fun p hp j hj => rowA_le hj rfl⟩⟩, ⟨rfl, leN_entN⟩, trivial⟩⟩
     . exact ⟨rfl, okD_sl _⟩
     . exact Eq.mpr (congrArg KpI (toN_row0 neH_rd _)) hk
     . conv => whnf
       have q : sd.held.filter (wantB (some (c.num - 31))) = s := (hs.trans (by rw [toN_row0 neH_rd])).symm
       clear hs
       rw [show raiseS sd (c.num - 31) = ⟨sd.id, c.num - 31, s⟩ from (if_neg hc).trans (by rw [q])]
       refine ⟨(), [(2, some 4141)], rfl, ⟨leF_int rfl, leF_bool rfl, leF_int rfl, leF_ptr rfl, leF_c (leC_os rfl rfl), leF_ptr rfl, trivial⟩, ⟨⟨rfl, leN_varA fun j hj => (neC.sh _ j hj).le⟩, ⟨rfl, ⟨rfl, rfl, rfl, rfl, fun p hp j hj => ?_⟩⟩, ⟨rfl, leN_entN⟩, trivial⟩⟩
       have hj : j < 3 := hj
       refine rowA_to hj (fun h => (updE_ne h).trans ((updE_ne h).trans (rowA_ne h))) fun h => ?_
       subst h
       rcases j with _ | _ | _ | j
       . exact leC_int rfl
       . exact leC_int rfl
       . exact leC_os rfl rfl
       . omega
   . intro _
     refine acc3 g0 L 7 (raiseS sd (c.num - 31)) now c deaf draw ⟨ha, hn, raise_k hk, raise_h hh, hnum, hd, hnow, hdr⟩ R ?_
     rw [hR]
     unfold accS
     rw [if_neg hge, hP]
     cases deaf <;> rfl
theorem acc2_8 (g0 : Nat) (L : List Sed) (a : Nat) (now : Int) (c : Cas) (deaf : Bool) (draw : Int) (hI : AcI L a now c draw) (R : List Sed × Bool × Int) (hR : R = (L.set a (accS (L.getD a default) now c deaf draw).1, (accS (L.getD a default) now c deaf draw).2, 0)) (a3 : a = 8) :
 Sem Try.prog Try.f11.ntmps 0 (dropC 7 (Try.f11.body.getD Code.ret)) (SA L a now c deaf draw ()).fr (SA L a now c deaf draw ()).H (SA L a now c deaf draw ()).nx (endH T Try.f11.results.toList fun x H _ => FinN (some R.1.length) (encAc R) (entN neS 78 R.1) x H) := by
 obtain ⟨ha, hn, hk, hh, hmn, hnum, hd, hnow, hdr⟩ := hI
 unfold SA
 rw [entG_A]
 obtain ⟨sd, es⟩ : ∃ s, L.getD a default = s := ⟨_, rfl⟩
 rw [es] at hk hh hmn hR ⊢
 subst a3
 refine sem_step (wd := 1) (Q := mkQ (LMa g0)) (by decide) tysOk (q_of (LMa_ok g0)) mixed ?_
 repeat' (first | (apply And.intro <;> intro hc <;> (first | exact Bool.noConfusion hc | (exfalso; first | exact absurd rfl hc | omega) | (simp only [zb0, ne_eq, not_true_eq_false] at hc <;> first | exact absurd rfl hc | (exfalso; first | exact absurd rfl hc | omega) | skip) | skip)) | (refine And.intro zp1 ?_) | (apply And.intro) | (intro s hs; skip) | (refine Exists.intro _ (And.intro ⟨rfl, rfl, rfl⟩ ?_)))
 refine sem_step (wd := 1) (Q := mkQ (LMa g0)) (by decide) tysOk (q_of (LMa_ok g0)) mixed ?_
 repeat' (first | (apply And.intro <;> intro hc <;> (first | exact Bool.noConfusion hc | (exfalso; first | exact absurd rfl hc | omega) | (simp only [zb0, ne_eq, not_true_eq_false] at hc <;> first | exact absurd rfl hc | (exfalso; first | exact absurd rfl hc | omega) | skip) | skip)) | (refine And.intro zp1 ?_) | (apply And.intro) | (intro s hs; skip) | (refine Exists.intro _ (And.intro ⟨rfl, rfl, rfl⟩ ?_)))
 . refine fin_acc (s := sd) (d := 2) (hR.trans ?_) ha rfl (fun p h j => rowA_ne h) rfl rfl rfl rfl rfl rfl rfl fun q hq j hj => (neH.sh _ j hj).le
   unfold accS
   rw [if_pos hc]
 have hge := hc
 have w1 : IntKind.i64.wrap (c.num - 31) = c.num - 31 := IntWalk.i64_in _ (by omega)
 obtain ⟨⟨i, b⟩, hP⟩ : ∃ P, plcH c.num sd.held 0 = P := ⟨_, rfl⟩
 have hle := plc_le (id := c.num) (L := sd.held) (k := 0)
 rw [hP, Nat.zero_add] at hle
 dsimp only at hle
 obtain ⟨hle1, hle2, _⟩ := hle
 cases b with
 | true =>
   have hil := hle2 rfl
   clear hle2
   have hR2 : R = (L.set 8 (hearS sd i), false, 0) := by
    rw [hR]; unfold accS; rw [if_neg (by omega), hP]; rfl
   refine sem_step (wd := 1) (Q := mkQ (LMa g0)) (by decide) tysOk (q_of (LMa_ok g0)) mixed ?_
   repeat' (first | (apply And.intro <;> intro hc <;> (first | exact Bool.noConfusion hc | (exfalso; first | exact absurd rfl hc | omega) | (simp only [zb0, ne_eq, not_true_eq_false] at hc <;> first | exact absurd rfl hc | (exfalso; first | exact absurd rfl hc | omega) | skip) | skip)) | (refine And.intro zp1 ?_) | (apply And.intro) | (intro s hs; (first | (have q := rd_plc hs (toN_row0 neH_rd _) hP; clear hs; subst q) | (have q := rd_hear hs (Nat.zero_add i); clear hs; subst q))) | (refine Exists.intro _ (And.intro ⟨rfl, rfl, rfl⟩ ?_)))
   . exact fun _ _ => ⟨rfl, okD_sl _⟩
   . exact Eq.mpr (congrArg (fun z : List Hel => z.length <= 9223372036854775807) (toN_row0 neH_rd _)) (by omega)
   conv => whnf
   have hLh : (hearS sd i).held.length = sd.held.length := List.length_set
   refine fin_acc (s := hearS sd i) (d := 2) hR2 ha rfl (fun p h j => rowA_ne h) rfl rfl (by rw [hLh]; rfl) rfl rfl hLh.symm rfl fun q hq j hj => hel_row hil hj
 | false =>
   clear hle2
   refine sem_step (wd := 1) (Q := mkQ (LMa g0)) (by decide) tysOk (q_of (LMa_ok g0)) mixed ?_
   repeat' (first | (apply And.intro <;> intro hc <;> (first | exact Bool.noConfusion hc | (exfalso; first | exact absurd rfl hc | omega) | (simp only [zb0, ne_eq, not_true_eq_false] at hc <;> first | exact absurd rfl hc | (exfalso; first | exact absurd rfl hc | omega) | skip) | skip)) | (refine And.intro zp1 ?_) | (apply And.intro) | (intro s hs; (first | (have q := rd_plc hs (toN_row0 neH_rd _) hP; clear hs; subst q))) | (refine Exists.intro _ (And.intro ⟨rfl, rfl, rfl⟩ ?_)))
   . exact fun _ _ => ⟨rfl, okD_sl _⟩
   . exact Eq.mpr (congrArg (fun z : List Hel => z.length <= 9223372036854775807) (toN_row0 neH_rd _)) (by omega)
   change Sem _ _ _ _ _ _ _ _
   refine sem_cut (wd := 1024) (Q := mkQ (LMa g0)) (by decide) tysOk (q_of (LMa_ok g0)) (mono_of (LMa_ok g0)) mixed (SB L 8 (raiseS sd (c.num - 31)) now c deaf draw) (by intro _; rfl) ?_ ?_
   . repeat' (first | (simp only [w1]) | (apply And.intro <;> intro hc <;> (first | exact Bool.noConfusion hc | (exfalso; first | exact absurd rfl hc | omega) | (simp only [zb0, ne_eq, not_true_eq_false] at hc <;> first | exact absurd rfl hc | (exfalso; first | exact absurd rfl hc | omega) | skip) | skip)) | (refine And.intro zp1 ?_) | (apply And.intro) | (intro s hs; skip) | (refine Exists.intro _ (And.intro ⟨rfl, rfl, rfl⟩ ?_)))
     . exact rfl
     . conv => whnf
       rw [show raiseS sd (c.num - 31) = sd from if_pos hc]
       exact ⟨(), [], rfl, ⟨leF_int rfl, leF_bool rfl, leF_int rfl, leF_ptr rfl, leF_c (leC_os rfl rfl), leF_ptr rfl, trivial⟩, ⟨⟨rfl, leN_varA fun j hj => (neC.sh _ j hj).le⟩, ⟨rfl, ⟨rfl, rfl, rfl, rfl, fun p hp j hj => rowA_le hj rfl⟩⟩, ⟨rfl, leN_entN⟩, trivial⟩⟩
     . exact ⟨rfl, okD_sl _⟩
     . exact Eq.mpr (congrArg KpI (toN_row0 neH_rd _)) hk
     . conv => whnf
       have q : sd.held.filter (wantB (some (c.num - 31))) = s := (hs.trans (by rw [toN_row0 neH_rd])).symm
       clear hs
       rw [show raiseS sd (c.num - 31) = ⟨sd.id, c.num - 31, s⟩ from (if_neg hc).trans (by rw [q])]
       refine ⟨(), [(2, some 4141)], rfl, ⟨leF_int rfl, leF_bool rfl, leF_int rfl, leF_ptr rfl, leF_c (leC_os rfl rfl), leF_ptr rfl, trivial⟩, ⟨⟨rfl, leN_varA fun j hj => (neC.sh _ j hj).le⟩, ⟨rfl, ⟨rfl, rfl, rfl, rfl, fun p hp j hj => ?_⟩⟩, ⟨rfl, leN_entN⟩, trivial⟩⟩
       have hj : j < 3 := hj
       refine rowA_to hj (fun h => (updE_ne h).trans ((updE_ne h).trans (rowA_ne h))) fun h => ?_
       subst h
       rcases j with _ | _ | _ | j
       . exact leC_int rfl
       . exact leC_int rfl
       . exact leC_os rfl rfl
       . omega
   . intro _
     refine acc3 g0 L 8 (raiseS sd (c.num - 31)) now c deaf draw ⟨ha, hn, raise_k hk, raise_h hh, hnum, hd, hnow, hdr⟩ R ?_
     rw [hR]
     unfold accS
     rw [if_neg hge, hP]
     cases deaf <;> rfl
theorem acc2 (g0 : Nat) (L : List Sed) (a : Nat) (now : Int) (c : Cas) (deaf : Bool) (draw : Int) (hI : AcI L a now c draw) (R : List Sed × Bool × Int) (hR : R = (L.set a (accS (L.getD a default) now c deaf draw).1, (accS (L.getD a default) now c deaf draw).2, 0)) :
 Sem Try.prog Try.f11.ntmps 0 (dropC 7 (Try.f11.body.getD Code.ret)) (SA L a now c deaf draw ()).fr (SA L a now c deaf draw ()).H (SA L a now c deaf draw ()).nx (endH T Try.f11.results.toList fun x H _ => FinN (some R.1.length) (encAc R) (entN neS 78 R.1) x H) := by
 have h : a = 0 \/ a = 1 \/ a = 2 \/ a = 3 \/ a = 4 \/ a = 5 \/ a = 6 \/ a = 7 \/ a = 8 := by have := hI.lt; have := hI.n; omega
 rcases h with h | h | h | h | h | h | h | h | h
 . exact acc2_0 g0 L a now c deaf draw hI R hR h
 . exact acc2_1 g0 L a now c deaf draw hI R hR h
 . exact acc2_2 g0 L a now c deaf draw hI R hR h
 . exact acc2_3 g0 L a now c deaf draw hI R hR h
 . exact acc2_4 g0 L a now c deaf draw hI R hR h
 . exact acc2_5 g0 L a now c deaf draw hI R hR h
 . exact acc2_6 g0 L a now c deaf draw hI R hR h
 . exact acc2_7 g0 L a now c deaf draw hI R hR h
 . exact acc2_8 g0 L a now c deaf draw hI R hR h
theorem time_rng {t : Int} (h : isTimeT t = true) : 0 <= t /\ t <= 1099511627776 := by
 unfold isTimeT at h
 simp only [Bool.and_eq_true, decide_eq_true_eq] at h
 omega
theorem rd_validL {s V : Bool} {M L : List Sed} (hs : s = validL M) (h : M = L) (hV : validL L = V) : V = s := by rw [hs, h, hV]
theorem rd_fnd {s F : Nat × Bool} {id : Int} {M L : List Sed} (hs : s = fndS id M 0) (h : M = L) (hF : fndS id L 0 = F) : F = s := by rw [hs, h, hF]
theorem acc1 (L : List Sed) (now : Int) (c : Cas) (deaf : Bool) (draw : Int) (hL : LHn L) (hdr : drawOk draw) : NewOk Try.prog 11 [(cNS neS neS_sz).enc L, (cI .i64).enc now, (cN neC).enc c, cB.enc deaf, (cI .u32).enc draw] (some (acceptF L now c deaf draw).1.length) (encAc (acceptF L now c deaf draw)) (entN neS 78 (acceptF L now c deaf draw).1) := by
 obtain ⟨R, hR⟩ : ∃ R, acceptF L now c deaf draw = R := ⟨_, rfl⟩
 rw [hR]
 obtain ⟨g, hg⟩ : ∃ g, (if (fndS c.id L 0).2 = true then (fndS c.id L 0).1 else L.length) = g := ⟨_, rfl⟩
 obtain ⟨V, hV⟩ : ∃ V, validL L = V := ⟨_, rfl⟩
 obtain ⟨F, hF⟩ : ∃ F, fndS c.id L 0 = F := ⟨_, rfl⟩
 obtain ⟨B, hB⟩ : ∃ B, isTimeT now = B := ⟨_, rfl⟩
 have g1 : True := trivial
 have g2 : True := trivial
 have g3 : True := trivial
 have hV0 : V = false -> R = ([], false, 1) := fun h => by rw [<- hR]; unfold acceptF; rw [if_pos (.inl (hV.trans h))]
 have hI0 : c.id = 0 -> R = ([], false, 1) := fun h => by rw [<- hR]; unfold acceptF; rw [if_pos (.inr (.inl h))]
 have hD0 : 64 < c.data.length -> R = ([], false, 1) := fun h => by rw [<- hR]; unfold acceptF; rw [if_pos (.inr (.inr h))]
 have h1 : V = true -> ¬ c.id = 0 -> ¬ 64 < c.data.length -> R = if isTimeT now = false \/ c.num < 0 \/ 1073741824 <= c.num then ([], false, 2) else
  if F.2 = false /\ 8 <= L.length then ([], false, 10) else
  ((accL c L).set F.1 (accS ((accL c L).getD F.1 default) now c deaf draw).1, (accS ((accL c L).getD F.1 default) now c deaf draw).2, 0) := fun ha hb hd => by
  rw [<- hR]; unfold acceptF; rw [if_neg (by rw [hV, ha]; simp; omega), hF]
 clear hR
 refine new_introS tysOk Try.func11 rfl _ (by show 5 <= _; decide) (fun i _ j hj => rowN_nf _ hj) ?_
 refine sem_step (wd := 1) (Q := mkQ (LMa g)) (by decide) tysOk (q_of (LMa_ok g)) mixed ?_
 refine sem_step (wd := 1) (Q := mkQ (LMa g)) (by decide) tysOk (q_of (LMa_ok g)) mixed ?_
 repeat' (first | (apply And.intro <;> intro hc <;> (first | exact Bool.noConfusion hc | (exfalso; first | exact absurd rfl hc) | (simp only [zb0, ne_eq, not_true_eq_false] at hc <;> first | exact absurd rfl hc | (exfalso; first | exact absurd rfl hc) | skip) | skip)) | (refine And.intro zp1 ?_) | (apply And.intro) | (intro s hs; (have q : V = s := rd_validL hs (toN_row neS_rd _) hV; clear hs; subst q)) | (refine Exists.intro _ (And.intro ⟨rfl, rfl, rfl⟩ ?_)))
 . exact fun _ _ => ⟨rfl, okHs_sl _⟩
 . exact Eq.mpr (congrArg LHn (toN_row neS_rd _)) hL
 . exact fin_err (hV0 (by assumption))
 . exact fin_err (hI0 (by assumption))
 . exact fin_err (hD0 (by omega))
 rename_i hi
 have h2 := h1 (by assumption) hi (by omega)
 clear h1 hV0 hI0 hD0
 refine sem_step (wd := 1) (Q := mkQ (LMa g)) (by decide) tysOk (q_of (LMa_ok g)) mixed ?_
 repeat' (first | (apply And.intro <;> intro hc <;> (first | exact Bool.noConfusion hc | (exfalso; first | exact absurd rfl hc) | (simp only [zb0, ne_eq, not_true_eq_false] at hc <;> first | exact absurd rfl hc | (exfalso; first | exact absurd rfl hc) | skip) | skip)) | (refine And.intro zp1 ?_) | (apply And.intro) | (intro s hs; (have q : B = s := hB.symm.trans hs.symm; clear hs; subst q)) | (refine Exists.intro _ (And.intro ⟨rfl, rfl, rfl⟩ ?_)))
 . exact fin_err (h2.trans (if_pos (.inl (hB.trans (by assumption)))))
 . exact fin_err (h2.trans (if_pos (.inr (.inl (by assumption)))))
 . exact fin_err (h2.trans (if_pos (.inr (.inr hc))))
 rename_i hn
 have h3 := h2.trans (if_neg (by rw [hB, show B = true by assumption]; simp; omega))
 clear h2
 have hVt : validL L = true := hV.trans (by assumption)
 have hCl := vl_cl hVt
 have hl8 := vl_len hVt
 refine sem_step (wd := 1) (Q := mkQ (LMa g)) (by decide) tysOk (q_of (LMa_ok g)) mixed ?_
 repeat' (first | (apply And.intro <;> intro hc <;> (first | exact Bool.noConfusion hc | (exfalso; first | exact absurd rfl hc) | (simp only [zb0, ne_eq, not_true_eq_false] at hc <;> first | exact absurd rfl hc | (exfalso; first | exact absurd rfl hc) | skip) | skip)) | (refine And.intro zp1 ?_) | (apply And.intro) | (intro s hs; (have q : F = s := rd_fnd hs (toN_row neS_rd _) hF; clear hs; subst q)) | (refine Exists.intro _ (And.intro ⟨rfl, rfl, rfl⟩ ?_)))
 . exact fun _ _ => ⟨rfl, okHs_sl _⟩
 . exact Eq.mpr (congrArg (fun z : List Sed => z.length <= 9223372036854775807) (toN_row neS_rd _)) hL.n
 refine sem_step (wd := 1) (Q := mkQ (LMa g)) (by decide) tysOk (q_of (LMa_ok g)) mixed ?_
 repeat' (first | (apply And.intro <;> intro hc <;> (first | exact Bool.noConfusion hc | (exfalso; first | exact absurd rfl hc) | (simp only [zb0, ne_eq, not_true_eq_false] at hc <;> first | exact absurd rfl hc | (exfalso; first | exact absurd rfl hc) | skip) | skip)) | (refine And.intro zp1 ?_) | (apply And.intro) | (intro s hs; skip) | (refine Exists.intro _ (And.intro ⟨rfl, rfl, rfl⟩ ?_)))
 . exact fin_err (h3.trans (if_pos ⟨by assumption, by omega⟩))
 . rename_i hu
   have h4 := h3.trans (if_neg (by omega))
   clear h3
   rw [hF, if_neg (by rw [hu]; simp)] at hg
   have eA : accL c L = insA F.1 ⟨c.id, c.num, []⟩ L := by
    unfold accL; rw [hF, if_neg (by rw [hu]; simp)]
   obtain ⟨f1, _, _⟩ := fnd_le (id := c.id) (L := L) (k := 0)
   rw [hF, Nat.zero_add] at f1
   have w1 : IntKind.i64.wrap ((F.1 : Int) + 1) = ((F.1 + 1 : Nat) : Int) := (IntWalk.i64_in _ (by omega)).trans (by omega)
   refine sem_step (wd := 2) (Q := mkQ (LMa g)) (by decide) tysOk (q_of (LMa_ok g)) mixed ?_
   repeat' (first | (apply And.intro <;> intro hc <;> (first | exact Bool.noConfusion hc | (exfalso; first | exact absurd rfl hc) | (simp only [zb0, ne_eq, not_true_eq_false] at hc <;> first | exact absurd rfl hc | (exfalso; first | exact absurd rfl hc) | skip) | skip)) | (refine And.intro zp1 ?_) | (apply And.intro) | (intro s hs; (have q : L = s := (hs.trans (toN_row neS_rd _)).symm; clear hs; subst q)) | (refine Exists.intro _ (And.intro ⟨rfl, rfl, rfl⟩ ?_)))
   . exact fun _ _ => ⟨rfl, okHs_sl _⟩
   . exact Eq.mpr (congrArg ClI (toN_row neS_rd _)) hCl
   change Sem _ _ _ _ _ _ _ _
   refine sem_cut (wd := 1) (Q := mkQ (LMa g)) (by decide) tysOk (q_of (LMa_ok g)) (mono_of (LMa_ok g)) mixed (SA (accL c L) F.1 now c deaf draw) (by intro _; rfl) ?_ ?_
   . repeat' (first | (simp only [w1]) | (apply And.intro <;> intro hc <;> (first | exact Bool.noConfusion hc | (exfalso; first | exact absurd rfl hc | (rw [hu] at hc; exact Bool.noConfusion hc)) | (simp only [zb0, ne_eq, not_true_eq_false] at hc <;> first | exact absurd rfl hc | (exfalso; first | exact absurd rfl hc | (rw [hu] at hc; exact Bool.noConfusion hc)) | skip) | skip)) | (refine And.intro zp1 ?_) | (apply And.intro) | (intro s hs; skip) | (refine Exists.intro _ (And.intro ⟨rfl, rfl, rfl⟩ ?_)))
     conv => whnf
     refine ⟨(), [(1, some 58), (2, none)], rfl, ⟨leF_int rfl, leF_bool rfl, leF_int rfl, leF_ptr rfl, leF_int rfl, leF_c (leC_os rfl (by rw [eA, insA_len f1])), trivial⟩, ⟨⟨rfl, leN_varA fun j hj => (neC.sh _ j hj).le⟩, ⟨rfl, ⟨rfl, by show L.length + 1 = (accL c L).length; rw [eA, insA_len f1], rfl, rfl, fun p hp j hj => ?_⟩⟩, ?_, trivial⟩⟩
     . have hj : j < 3 := hj
       have hp : p < L.length + 1 := hp
       show LeC _ _ (rowG 2 F.1 (accL c L) p j)
       refine ins_cells (r := rowG 50 g L) f1 ?_ hp (fun h => ?_) (fun h => ?_) (fun h => ?_)
       . show min (L.length + 1 - F.1) (L.length + 1 - (F.1 + 1)) = _
         omega
       . rw [rowG_i (.inl (by omega)), rowG_i (.inl (by omega)), eA, show rowN neS (insA F.1 ⟨c.id, c.num, []⟩ L) p j = rowN neS L p j from congrArg (fun z => neS.cell z j) (insA_lt f1 h)]
         exact (neS.sh _ j hj).le
       . subst h
         rcases j with _ | _ | _ | j
         . rw [rowG_i (.inr (by decide)), eA, show rowN neS (insA F.1 ⟨c.id, c.num, []⟩ L) F.1 0 = _ from congrArg (fun z => neS.cell z 0) (insA_eq f1)]
           exact leC_int rfl
         . rw [rowG_i (.inr (by decide)), eA, show rowN neS (insA F.1 ⟨c.id, c.num, []⟩ L) F.1 1 = _ from congrArg (fun z => neS.cell z 1) (insA_eq f1)]
           exact leC_int rfl
         . rw [rowG_g, eA, insA_eq f1]
           exact leC_nils_os rfl
         . omega
       . rw [rowG_i (.inl (by omega)), rowG_i (.inl (by omega)), eA, show rowN neS (insA F.1 ⟨c.id, c.num, []⟩ L) p j = rowN neS L (p - 1) j from congrArg (fun z => neS.cell z j) (insA_gt f1 h)]
         exact (neS.sh _ j hj).le
     . rw [eA, insA_eq f1]
       exact ⟨rfl, rfl, rfl, Nat.le_of_ble_eq_true rfl⟩
   . intro _
     refine acc2 g (accL c L) F.1 now c deaf draw ⟨?_, ?_, ?_, ?_, ?_, ⟨by omega, by omega⟩, by omega, time_rng (hB.trans (by assumption)), hdr⟩ R h4
     . rw [eA, insA_len f1]; omega
     . rw [eA, insA_len f1]; omega
     . rw [eA, insA_eq f1]; exact ⟨Nat.zero_le _, fun x hx => by cases hx⟩
     . rw [eA, insA_eq f1]; exact Nat.zero_le _
     . rw [eA, insA_eq f1]; exact ⟨by dsimp only; omega, by dsimp only; omega⟩
 . rename_i hu
   have h4 := h3.trans (if_neg (by rw [hu]; simp))
   clear h3
   rw [hF, if_pos hu] at hg
   have eA : accL c L = L := by
    unfold accL; rw [hF, if_pos hu]
   obtain ⟨_, f2, _⟩ := fnd_le (id := c.id) (L := L) (k := 0)
   rw [hF, Nat.zero_add] at f2
   have hlt := f2 hu
   refine sem_step (wd := 2) (Q := mkQ (LMa g)) (by decide) tysOk (q_of (LMa_ok g)) mixed ?_
   repeat' (first | (apply And.intro <;> intro hc <;> (first | exact Bool.noConfusion hc | (exfalso; first | exact absurd rfl hc) | (simp only [zb0, ne_eq, not_true_eq_false] at hc <;> first | exact absurd rfl hc | (exfalso; first | exact absurd rfl hc) | skip) | skip)) | (refine And.intro zp1 ?_) | (apply And.intro) | (intro s hs; (have q : L = s := (hs.trans (toN_row neS_rd _)).symm; clear hs; subst q)) | (refine Exists.intro _ (And.intro ⟨rfl, rfl, rfl⟩ ?_)))
   . exact fun _ _ => ⟨rfl, okHs_sl _⟩
   . exact Eq.mpr (congrArg ClI (toN_row neS_rd _)) hCl
   change Sem _ _ _ _ _ _ _ _
   refine sem_cut (wd := 1) (Q := mkQ (LMa g)) (by decide) tysOk (q_of (LMa_ok g)) (mono_of (LMa_ok g)) mixed (SA (accL c L) F.1 now c deaf draw) (by intro _; rfl) ?_ ?_
   . repeat' (first | (apply And.intro <;> intro hc <;> (first | exact Bool.noConfusion hc | (exfalso; first | exact absurd rfl hc | (rw [hu] at hc; exact Bool.noConfusion hc)) | (simp only [zb0, ne_eq, not_true_eq_false] at hc <;> first | exact absurd rfl hc | (exfalso; first | exact absurd rfl hc | (rw [hu] at hc; exact Bool.noConfusion hc)) | skip) | skip)) | (refine And.intro zp1 ?_) | (apply And.intro) | (intro s hs; skip) | (refine Exists.intro _ (And.intro ⟨rfl, rfl, rfl⟩ ?_)))
     conv => whnf
     rw [eA]
     subst hg
     exact ⟨(), [(1, some 49), (2, some 50)], rfl, ⟨leF_int rfl, leF_bool rfl, leF_int rfl, leF_ptr rfl, leF_int rfl, leF_c (leC_os rfl rfl), trivial⟩, ⟨⟨rfl, leN_varA fun j hj => (neC.sh _ j hj).le⟩, ⟨rfl, ⟨rfl, rfl, rfl, rfl, fun p hp j hj => rowG_le hj fun _ => rfl⟩⟩, ⟨rfl, leN_entN⟩, trivial⟩⟩
   . intro _
     have hS := (vl_mem hVt _ (getD_mem hlt)).2
     refine acc2 g (accL c L) F.1 now c deaf draw ⟨?_, ?_, ?_, ?_, ?_, ⟨by omega, by omega⟩, by omega, time_rng (hB.trans (by assumption)), hdr⟩ R h4
     . rw [eA]; exact hlt
     . rw [eA]; omega
     . rw [eA]; exact hS.k
     . rw [eA]; exact hS.n
     . rw [eA]; exact hS.mn
structure AccP (L : List Sed) (d : Int) : Prop where
 h : LHn L
 d : drawOk d
abbrev acceptE : Entry := newE (AC.cons (cNS neS neS_sz) (AC.cons (cI .i64) (AC.cons (cN neC) (AC.cons cB (AC.cons (cI .u32) AC.nil))))) (fun a => AccP a.1 a.2.2.2.2.1) (fun a => acceptF a.1 a.2.1 a.2.2.1 a.2.2.2.1 a.2.2.2.2.1) (fun s => some s.1.length) encAc (fun s => entN neS 78 s.1)
theorem acceptE_ok : EntOk Try.prog 11 acceptE := newE_ok ⟨_, Try.func11, rfl, by kernel_rfl⟩ (fun s l h x hx => by
 injection h with h
 subst h
 rcases List.mem_cons.1 hx with rfl | hx
 . exact nfE_c nf_bool
 . rcases List.mem_cons.1 hx with rfl | hx
   . exact nfE_c nf_int
   . cases hx) fun a h => acc1 a.1 a.2.1 a.2.2.1 a.2.2.2.1 a.2.2.2.2.1 h.h h.d
theorem vl_hn {L : List Sed} (h : validL L = true) : LHn L := ⟨fun x hx => by have := (vl_mem h x hx).2.n; omega, by have := vl_len h; omega⟩
theorem okD_nil : okD .nils := by first | exact trivial | exact .nils | exact .inl rfl | exact rfl
def kc35 : Cas := ⟨7, 5, [1]⟩
def ka35 : List Sed × Bool × Int := acceptF [] 3 kc35 false 0
def kb35 : List Sed × Bool × Int := acceptF ka35.1 4 kc35 false 0
def kd35 : List Sed × Bool × Int := acceptF kb35.1 4 ⟨7, 4, []⟩ false 0
theorem kn35 : ka35.2 = (true, 0) /\ kb35.2 = (false, 0) /\ kd35.2 = (false, 0) /\ kb35.1.length = 1 /\ (kb35.1.getD 0 default).held.length = 1 /\ ((kb35.1.getD 0 default).held.getD 0 default).tm.heard = 1 := by decide +kernel
theorem rd_acc {s K : List Sed × Bool × Int} {M L : List Sed} {now : Int} {c c' : Cas} {deaf : Bool} {draw : Int} (hs : s = acceptF M now c' deaf draw) (h : M = L) (hc : c' = c) (hK : acceptF L now c deaf draw = K) : K = s := by rw [hs, h, hc, hK]
def LMd : CsL := (11, some acceptE) :: []
theorem LMd_ok : AllOk Try.prog LMd := ⟨acceptE_ok, trivial⟩
def SKn (_ : Unit) : Hd := ⟨[(1, one (.ptr 0 0 0 false))], [(0, some ⟨32, 1, 3, true, fun _ => neC.cell kc35⟩)], 1⟩
theorem dr0 : drawOk 0 := by unfold drawOk; omega
theorem known35_ok : PureOk Try.prog 12 [] (cB.enc true) := by
 obtain ⟨k1, k2, k3, k4, k5, k6⟩ := kn35
 have v1 : LHn ka35.1 := vl_hn (acceptF_ok (by decide) (congrArg Prod.snd k1))
 have v2 : LHn kb35.1 := vl_hn (acceptF_ok (by decide) (congrArg Prod.snd k2))
 obtain ⟨A, eA⟩ : ∃ A, ka35 = A := ⟨_, rfl⟩
 obtain ⟨B, eB'⟩ : ∃ A, kb35 = A := ⟨_, rfl⟩
 obtain ⟨D, eD⟩ : ∃ A, kd35 = A := ⟨_, rfl⟩
 have hA : acceptF [] 3 kc35 false 0 = A := eA
 have hB : acceptF A.1 4 kc35 false 0 = B := by rw [<- eA]; exact eB'
 have hD : acceptF B.1 4 ⟨7, 4, []⟩ false 0 = D := by rw [<- eB']; exact eD
 rw [eA] at k1 v1
 rw [eB'] at k2 k4 k5 k6 v2
 rw [eD] at k3
 clear eA eB' eD
 obtain ⟨a1, a2, a3⟩ := A
 obtain ⟨b1, b2, b3⟩ := B
 obtain ⟨d1, d2, d3⟩ := D
 dsimp only at k1 k2 k3 k4 k5 k6 v1 v2
 injection k1 with k1 k1'
 injection k2 with k2 k2'
 injection k3 with k3 k3'
 subst k1 k1' k2 k2' k3 k3'
 refine pure_introS tysOk Try.func12 rfl _ (by show 0 <= _; decide) _ ?_
 refine sem_step (wd := 1) (Q := mkQ LMd) (by decide) tysOk (q_of LMd_ok) mixed ?_
 change Sem _ _ _ _ _ _ _ _
 refine sem_cut (wd := 1) (Q := mkQ LMd) (by decide) tysOk (q_of LMd_ok) (mono_of LMd_ok) mixed SKn (by intro _; rfl) ?_ ?_
 . conv => whnf
   refine ⟨(), [(0, some 3)], rfl, ⟨leF_ptr rfl, trivial⟩, ⟨⟨rfl, leN_varA fun j hj => ?_⟩, trivial⟩⟩
   rcases j with _ | _ | _ | j
   . exact leC_int rfl
   . exact leC_int rfl
   . refine leC_os_sl rfl rfl rfl rfl (Nat.le_refl _) fun q hq j hj => ?_
     rcases q with _ | q
     . rcases j with _ | j
       . exact leC_int rfl
       . exact absurd hj (by show ¬ _ < 1; omega)
     . exact absurd hq (by omega)
   . exact absurd hj (by show ¬ _ < 3; omega)
 intro _
 refine sem_exec (wd := 1) (Q := mkQ LMd) (by decide) tysOk (q_of LMd_ok) mixed ?_
 repeat' (first | (apply And.intro <;> intro hc <;> (first | exact Bool.noConfusion hc | (exfalso; first | exact absurd rfl hc | omega) | (simp only [zb0, ne_eq, not_true_eq_false] at hc <;> first | exact absurd rfl hc | (exfalso; first | exact absurd rfl hc | omega) | skip) | skip)) | (refine And.intro zp1 ?_) | (apply And.intro) | (intro s hs; (first | (have q := rd_acc hs rfl (neC_rd _) hA; clear hs; subst q) | (have q := rd_acc hs (toN_row0 neS_rd _) (neC_rd _) hB; clear hs; subst q) | (have q := rd_acc hs (toN_row0 neS_rd _) rfl hD; clear hs; subst q))) | (refine Exists.intro _ (And.intro ⟨rfl, rfl, rfl⟩ ?_)))
 . exact ⟨rfl, okD_sl _⟩
 . exact ⟨⟨fun x hx => (List.not_mem_nil hx).elim, Nat.zero_le _⟩, dr0⟩
 . exact fun _ _ => ⟨rfl, okHs_sl _⟩
 . exact ⟨rfl, okD_sl _⟩
 . exact ⟨Eq.mpr (congrArg LHn (toN_row0 neS_rd _)) v1, dr0⟩
 . exact fun _ _ => ⟨rfl, okHs_sl _⟩
 . exact ⟨rfl, okD_nil⟩
 . exact ⟨Eq.mpr (congrArg LHn (toN_row0 neS_rd _)) v2, dr0⟩
 . conv => whnf
   exact Done.mk (leF_bool (decide_eq_true k6))
 . exact absurd (congrArg (fun n : Nat => (n : Int)) k5) hc
abbrev known35E : Entry := pureE AC.nil (fun _ => True) (fun _ => true) cB.enc
theorem known35E_ok : EntOk Try.prog 12 known35E := pureE_ok ⟨_, Try.func12, rfl, by kernel_rfl⟩ fun a _ => known35_ok
structure LHp (L : List Sed) : Prop where
 h : LHn L
 i : ∀ x ∈ L, 0 <= x.id
def prevI (L : List Sed) (i : Nat) : Int := if i = 0 then 0 else (L.getD (i - 1) default).id
def prevH (mn : Int) (L : List Hel) (k : Nat) : Int := if k = 0 then mn - 1 else (L.getD (k - 1) default).num
structure RvI (L : List Hel) (mn : Int) (V : Bool) where
 k : Nat
 hk : k <= L.length
 hV : validHs mn (prevH mn L k) (L.drop k) = V
 hg : k ≠ 0 -> mn <= (L.getD (k - 1) default).num
def LRa : CsL := (69, some validE) :: (63, some timeE) :: []
theorem LRa_ok : AllOk Try.prog LRa := ⟨pureE_ok ⟨_, Try.func69, rfl, by kernel_rfl⟩ fun a h => TkR.valid_ok _, pureE_ok ⟨_, Try.func63, rfl, by kernel_rfl⟩ fun a _ => TkR.tkTime_ok a.1, trivial⟩
structure RvN (L : List Hel) (mn : Int) (k : Nat) (V : Bool) : Prop where
 n1 : (L.getD k default).num < mn -> false = V
 n2 : mn + 31 < (L.getD k default).num -> false = V
 n3 : 1073741824 <= (L.getD k default).num -> false = V
 n4 : 64 < (L.getD k default).data.length -> false = V
 n5 : validT (L.getD k default).tm = false -> false = V
 n6 : isTimeT (L.getD k default).til = false -> false = V
 n7 : k ≠ 0 -> (L.getD k default).num <= (L.getD (k - 1) default).num -> false = V
 y : ¬ (L.getD k default).num < mn -> ¬ mn + 31 < (L.getD k default).num -> ¬ 1073741824 <= (L.getD k default).num -> ¬ 64 < (L.getD k default).data.length -> validT (L.getD k default).tm = true -> isTimeT (L.getD k default).til = true -> (k = 0 \/ ¬ (L.getD k default).num <= (L.getD (k - 1) default).num) -> validHs mn (prevH mn L (k + 1)) (L.drop (k + 1)) = V
theorem rv_step {L : List Hel} {mn : Int} {V : Bool} {k : Nat} (hk : k < L.length) (hV : validHs mn (prevH mn L k) (L.drop k) = V) (hg : k ≠ 0 -> mn <= (L.getD (k - 1) default).num) : RvN L mn k V := by
 have hs := vh_step hk hV
 have hp : mn - 1 <= prevH mn L k := by
  unfold prevH; split
  . exact Int.le_refl _
  . have := hg (by assumption); omega
 have e : ∀ {a b c d e f g : Bool}, V = (a && b && c && d && e && f && g) -> (a = false \/ b = false \/ c = false \/ d = false \/ e = false \/ f = false) -> false = V := by
  intro a b c d e f g h h2
  rw [h]
  rcases h2 with rfl | rfl | rfl | rfl | rfl | rfl <;> simp
 refine ⟨fun g => e hs (.inl (decide_eq_false (by omega))), fun g => e hs (.inr (.inl (decide_eq_false (by omega)))), fun g => e hs (.inr (.inr (.inl (decide_eq_false (by omega))))), fun g => e hs (.inr (.inr (.inr (.inl (decide_eq_false (by omega)))))), fun g => e hs (.inr (.inr (.inr (.inr (.inl g))))), fun g => e hs (.inr (.inr (.inr (.inr (.inr g))))), fun g1 g2 => e hs (.inl (decide_eq_false (by unfold prevH; rw [if_neg g1]; omega))), fun g1 g2 g3 g4 g5 g6 g7 => ?_⟩
 rw [hs]
 show validHs mn (L.getD k default).num (L.drop (k + 1)) = _
 rw [decide_eq_true (p := prevH mn L k < (L.getD k default).num) (by
  unfold prevH; split
  . omega
  . rcases g7 with g7 | g7
    . exact absurd g7 (by assumption)
    . omega), decide_eq_true (p := (L.getD k default).num < mn + 32) (by omega), decide_eq_true (p := (L.getD k default).num < 1073741824) (by omega), decide_eq_true (p := (L.getD k default).data.length <= 64) (by omega), g5, g6]
 simp
theorem prevI_nn {L : List Sed} (hL : LHp L) {i : Nat} (hi : i <= L.length) : 0 <= prevI L i := by
 unfold prevI
 split
 . exact Int.le_refl _
 . exact hL.i _ (getD_in (by omega))
theorem rvalid_ok (L : List Sed) (hL : LHp L) : PureOk Try.prog 40 [(cNS neS neS_sz).enc L] (cB.enc (validL L)) := by
 have hn := hL.h.n
 unfold validL
 obtain ⟨V, hV⟩ : ∃ V, validSs 0 L = V := ⟨_, rfl⟩
 rw [hV]
 refine pure_intro (wd := 1) (Q := mkQ LRa) (by decide) tysOk (q_of LRa_ok) mixed Try.func40 rfl _ (by show 1 <= _; decide) _ ?_
 repeat' (first | (apply And.intro <;> intro hc <;> (first | exact Bool.noConfusion hc | (exfalso; first | exact absurd rfl hc | omega) | (simp only [zb0, ne_eq, not_true_eq_false] at hc <;> first | exact absurd rfl hc | (exfalso; first | exact absurd rfl hc | omega) | skip) | skip)) | (refine And.intro zp1 ?_) | (apply And.intro) | (intro s hs; skip))
 . refine Done.mk (leF_bool ?_)
   rw [decide_eq_false (p := L.length <= 8) (by omega)]; rfl
 have hl8 : L.length <= 8 := by omega
 rw [decide_eq_true (p := L.length <= 8) hl8, Bool.true_and]
 conv => whnf
 refine loop_intro (mono_of LRa_ok) (fun s : {i : Nat // i <= L.length /\ validSs (prevI L i) (L.drop i) = V} => (⟨[(0, one (slBN neS L)), (10, one (slBN neS L)), (11, one (.int .i64 (L.length : Int))), (12, one (.int .i64 (s.1 : Int)))], [], 1⟩ : Hd)) (fun s => L.length - s.1) (fun _ => rfl) ?_ ⟨0, Nat.zero_le _, hV⟩ [] ⟨rfl, ⟨leF_c (leC_cl (cl_slBN L)), leF_c (leC_cl (cl_slBN L)), leF_int rfl, leF_int rfl, trivial⟩, trivial⟩
 rintro ⟨i, hi, hVi⟩
 dsimp only at hi hVi ⊢
 unfold slBN
 by_cases hil : i < L.length
 . have hst := vs_step hil hVi
   obtain ⟨x, ex⟩ : ∃ x, L.getD i default = x := ⟨_, rfl⟩
   have hx0 : 0 <= x.id := by rw [<- ex]; exact hL.i _ (getD_in hil)
   have hxn : x.held.length <= 9223372036854775807 := by rw [<- ex]; exact hL.h.h _ (getD_in hil)
   rw [ex] at hst
   have z0 : (i : Int).toNat = i := rfl
   have zi : ((i : Int) - 1).toNat = i - 1 := by omega
   have ec : rowN neS L i = neS.cell x := congrArg neS.cell ex
   have w3 : IntKind.i64.wrap ((i : Int) + 1) = ((i + 1 : Nat) : Int) := (IntWalk.i64_in _ (by omega)).trans (by omega)
   have w4 : IntKind.i64.wrap ((i : Int) - 1) = (i : Int) - 1 := IntWalk.i64_in _ (by omega)
   repeat' (first | (simp only [z0, ec, w4]) | (apply And.intro <;> intro hc <;> (first | exact Bool.noConfusion hc | (exfalso; first | exact absurd rfl hc | omega) | (simp only [zb0, ne_eq, not_true_eq_false] at hc <;> first | exact absurd rfl hc | (exfalso; first | exact absurd rfl hc | omega) | skip) | skip)) | (refine And.intro zp1 ?_) | (apply And.intro) | (intro s hs; skip))
   . refine Done.mk (leF_bool ?_)
     have : x.id = 0 := by assumption
     rw [hst, decide_eq_false (p := prevI L i < x.id) (by have := prevI_nn hL (by omega : i <= L.length); omega)]; rfl
   . refine Done.mk (leF_bool ?_)
     rw [hst]; unfold validSd
     rw [decide_eq_false (p := 0 <= x.mn) (by omega)]; simp
   . refine Done.mk (leF_bool ?_)
     rw [hst]; unfold validSd
     rw [decide_eq_false (p := x.mn <= 1073741824) (by omega)]; simp
   . refine Done.mk (leF_bool ?_)
     rw [hst]; unfold validSd
     rw [decide_eq_false (p := x.held.length <= 32) (by omega)]; simp
   . refine Done.mk (leF_bool ?_)
     rw [hst, decide_eq_false (p := prevI L i < x.id) (by unfold prevI; rw [if_neg (by omega)]; have h := hc; rw [zi] at h; omega)]; rfl
   . have hle2 : prevI L i < x.id := by unfold prevI; rw [if_neg (by omega)]; have h := hc; rw [zi] at h; omega
     have hVe : V = (validHs x.mn (x.mn - 1) x.held && validSs x.id (L.drop (i + 1))) := by
      rw [hst, decide_eq_true (p := prevI L i < x.id) hle2]
      unfold validSd
      rw [decide_eq_true (p := 0 <= x.mn) (by omega), decide_eq_true (p := x.mn <= 1073741824) (by omega), decide_eq_true (p := x.held.length <= 32) (by omega)]
      simp
     obtain ⟨U, hU⟩ : ∃ U, validHs x.mn (x.mn - 1) x.held = U := ⟨_, rfl⟩
     rw [hU] at hVe
     have hUf : false = U -> false = V := fun h => by rw [hVe, <- h]; rfl
     have hx32 : x.held.length <= 32 := by omega
     have hm0 : 0 <= x.mn := by omega
     have hm1 : x.mn <= 1073741824 := by omega
     conv => whnf
     refine loop_intro (mono_of LRa_ok) (fun s : RvI x.held x.mn U => (⟨[(0, one (slBN neS L)), (10, one (slBN neS L)), (11, one (.int .i64 (L.length : Int))), (12, one (.int .i64 (i : Int))), (4, one (.ptr 1 0 0 false)), (52, one (slN neH x.held)), (53, one (.int .i64 (x.held.length : Int))), (54, one (.int .i64 (s.k : Int)))], [(1, some ⟨78, 1, 3, true, fun _ => neS.cell x⟩)], 2⟩ : Hd)) (fun s => x.held.length - s.k) (fun _ => rfl) ?_ ⟨0, Nat.zero_le _, hU, fun h => absurd rfl h⟩ [(1, some 5)] ⟨rfl, ⟨leF_c (leC_cl (cl_slBN L)), leF_c (leC_cl (cl_slBN L)), leF_int rfl, leF_int rfl, leF_ptr rfl, leF_c (sh_slN _).le, leF_int rfl, leF_int rfl, trivial⟩, ⟨rfl, leN_varA fun j hj => (neS.sh _ j hj).le⟩, trivial⟩
     rintro ⟨k, hk, hVk, hgk⟩
     dsimp only at hk hVk hgk ⊢
     by_cases hkl : k < x.held.length
     . have hr := rv_step hkl hVk hgk
       have zk : (k : Int).toNat = k := rfl
       have w5 : IntKind.i64.wrap ((k : Int) + 1) = ((k + 1 : Nat) : Int) := (IntWalk.i64_in _ (by omega)).trans (by omega)
       have w6 : IntKind.i64.wrap ((k : Int) - 1) = (k : Int) - 1 := IntWalk.i64_in _ (by omega)
       have w7 : IntKind.i64.wrap (x.mn + 31) = x.mn + 31 := IntWalk.i64_in _ (by omega)
       have zp : ((k : Int) - 1).toNat = k - 1 := by omega
       obtain ⟨h, eh⟩ : ∃ h, x.held.getD k default = h := ⟨_, rfl⟩
       have eck : rowN neH x.held k = neH.cell h := congrArg neH.cell eh
       obtain ⟨n1, n2, n3, n4, n5, n6, n7, ny⟩ := hr
       rw [eh] at n1 n2 n3 n4 n5 n6 n7 ny
       obtain ⟨A, eA⟩ : ∃ A, validT h.tm = A := ⟨_, rfl⟩
       obtain ⟨B, eB'⟩ : ∃ A, isTimeT h.til = A := ⟨_, rfl⟩
       rw [eA] at n5 ny
       rw [eB'] at n6 ny
       repeat' (first | (simp only [zk, eck, w6, w7, zp]) | (apply And.intro <;> intro hc <;> (first | exact Bool.noConfusion hc | (exfalso; first | exact absurd rfl hc | omega) | (simp only [zb0, ne_eq, not_true_eq_false] at hc <;> first | exact absurd rfl hc | (exfalso; first | exact absurd rfl hc | omega) | skip) | skip)) | (refine And.intro zp1 ?_) | (apply And.intro) | (intro s hs; (first | (have q : A = s := eA.symm.trans hs.symm; clear hs; subst q) | (have q : B = s := eB'.symm.trans hs.symm; clear hs; subst q))))
       . exact Done.mk (leF_bool (hUf (n1 (by omega))))
       . exact Done.mk (leF_bool (hUf (n2 (by omega))))
       . exact Done.mk (leF_bool (hUf (n3 (by omega))))
       . exact Done.mk (leF_bool (hUf (n4 (by omega))))
       . exact Done.mk (leF_bool (hUf (n5 (by assumption))))
       . exact Done.mk (leF_bool (hUf (n6 (by assumption))))
       . exact Done.mk (leF_bool (hUf (n7 (by omega) (by omega))))
       . conv => whnf
         exact ⟨⟨k + 1, hkl, ny (by omega) (by omega) (by omega) (by omega) (by assumption) (by assumption) (.inr (by omega)), fun _ => by show x.mn <= (x.held.getD k default).num; rw [eh]; omega⟩, [], by dsimp only; omega, rfl, ⟨leF_c (leC_cl (cl_slBN L)), leF_c (leC_cl (cl_slBN L)), leF_int rfl, leF_int rfl, leF_ptr rfl, leF_c (sh_slN _).le, leF_int rfl, leF_int w5, trivial⟩, ⟨rfl, leN_varA fun j hj => (neS.sh _ j hj).le⟩, trivial⟩
       . conv => whnf
         exact ⟨⟨k + 1, hkl, ny (by omega) (by omega) (by omega) (by omega) (by assumption) (by assumption) (.inl (by omega)), fun _ => by show x.mn <= (x.held.getD k default).num; rw [eh]; omega⟩, [], by dsimp only; omega, rfl, ⟨leF_c (leC_cl (cl_slBN L)), leF_c (leC_cl (cl_slBN L)), leF_int rfl, leF_int rfl, leF_ptr rfl, leF_c (sh_slN _).le, leF_int rfl, leF_int w5, trivial⟩, ⟨rfl, leN_varA fun j hj => (neS.sh _ j hj).le⟩, trivial⟩
     . have hUt : U = true := by rw [<- hVk, List.drop_of_length_le (by omega)]; rfl
       have hnx : validSs (prevI L (i + 1)) (L.drop (i + 1)) = V := by rw [hVe, hUt, Bool.true_and]; unfold prevI; rw [if_neg (Nat.succ_ne_zero i), Nat.add_sub_cancel, ex]
       repeat' (first | (apply And.intro <;> intro hc <;> (first | exact Bool.noConfusion hc | (exfalso; first | exact absurd rfl hc | omega) | (simp only [zb0, ne_eq, not_true_eq_false] at hc <;> first | exact absurd rfl hc | (exfalso; first | exact absurd rfl hc | omega) | skip) | skip)) | (refine And.intro zp1 ?_) | (apply And.intro) | (intro s hs; skip))
       conv => whnf
       exact ⟨⟨i + 1, hil, hnx⟩, [], by dsimp only; omega, rfl, ⟨leF_c (leC_cl (cl_slBN L)), leF_c (leC_cl (cl_slBN L)), leF_int rfl, leF_int w3, trivial⟩, trivial⟩
   . have hle2 : prevI L i < x.id := by unfold prevI; rw [if_pos (by omega)]; omega
     have hVe : V = (validHs x.mn (x.mn - 1) x.held && validSs x.id (L.drop (i + 1))) := by
      rw [hst, decide_eq_true (p := prevI L i < x.id) hle2]
      unfold validSd
      rw [decide_eq_true (p := 0 <= x.mn) (by omega), decide_eq_true (p := x.mn <= 1073741824) (by omega), decide_eq_true (p := x.held.length <= 32) (by omega)]
      simp
     obtain ⟨U, hU⟩ : ∃ U, validHs x.mn (x.mn - 1) x.held = U := ⟨_, rfl⟩
     rw [hU] at hVe
     have hUf : false = U -> false = V := fun h => by rw [hVe, <- h]; rfl
     have hx32 : x.held.length <= 32 := by omega
     have hm0 : 0 <= x.mn := by omega
     have hm1 : x.mn <= 1073741824 := by omega
     conv => whnf
     refine loop_intro (mono_of LRa_ok) (fun s : RvI x.held x.mn U => (⟨[(0, one (slBN neS L)), (10, one (slBN neS L)), (11, one (.int .i64 (L.length : Int))), (12, one (.int .i64 (i : Int))), (4, one (.ptr 1 0 0 false)), (52, one (slN neH x.held)), (53, one (.int .i64 (x.held.length : Int))), (54, one (.int .i64 (s.k : Int)))], [(1, some ⟨78, 1, 3, true, fun _ => neS.cell x⟩)], 2⟩ : Hd)) (fun s => x.held.length - s.k) (fun _ => rfl) ?_ ⟨0, Nat.zero_le _, hU, fun h => absurd rfl h⟩ [(1, some 5)] ⟨rfl, ⟨leF_c (leC_cl (cl_slBN L)), leF_c (leC_cl (cl_slBN L)), leF_int rfl, leF_int rfl, leF_ptr rfl, leF_c (sh_slN _).le, leF_int rfl, leF_int rfl, trivial⟩, ⟨rfl, leN_varA fun j hj => (neS.sh _ j hj).le⟩, trivial⟩
     rintro ⟨k, hk, hVk, hgk⟩
     dsimp only at hk hVk hgk ⊢
     by_cases hkl : k < x.held.length
     . have hr := rv_step hkl hVk hgk
       have zk : (k : Int).toNat = k := rfl
       have w5 : IntKind.i64.wrap ((k : Int) + 1) = ((k + 1 : Nat) : Int) := (IntWalk.i64_in _ (by omega)).trans (by omega)
       have w6 : IntKind.i64.wrap ((k : Int) - 1) = (k : Int) - 1 := IntWalk.i64_in _ (by omega)
       have w7 : IntKind.i64.wrap (x.mn + 31) = x.mn + 31 := IntWalk.i64_in _ (by omega)
       have zp : ((k : Int) - 1).toNat = k - 1 := by omega
       obtain ⟨h, eh⟩ : ∃ h, x.held.getD k default = h := ⟨_, rfl⟩
       have eck : rowN neH x.held k = neH.cell h := congrArg neH.cell eh
       obtain ⟨n1, n2, n3, n4, n5, n6, n7, ny⟩ := hr
       rw [eh] at n1 n2 n3 n4 n5 n6 n7 ny
       obtain ⟨A, eA⟩ : ∃ A, validT h.tm = A := ⟨_, rfl⟩
       obtain ⟨B, eB'⟩ : ∃ A, isTimeT h.til = A := ⟨_, rfl⟩
       rw [eA] at n5 ny
       rw [eB'] at n6 ny
       repeat' (first | (simp only [zk, eck, w6, w7, zp]) | (apply And.intro <;> intro hc <;> (first | exact Bool.noConfusion hc | (exfalso; first | exact absurd rfl hc | omega) | (simp only [zb0, ne_eq, not_true_eq_false] at hc <;> first | exact absurd rfl hc | (exfalso; first | exact absurd rfl hc | omega) | skip) | skip)) | (refine And.intro zp1 ?_) | (apply And.intro) | (intro s hs; (first | (have q : A = s := eA.symm.trans hs.symm; clear hs; subst q) | (have q : B = s := eB'.symm.trans hs.symm; clear hs; subst q))))
       . exact Done.mk (leF_bool (hUf (n1 (by omega))))
       . exact Done.mk (leF_bool (hUf (n2 (by omega))))
       . exact Done.mk (leF_bool (hUf (n3 (by omega))))
       . exact Done.mk (leF_bool (hUf (n4 (by omega))))
       . exact Done.mk (leF_bool (hUf (n5 (by assumption))))
       . exact Done.mk (leF_bool (hUf (n6 (by assumption))))
       . exact Done.mk (leF_bool (hUf (n7 (by omega) (by omega))))
       . conv => whnf
         exact ⟨⟨k + 1, hkl, ny (by omega) (by omega) (by omega) (by omega) (by assumption) (by assumption) (.inr (by omega)), fun _ => by show x.mn <= (x.held.getD k default).num; rw [eh]; omega⟩, [], by dsimp only; omega, rfl, ⟨leF_c (leC_cl (cl_slBN L)), leF_c (leC_cl (cl_slBN L)), leF_int rfl, leF_int rfl, leF_ptr rfl, leF_c (sh_slN _).le, leF_int rfl, leF_int w5, trivial⟩, ⟨rfl, leN_varA fun j hj => (neS.sh _ j hj).le⟩, trivial⟩
       . conv => whnf
         exact ⟨⟨k + 1, hkl, ny (by omega) (by omega) (by omega) (by omega) (by assumption) (by assumption) (.inl (by omega)), fun _ => by show x.mn <= (x.held.getD k default).num; rw [eh]; omega⟩, [], by dsimp only; omega, rfl, ⟨leF_c (leC_cl (cl_slBN L)), leF_c (leC_cl (cl_slBN L)), leF_int rfl, leF_int rfl, leF_ptr rfl, leF_c (sh_slN _).le, leF_int rfl, leF_int w5, trivial⟩, ⟨rfl, leN_varA fun j hj => (neS.sh _ j hj).le⟩, trivial⟩
     . have hUt : U = true := by rw [<- hVk, List.drop_of_length_le (by omega)]; rfl
       have hnx : validSs (prevI L (i + 1)) (L.drop (i + 1)) = V := by rw [hVe, hUt, Bool.true_and]; unfold prevI; rw [if_neg (Nat.succ_ne_zero i), Nat.add_sub_cancel, ex]
       repeat' (first | (apply And.intro <;> intro hc <;> (first | exact Bool.noConfusion hc | (exfalso; first | exact absurd rfl hc | omega) | (simp only [zb0, ne_eq, not_true_eq_false] at hc <;> first | exact absurd rfl hc | (exfalso; first | exact absurd rfl hc | omega) | skip) | skip)) | (refine And.intro zp1 ?_) | (apply And.intro) | (intro s hs; skip))
       conv => whnf
       exact ⟨⟨i + 1, hil, hnx⟩, [], by dsimp only; omega, rfl, ⟨leF_c (leC_cl (cl_slBN L)), leF_c (leC_cl (cl_slBN L)), leF_int rfl, leF_int w3, trivial⟩, trivial⟩
 . have hVt : V = true := by rw [<- hVi, List.drop_of_length_le (by omega)]; rfl
   rw [hVt]
   repeat' (first | (apply And.intro <;> intro hc <;> (first | exact Bool.noConfusion hc | (exfalso; first | exact absurd rfl hc | omega) | (simp only [zb0, ne_eq, not_true_eq_false] at hc <;> first | exact absurd rfl hc | (exfalso; first | exact absurd rfl hc | omega) | skip) | skip)) | (refine And.intro zp1 ?_) | (apply And.intro) | (intro s hs; skip))
   exact Done.mk (leF_bool rfl)
abbrev rvalidE : Entry := pureE (AC.cons (cNS neS neS_sz) AC.nil) (fun a => LHp a.1) (fun a => validL a.1) cB.enc
structure byL (l : List Int) : Prop where
 q : ∀ x ∈ l, 0 <= x /\ x < 256
theorem eI_sz {k : IntKind} : 0 < (eI k).sz := by show 0 < 1; omega
theorem loadCells_zero {P : Program} {w : World} {a : Addr} : (loadCells a 0).run P w = .ok #[] w := by
 have := run_loadCells_list (P := P) w a [] (fun j v h => by cases h)
 simpa using this
theorem conv_str {P : Program} {r : Ren} {X W : Nat -> Prop} {w : World} {x : List Int} {v : Value} {src dst e : TypeId} (hs : P.underlying src = some (.slice e)) (he : P.underlying e = some (.int .u8)) (hd : P.underlying dst = some .string)
 (h : (CV.sl false x.length 1 (rowF (eI .u8) x)).rel r X W w v) : (convert src dst v).run P w = .ok (.string (strOfNums x)) w := by
 obtain ⟨a, cap, rfl, hn, hc⟩ := h
 rcases Nat.eq_zero_or_pos x.length with h0 | h0
 . have hx : x = [] := List.length_eq_zero_iff.1 h0
   subst hx
   cases a with
   | none => exact run_convert_bytes_nil w src e hs he 0 cap dst hd
   | some ad =>
     show (convert src dst (.slice (some ad) 0 cap)).run P w = _
     rw [run_convert_bytes_string w src dst e _ 0 cap hs he hd, run_bytesToString w ad 0 cap [] loadCells_zero]
     rfl
 . obtain ⟨ad, rfl, hsp, _, _, _, hcell⟩ := hc h0
   obtain ⟨b, off, sp⟩ := ad
   have hsp : sp = none := hsp
   subst hsp
   refine run_convert_bytes_arg w src e hs he b off x.length cap x rfl (fun i hi => ?_) dst hd
   obtain ⟨u, hu, hr⟩ := hcell i hi 0 (by omega)
   have hr' : u = .int .u8 (x.getD i default) := hr
   rw [show i * 1 + 0 = i by omega] at hu
   rw [hu, hr']; rfl
theorem bequal_ok (x : List Int) : PureOk Try.prog 82 [(cSl (eI .u8) eI_sz).enc x, (cSl (eI .u8) eI_sz).enc x] (cB.enc true) := by
 intro X w vals hrel hX
 obtain ⟨v0, v1, rfl⟩ : ∃ v0 v1, vals = #[v0, v1] := by
  have h2 : vals.size = 2 := hrel.1
  match vals, h2 with
  | ⟨[a, b]⟩, _ => exact ⟨a, b, rfl⟩
 have h0 : (CV.sl false x.length 1 (rowF (eI .u8) x)).rel (fun _ => none) X (fun _ => False) w v0 := hrel.2 0 _ v0 rfl rfl
 have h1 : (CV.sl false x.length 1 (rowF (eI .u8) x)).rel (fun _ => none) X (fun _ => False) w v1 := hrel.2 1 _ v1 rfl rfl
 have r0 := conv_str (dst := 9) Try.underlying30 Try.underlying5 Try.underlying9 h0
 have r1 := conv_str (dst := 9) Try.underlying30 Try.underlying5 Try.underlying9 h1
 clear h0 h1 hrel
 have key : Calls Try.prog 82 #[v0, v1] w fun e w' => e = .returned (.bool true) /\ w' = w := by
  go_enter Try.func82, Try.ntmps82
  go_wp2
  go_ret
  exact ⟨rfl, rfl⟩
 refine key.mono fun e w' ⟨he, hw⟩ => ?_
 subst he hw
 exact ⟨_, rfl, Below.refl _ _, rfl⟩
def isIBt : CV -> Bool
 | .int _ _ => true
 | .bool _ => true
 | _ => false
theorem eqC_selft {x : CV} (h : isIBt x = true) : eqCell x x = true := by
 cases x with
 | int k a => show (a == a) = true; exact beq_self_eq_true _
 | bool a => show (a == a) = true; exact beq_self_eq_true _
 | _ => cases h
theorem eqF_selft (f : Nat -> CV) (n : Nat) (h : ∀ i, i < n -> isIBt (f i) = true) : eqFrom f f n 0 = true :=
 eqFrom_iff.2 fun i hi => by rw [Nat.zero_add]; exact eqC_selft (h i hi)
def cFn (f : FuncId) : Codec Unit where
 enc _ := .e (.c (.fn f 0 0 fun _ => .top))
 dec H x := match x with
  | .e (.c (.fn g n m _)) => bif Nat.beq g f && Nat.beq n 0 && Nat.beq m 0 then some ((), none, []) else none
  | _ => none
 sound H H' x a p rd h hp hh := by
  split at h
  . rename_i g n m a0
    cases hb : (Nat.beq g f && Nat.beq n 0 && Nat.beq m 0) with
    | true =>
      rw [hb, cond_true] at h
      injection h with h
      injection h with h h'
      injection h' with h' h''
      subst h h' h''
      simp only [Bool.and_eq_true] at hb
      have b1 := Nat.eq_of_beq_eq_true hb.1.1
      have b2 := Nat.eq_of_beq_eq_true hb.1.2
      have b3 := Nat.eq_of_beq_eq_true hb.2
      subst b1 b2 b3
      rintro cx r w v st ⟨fs, cs, rfl, h1, h2, h3, h4⟩
      refine ⟨fs, cs, rfl, h1, h2, fun k u hu => ?_, fun k u hu => ?_⟩
      . have := (Array.getElem?_eq_some_iff.1 hu).1; omega
      . have := (Array.getElem?_eq_some_iff.1 hu).1; omega
    | false => rw [hb] at h; cases h
  . cases h
abbrev beqtE : Entry := pureE (AC.cons (cSl (eI .u8) eI_sz) (AC.cons (cSl (eI .u8) eI_sz) AC.nil)) (fun a => a.1 = a.2.1) (fun _ => true) cB.enc
theorem beqtE_ok : EntOk Try.prog 82 beqtE := pureE_ok ⟨_, Try.func82, rfl, by kernel_rfl⟩ fun a h => by
 obtain ⟨p, q, u⟩ := a
 have h : p = q := h
 subst h
 exact bequal_ok p
def LMta : CsL := (82, some beqtE) :: []
theorem LMta_ok : AllOk Try.prog LMta := ⟨beqtE_ok, trivial⟩
theorem sameH_ok (h : Hel) : PureOk Try.prog 81 [(cN neH).enc h, (cN neH).enc h] (cB.enc true) := by
 have s1 : eqFrom (fun q => helC h (2 + q)) (fun q => helC h (2 + q)) 8 0 = true := eqF_selft _ 8 fun i hi => by
  iterate 8 (rcases i with _ | i; · exact rfl)
  exact absurd hi (by omega)
 refine pure_intro (wd := 1) (Q := mkQ LMta) (by decide) tysOk (q_of LMta_ok) mixed Try.func81 rfl _ (by show 2 <= _; decide) _ ?_
 repeat' (first | (apply And.intro <;> intro hc <;> (first | exact Bool.noConfusion hc | (exfalso; first | exact absurd rfl hc | exact absurd (beq_self_eq_true _) (by rw [hc]; decide) | exact Bool.noConfusion (s1.symm.trans hc)) | (simp only [zb0, ne_eq, not_true_eq_false] at hc <;> first | exact absurd rfl hc | (exfalso; first | exact absurd rfl hc | exact absurd (beq_self_eq_true _) (by rw [hc]; decide) | exact Bool.noConfusion (s1.symm.trans hc)) | skip) | skip)) | (refine And.intro zp1 ?_) | (apply And.intro) | (intro s hs; subst hs))
 . exact fun _ => rfl
 . exact fun _ => rfl
 . exact rfl
 . conv => whnf
   exact Done.mk (leF_bool (beq_self_eq_true _))
abbrev sameHE : Entry := pureE (AC.cons (cN neH) (AC.cons (cN neH) AC.nil)) (fun a => a.1 = a.2.1) (fun _ => true) cB.enc
theorem sameHE_ok : EntOk Try.prog 81 sameHE := pureE_ok ⟨_, Try.func81, rfl, by kernel_rfl⟩ fun a h => by
 obtain ⟨p, q, u⟩ := a
 have h : p = q := h
 subst h
 exact sameH_ok p
def LMtb : CsL := (81, some sameHE) :: []
theorem LMtb_ok : AllOk Try.prog LMtb := ⟨sameHE_ok, trivial⟩
theorem eqfH_ok (l : List Hel) (h : l.length <= 9223372036854775807) : PureOk Try.prog 80 [(cNS neH neH_sz).enc l, (cNS neH neH_sz).enc l, (cFn 81).enc ()] (cB.enc true) := by
 refine pure_intro (wd := 1) (Q := mkQ LMtb) (by decide) tysOk (q_of LMtb_ok) mixed Try.func80 rfl _ (by show 3 <= _; decide) _ ?_
 repeat' (first | (apply And.intro <;> intro hc <;> (first | exact Bool.noConfusion hc | (exfalso; first | exact absurd rfl hc | exact absurd (beq_self_eq_true _) (by rw [hc]; decide) | omega) | (simp only [zb0, ne_eq, not_true_eq_false] at hc <;> first | exact absurd rfl hc | (exfalso; first | exact absurd rfl hc | exact absurd (beq_self_eq_true _) (by rw [hc]; decide) | omega) | skip) | skip)) | (refine And.intro zp1 ?_) | (apply And.intro) | (intro s hs; subst hs))
 conv => whnf
 refine loop_intro (mono_of LMtb_ok) (fun s : {i : Nat // i <= l.length} => (⟨[(1, one (slBN neH l)), (2, (cFn 81).enc ()), (15, one (slBN neH l)), (16, one (.int .i64 (l.length : Int))), (17, one (.int .i64 (s.1 : Int)))], [], 0⟩ : Hd)) (fun s => l.length - s.1) (fun _ => rfl) ?_ ⟨0, Nat.zero_le _⟩ [] ⟨rfl, ⟨leF_c (leC_cl (cl_slBN l)), leF_c (leC_fnN fun k hk => absurd hk (by omega)), leF_c (leC_cl (cl_slBN l)), leF_int rfl, leF_int rfl, trivial⟩, trivial⟩
 rintro ⟨p, hp⟩
 dsimp only at hp ⊢
 unfold slBN
 by_cases hpl : p < l.length
 . have w4 : IntKind.i64.wrap ((p : Int) + 1) = ((p + 1 : Nat) : Int) := (IntWalk.i64_in _ (by omega)).trans (by omega)
   repeat' (first | (apply And.intro <;> intro hc <;> (first | exact Bool.noConfusion hc | (exfalso; first | exact absurd rfl hc | exact absurd hc (by decide) | omega) | (simp only [zb0, ne_eq, not_true_eq_false] at hc <;> first | exact absurd rfl hc | (exfalso; first | exact absurd rfl hc | exact absurd hc (by decide) | omega) | skip) | skip)) | (refine And.intro zp1 ?_) | (apply And.intro) | (intro s hs; subst hs))
   . exact ⟨rfl, okD_sl _⟩
   . exact ⟨rfl, okD_sl _⟩
   . exact rfl
   . conv => whnf
     exact ⟨⟨p + 1, hpl⟩, [], by dsimp only; omega, rfl, ⟨leF_c (leC_cl (cl_slBN l)), leF_c (leC_fnN fun k hk => absurd hk (by omega)), leF_c (leC_cl (cl_slBN l)), leF_int rfl, leF_int w4, trivial⟩, trivial⟩
 . repeat' (first | (apply And.intro <;> intro hc <;> (first | exact Bool.noConfusion hc | (exfalso; first | exact absurd rfl hc | omega) | (simp only [zb0, ne_eq, not_true_eq_false] at hc <;> first | exact absurd rfl hc | (exfalso; first | exact absurd rfl hc | omega) | skip) | skip)) | (refine And.intro zp1 ?_) | (apply And.intro) | (intro s hs; subst hs))
   conv => whnf
   exact Done.mk (leF_bool rfl)
abbrev eqfHE : Entry := pureE (AC.cons (cNS neH neH_sz) (AC.cons (cNS neH neH_sz) (AC.cons (cFn 81) AC.nil))) (fun a => a.1 = a.2.1 /\ a.1.length <= 9223372036854775807) (fun _ => true) cB.enc
theorem eqfHE_ok : EntOk Try.prog 80 eqfHE := pureE_ok ⟨_, Try.func80, rfl, by kernel_rfl⟩ fun a h => by
 obtain ⟨p, q, r, u⟩ := a
 obtain ⟨h, hn⟩ := h
 dsimp only at h hn
 subst h
 exact eqfH_ok p hn
def LMtc : CsL := (80, some eqfHE) :: []
theorem LMtc_ok : AllOk Try.prog LMtc := ⟨eqfHE_ok, trivial⟩
theorem sameS_ok (s : Sed) (h : s.held.length <= 9223372036854775807) : PureOk Try.prog 71 [(cN neS).enc s, (cN neS).enc s] (cB.enc true) := by
 refine pure_intro (wd := 1) (Q := mkQ LMtc) (by decide) tysOk (q_of LMtc_ok) mixed Try.func71 rfl _ (by show 2 <= _; decide) _ ?_
 repeat' (first | (apply And.intro <;> intro hc <;> (first | exact Bool.noConfusion hc | (exfalso; first | exact absurd rfl hc | exact absurd (beq_self_eq_true _) (by rw [hc]; decide) | omega) | (simp only [zb0, ne_eq, not_true_eq_false] at hc <;> first | exact absurd rfl hc | (exfalso; first | exact absurd rfl hc | exact absurd (beq_self_eq_true _) (by rw [hc]; decide) | omega) | skip) | skip)) | (refine And.intro zp1 ?_) | (apply And.intro) | (intro s hs; subst hs))
 . exact fun _ => ⟨rfl, okD_sl _⟩
 . exact fun _ => ⟨rfl, okD_sl _⟩
 . exact rfl
 . show (toN neH s.held.length (rowN neH s.held)).length <= _
   rw [toN_len]; exact h
 . conv => whnf
   exact Done.mk (leF_bool rfl)
abbrev sameSE : Entry := pureE (AC.cons (cN neS) (AC.cons (cN neS) AC.nil)) (fun a => a.1 = a.2.1 /\ a.1.held.length <= 9223372036854775807) (fun _ => true) cB.enc
theorem sameSE_ok : EntOk Try.prog 71 sameSE := pureE_ok ⟨_, Try.func71, rfl, by kernel_rfl⟩ fun a h => by
 obtain ⟨p, q, u⟩ := a
 obtain ⟨h, hn⟩ := h
 dsimp only at h hn
 subst h
 exact sameS_ok p hn
def LMtd : CsL := (71, some sameSE) :: []
theorem LMtd_ok : AllOk Try.prog LMtd := ⟨sameSE_ok, trivial⟩
theorem eqfS_ok (l : List Sed) (hk : ∀ x ∈ l, x.held.length <= 9223372036854775807) (h : l.length <= 9223372036854775807) : PureOk Try.prog 70 [(cNS neS neS_sz).enc l, (cNS neS neS_sz).enc l, (cFn 71).enc ()] (cB.enc true) := by
 refine pure_intro (wd := 1) (Q := mkQ LMtd) (by decide) tysOk (q_of LMtd_ok) mixed Try.func70 rfl _ (by show 3 <= _; decide) _ ?_
 repeat' (first | (apply And.intro <;> intro hc <;> (first | exact Bool.noConfusion hc | (exfalso; first | exact absurd rfl hc | exact absurd (beq_self_eq_true _) (by rw [hc]; decide) | omega) | (simp only [zb0, ne_eq, not_true_eq_false] at hc <;> first | exact absurd rfl hc | (exfalso; first | exact absurd rfl hc | exact absurd (beq_self_eq_true _) (by rw [hc]; decide) | omega) | skip) | skip)) | (refine And.intro zp1 ?_) | (apply And.intro) | (intro s hs; subst hs))
 conv => whnf
 refine loop_intro (mono_of LMtd_ok) (fun s : {i : Nat // i <= l.length} => (⟨[(1, one (slBN neS l)), (2, (cFn 71).enc ()), (15, one (slBN neS l)), (16, one (.int .i64 (l.length : Int))), (17, one (.int .i64 (s.1 : Int)))], [], 0⟩ : Hd)) (fun s => l.length - s.1) (fun _ => rfl) ?_ ⟨0, Nat.zero_le _⟩ [] ⟨rfl, ⟨leF_c (leC_cl (cl_slBN l)), leF_c (leC_fnN fun k hk => absurd hk (by omega)), leF_c (leC_cl (cl_slBN l)), leF_int rfl, leF_int rfl, trivial⟩, trivial⟩
 rintro ⟨p, hp⟩
 dsimp only at hp ⊢
 unfold slBN
 by_cases hpl : p < l.length
 . have w4 : IntKind.i64.wrap ((p : Int) + 1) = ((p + 1 : Nat) : Int) := (IntWalk.i64_in _ (by omega)).trans (by omega)
   repeat' (first | (apply And.intro <;> intro hc <;> (first | exact Bool.noConfusion hc | (exfalso; first | exact absurd rfl hc | exact absurd hc (by decide) | omega) | (simp only [zb0, ne_eq, not_true_eq_false] at hc <;> first | exact absurd rfl hc | (exfalso; first | exact absurd rfl hc | exact absurd hc (by decide) | omega) | skip) | skip)) | (refine And.intro zp1 ?_) | (apply And.intro) | (intro s hs; subst hs))
   . exact ⟨rfl, okHs_sl _⟩
   . exact ⟨rfl, okHs_sl _⟩
   . exact rfl
   . exact Eq.mpr (congrArg (fun z : List Hel => z.length <= 9223372036854775807) (heldOf_sl _)) (hk _ (getD_in hpl))
   . conv => whnf
     exact ⟨⟨p + 1, hpl⟩, [], by dsimp only; omega, rfl, ⟨leF_c (leC_cl (cl_slBN l)), leF_c (leC_fnN fun k hk => absurd hk (by omega)), leF_c (leC_cl (cl_slBN l)), leF_int rfl, leF_int w4, trivial⟩, trivial⟩
 . repeat' (first | (apply And.intro <;> intro hc <;> (first | exact Bool.noConfusion hc | (exfalso; first | exact absurd rfl hc | omega) | (simp only [zb0, ne_eq, not_true_eq_false] at hc <;> first | exact absurd rfl hc | (exfalso; first | exact absurd rfl hc | omega) | skip) | skip)) | (refine And.intro zp1 ?_) | (apply And.intro) | (intro s hs; subst hs))
   conv => whnf
   exact Done.mk (leF_bool rfl)
abbrev eqfSE : Entry := pureE (AC.cons (cNS neS neS_sz) (AC.cons (cNS neS neS_sz) (AC.cons (cFn 71) AC.nil))) (fun a => a.1 = a.2.1 /\ (∀ x ∈ a.1, x.held.length <= 9223372036854775807) /\ a.1.length <= 9223372036854775807) (fun _ => true) cB.enc
theorem eqfSE_ok : EntOk Try.prog 70 eqfSE := pureE_ok ⟨_, Try.func70, rfl, by kernel_rfl⟩ fun a h => by
 obtain ⟨p, q, r, u⟩ := a
 obtain ⟨h, hk, hn⟩ := h
 dsimp only at h hk hn
 subst h
 exact eqfS_ok p hk hn
def LMtf : CsL := (70, some eqfSE) :: []
theorem LMtf_ok : AllOk Try.prog LMtf := ⟨eqfSE_ok, trivial⟩
theorem sames_ok (L : List Sed) (hL : LHn L) : PureOk Try.prog 41 [(cNS neS neS_sz).enc L, (cNS neS neS_sz).enc L] (cB.enc true) := by
 refine pure_intro (wd := 1) (Q := mkQ LMtf) (by decide) tysOk (q_of LMtf_ok) mixed Try.func41 rfl _ (by show 2 <= _; decide) _ ?_
 repeat' (first | (apply And.intro <;> intro hc <;> (first | exact Bool.noConfusion hc | (exfalso; first | exact absurd rfl hc | omega) | (simp only [zb0, ne_eq, not_true_eq_false] at hc <;> first | exact absurd rfl hc | (exfalso; first | exact absurd rfl hc | omega) | skip) | skip)) | (refine And.intro zp1 ?_) | (apply And.intro) | (intro s hs; subst hs))
 . exact fun _ => ⟨rfl, okHs_sl _⟩
 . exact fun _ => ⟨rfl, okHs_sl _⟩
 . exact rfl
 . exact Eq.mpr (congrArg (fun z : List Sed => ∀ x ∈ z, x.held.length <= 9223372036854775807) (toN_row neS_rd _)) hL.h
 . exact Eq.mpr (congrArg (fun z : List Sed => z.length <= 9223372036854775807) (toN_row neS_rd _)) hL.n
 . conv => whnf
   exact Done.mk (leF_bool rfl)
abbrev samesE : Entry := pureE (AC.cons (cNS neS neS_sz) (AC.cons (cNS neS neS_sz) AC.nil)) (fun a => a.1 = a.2.1 /\ LHn a.1) (fun _ => true) cB.enc
theorem samesE_ok : EntOk Try.prog 41 samesE := pureE_ok ⟨_, Try.func41, rfl, by kernel_rfl⟩ fun a h => by
 obtain ⟨p, q, u⟩ := a
 obtain ⟨h, hn⟩ := h
 dsimp only at h hn
 subst h
 exact sames_ok p hn
def neI : NElem Int where
 sz := 3
 cell a j := bif Nat.beq j 0 then .int .u64 a else .top
 rd g := valI (g 0)
 ok g := isK .u64 (g 0) = true
 ok_rel g h j hj r X W w v hv := by
  rcases j with _ | j
  . rw [isK_eq h] at hv; exact hv
  . exact rel_isCell hv
 sh a j hj := by
  rcases j with _ | j
  . exact .int _ _
  . exact .top
theorem neI_sz : 0 < neI.sz := by decide
def fndR (id : Int) : List Int -> Nat -> Int
 | [], _ => -1
 | s :: t, k => if s = id then (k : Int) else fndR id t (k + 1)
theorem rfind_ok (L : List Int) (id : Int) (hn : L.length <= 9223372036854775807) : PureOk Try.prog 64 [(cNS neI neI_sz).enc L, (cI .u64).enc id] ((cI .i64).enc (fndR id L 0)) := by
 obtain ⟨R, hR⟩ : ∃ R, fndR id L 0 = R := ⟨_, rfl⟩
 rw [hR]
 refine pure_intro (wd := 1) (Q := mkQ LE0) (by decide) tysOk (q_of LE0_ok) mixed Try.func64 rfl _ (by show 2 <= _; decide) _ ?_
 repeat' (first | (apply And.intro <;> intro hc <;> (first | exact Bool.noConfusion hc | (exfalso; first | exact absurd rfl hc | omega) | (simp only [zb0, ne_eq, not_true_eq_false] at hc <;> first | exact absurd rfl hc | (exfalso; first | exact absurd rfl hc | omega) | skip) | skip)) | (refine And.intro zp1 ?_) | (apply And.intro) | (intro s hs; skip))
 conv => whnf
 refine loop_intro (mono_of LE0_ok) (fun s : {i : Nat // i <= L.length /\ fndR id (L.drop i) i = R} => (⟨[(1, one (.int .u64 id)), (7, one (slBN neI L)), (8, one (.int .i64 (L.length : Int))), (9, one (.int .i64 (s.1 : Int)))], [], 1⟩ : Hd)) (fun s => L.length - s.1) (fun _ => rfl) ?_ ⟨0, Nat.zero_le _, hR⟩ [] ⟨rfl, ⟨leF_int rfl, leF_c (leC_cl (cl_slBN L)), leF_int rfl, leF_int rfl, trivial⟩, trivial⟩
 rintro ⟨i, hi, hV⟩
 dsimp only at hi hV ⊢
 unfold slBN
 by_cases hil : i < L.length
 . have w3 : IntKind.i64.wrap ((i : Int) + 1) = ((i + 1 : Nat) : Int) := (IntWalk.i64_in _ (by omega)).trans (by omega)
   rw [drop_at hil] at hV
   have ny : L.getD ((i : Int).toNat) default = id -> R = (i : Int) := fun g => by rw [<- hV]; exact if_pos g
   have nn : ¬ L.getD ((i : Int).toNat) default = id -> fndR id (L.drop (i + 1)) (i + 1) = R := fun g => by rw [<- hV]; exact (if_neg g).symm
   clear hV
   repeat' (first | (apply And.intro <;> intro hc <;> (first | exact Bool.noConfusion hc | (exfalso; first | exact absurd rfl hc | omega) | (simp only [zb0, ne_eq, not_true_eq_false] at hc <;> first | exact absurd rfl hc | (exfalso; first | exact absurd rfl hc | omega) | skip) | skip)) | (refine And.intro zp1 ?_) | (apply And.intro) | (intro s hs; skip))
   . rw [ny (by assumption)]
     exact Done.mk (leF_int rfl)
   . refine ⟨⟨i + 1, by omega, nn (by assumption)⟩, [], by dsimp only; omega, rfl, ⟨leF_int rfl, leF_c (leC_cl (cl_slBN L)), leF_int rfl, leF_int w3, trivial⟩, trivial⟩
 . have hi2 : i = L.length := by omega
   rw [List.drop_of_length_le (by omega)] at hV
   have hV : (-1 : Int) = R := hV
   rw [<- hV]
   repeat' (first | (apply And.intro <;> intro hc <;> (first | exact Bool.noConfusion hc | (exfalso; first | exact absurd rfl hc | omega) | (simp only [zb0, ne_eq, not_true_eq_false] at hc <;> first | exact absurd rfl hc | (exfalso; first | exact absurd rfl hc | omega) | skip) | skip)) | (refine And.intro zp1 ?_) | (apply And.intro) | (intro s hs; skip))
   exact Done.mk (leF_int rfl)
abbrev rfindE : Entry := pureE (AC.cons (cNS neI neI_sz) (AC.cons (cI .u64) AC.nil)) (fun a => a.1.length <= 9223372036854775807) (fun a => fndR a.2.1 a.1 0) (cI .i64).enc
theorem fndR_eq {id : Int} : ∀ {L : List Sed} {last : Int} {k : Nat}, validSs last L = true -> fndR id (L.map Sed.id) k = if (fndS id L k).2 = true then ((fndS id L k).1 : Int) else -1 := by
 intro L
 induction L with
 | nil => intro _ _ _; rfl
 | cons a t ih =>
   intro last k hv
   have hv' := vs_cons.1 hv
   show (if a.id = id then (k : Int) else fndR id (t.map Sed.id) (k + 1)) = _
   by_cases h : id <= a.id
   . have e : fndS id (a :: t) k = (k, decide (a.id = id)) := if_pos h
     rw [e]
     by_cases h2 : a.id = id
     . rw [if_pos h2, decide_eq_true h2, if_pos rfl]
     . rw [if_neg h2, decide_eq_false h2, if_neg (by simp)]
       have : ∀ {t : List Sed} {last : Int} {k : Nat}, validSs last t = true -> id < last -> fndR id (t.map Sed.id) k = -1 := by
        intro t
        induction t with
        | nil => intro _ _ _ _; rfl
        | cons b t ih2 =>
          intro last k hv hl
          have hv' := vs_cons.1 hv
          show (if b.id = id then (k : Int) else fndR id (t.map Sed.id) (k + 1)) = -1
          rw [if_neg (by omega)]
          exact ih2 hv'.2.2 (by omega)
       exact this hv'.2.2 (by omega)
   . have e : fndS id (a :: t) k = fndS id t (k + 1) := if_neg h
     rw [e, if_neg (by omega)]
     exact ih hv'.2.2
theorem lt3c {P : Nat -> Prop} (h : P 0 /\ P 1 /\ P 2) : ∀ j, j < 3 -> P j := fun j hj => by
 rcases (show j = 0 \/ j = 1 \/ j = 2 by omega) with rfl | rfl | rfl
 . exact h.1
 . exact h.2.1
 . exact h.2.2
structure SySt (L : List Sed) (R : List Smy) where
 i : Nat
 O : List Smy
 hi : i <= L.length
 h : O ++ (L.drop i).map sumS = R
 n : O.length = i
def rowP (d : Nat) (L : List Sed) (i j : Nat) : CV := bif Nat.beq j 2 then .os (d + i) 0 (L.getD i default).held.length else sedC (L.getD i default) j
def entP (d : Nat) (n : Nat) (L : List Sed) : Ent := ⟨78, n, 3, false, rowP d L⟩
def hldP (L : List Sed) (i k : Nat) : List Hel := bif Nat.blt k i then (L.getD k default).held else []
abbrev entH (l : List Hel) : Ent := entN neH 85 l
theorem hldP_n {L : List Sed} {k : Nat} : hldP L L.length k = (L.getD k default).held := by
 unfold hldP
 cases hb : Nat.blt k L.length with
 | true => rfl
 | false =>
   have : ¬ k < L.length := fun h => by
    have h1 : Nat.blt k L.length = true := Nat.ble_eq_true_of_le h
    rw [h1] at hb; cases hb
   rw [List.getD_eq_getElem?_getD, List.getElem?_eq_none (by omega)]; rfl
def hepP (b : Nat) (L : List Sed) : List (Nat × Option Ent) := [(b + 0, some (entH (L.getD 0 default).held)), (b + 1, some (entH (L.getD 1 default).held)), (b + 2, some (entH (L.getD 2 default).held)), (b + 3, some (entH (L.getD 3 default).held)), (b + 4, some (entH (L.getD 4 default).held)), (b + 5, some (entH (L.getD 5 default).held)), (b + 6, some (entH (L.getD 6 default).held)), (b + 7, some (entH (L.getD 7 default).held))]
theorem rowP_le {c : Wc} {d d' : Nat} {L : List Sed} {i j : Nat} (hj : j < 3) (h : c.src (d' + i) = some (d + i)) : LeC c (rowP d L i j) (rowP d' L i j) := by
 rcases j with _ | _ | _ | j
 . exact leC_int rfl
 . exact leC_int rfl
 . exact leC_os h rfl
 . omega
theorem sft_rowP {nm : Nat} {L : List Sed} {i j : Nat} (hj : j < 3) (hi : i < 8) : Sft 9 nm (rowP (0 + 1) L i j) (rowP (nm + 1) L i j) := by
 rcases j with _ | _ | _ | j
 . exact sft_int
 . exact sft_int
 . have h : Sft 9 nm (.os (0 + 1 + i) 0 (L.getD i default).held.length) (.os (nm + (0 + 1 + i)) 0 (L.getD i default).held.length) := sft_os (by omega)
   rw [show nm + (0 + 1 + i) = nm + 1 + i by omega] at h
   exact h
 . omega
structure Cl8 (L : List Sed) : Prop where
 n : L.length <= 8
 k : ∀ x ∈ L, KpI x.held
theorem vl_c8 {L : List Sed} (h : validL L = true) : Cl8 L := ⟨vl_len h, (vl_cl h).k⟩
def Ents8 (d : Nat) (L : List Sed) : List Ent := entP d L.length L :: [entH (L.getD 0 default).held, entH (L.getD 1 default).held, entH (L.getD 2 default).held, entH (L.getD 3 default).held, entH (L.getD 4 default).held, entH (L.getD 5 default).held, entH (L.getD 6 default).held, entH (L.getD 7 default).held]
structure SlI (L : List Sed) (now : Int) where
 i : Nat
 M : List Sed
 n : M.length = L.length
 hi : i <= L.length
 h1 : ∀ p, p < i -> M.getD p default = clsS now (L.getD p default)
 h2 : ∀ p, i <= p -> M.getD p default = L.getD p default
theorem leN_eqN {c : Wc} {t : TypeId} {l l' : List Hel} (h : l = l') : LeN c (entN neH t l) (entN neH t l') := by subst h; exact leN_entN
theorem leN_entP {c : Wc} {d : Nat} {M : List Sed} {n : Nat} (hn : n <= 8) (h : ∀ p, p < 8 -> c.src (d + p) = some (d + p)) : LeN c (entP d n M) (entP d n M) := ⟨rfl, rfl, rfl, rfl, fun p hp j hj => rowP_le hj (h p (Nat.lt_of_lt_of_le hp hn))⟩
theorem lt8 {P : Nat -> Prop} (h0 : P 0) (h1 : P 1) (h2 : P 2) (h3 : P 3) (h4 : P 4) (h5 : P 5) (h6 : P 6) (h7 : P 7) : ∀ p, p < 8 -> P p := fun p hp => by
 rcases (show p = 0 \/ p = 1 \/ p = 2 \/ p = 3 \/ p = 4 \/ p = 5 \/ p = 6 \/ p = 7 by omega) with rfl | rfl | rfl | rfl | rfl | rfl | rfl | rfl <;> assumption
theorem sl_step {L : List Sed} {now : Int} (s : SlI L now) (h : s.i < L.length) : ∀ p, p < s.i + 1 -> (s.M.set s.i (clsS now (s.M.getD s.i default))).getD p default = clsS now (L.getD p default) := fun p hp => by
 by_cases he : p = s.i
 . subst he
   rw [set_at (by rw [s.n]; exact h), s.h2 _ (Nat.le_refl _)]
 . rw [set_ne he]
   exact s.h1 p (by omega)
def SlI.next {L : List Sed} {now : Int} (s : SlI L now) (h : s.i < L.length) (M' : List Sed) (hM : s.M.set s.i (clsS now (s.M.getD s.i default)) = M') : SlI L now := ⟨s.i + 1, M', by rw [<- hM, List.length_set]; exact s.n, h, by rw [<- hM]; exact sl_step s h, fun p hp => by rw [<- hM, set_ne (by omega)]; exact s.h2 p (by omega)⟩
end Go.Proofs.Ytfaibcgakcmhcaa.AX
namespace Go.Proofs.Ytfaibcgakcmhcaa.AX
theorem take_set {α : Type} {L : List α} {i : Nat} {x : α} (h : i < L.length) : (L.set i x).take (i + 1) = L.take i ++ [x] := by
 induction L generalizing i with
 | nil => exact absurd h (Nat.not_lt_zero _)
 | cons a t ih =>
   cases i with
   | zero => rfl
   | succ i => show a :: ((t.set i x).take (i + 1)) = a :: (t.take i ++ [x]); rw [ih (by simpa using h)]
theorem dropAt {α : Type} {L : List α} {d : α} {i : Nat} (h : i < L.length) : L.drop i = L.getD i d :: L.drop (i + 1) := by
 rw [List.drop_eq_getElem_cons h, List.getD_eq_getElem?_getD, List.getElem?_eq_getElem h]; rfl
def oneH (id now draw : Int) (h : Hel) (b : Nat) : Hel × List Cas :=
 if h.tm.start <= now then ({ h with tm := (stepT h.tm now (IntKind.u32.wrap (draw + (b : Int)))).1 }, if (stepT h.tm now (IntKind.u32.wrap (draw + (b : Int)))).2.1 = true then [⟨id, h.num, h.data⟩] else []) else (h, [])
theorem runH_cons {id now draw : Int} {h : Hel} {t : List Hel} {b : Nat} : runH id now draw (h :: t) b = ((oneH id now draw h b).1 :: (runH id now draw t (b + 1)).1, (oneH id now draw h b).2 ++ (runH id now draw t (b + 1)).2) := by
 unfold oneH
 show (if h.tm.start <= now then _ else _) = _
 split
 . split
   . rfl
   . rfl
 . rfl
theorem oneH_len {id now draw : Int} {h : Hel} {b : Nat} : (oneH id now draw h b).2.length <= 1 := by
 unfold oneH
 split
 . split
   . exact Nat.le_refl _
   . exact Nat.zero_le _
 . exact Nat.zero_le _
theorem runH_len2 {id now draw : Int} : ∀ {L : List Hel} {b : Nat}, (runH id now draw L b).2.length <= L.length := by
 intro L
 induction L with
 | nil => intro _; exact Nat.le_refl _
 | cons h t ih =>
   intro b
   rw [runH_cons]
   have h1 := oneH_len (id := id) (now := now) (draw := draw) (h := h) (b := b)
   have h2 := ih (b := b + 1)
   show ((oneH id now draw h b).2 ++ (runH id now draw t (b + 1)).2).length <= t.length + 1
   rw [List.length_append]; omega
structure StI (M0 : List Sed) (now draw : Int) where
 i : Nat
 M : List Sed
 Z : List Cas
 b : Nat
 n : M.length = M0.length
 hi : i <= M0.length
 hb : b <= 32 * i
 hz : Z.length <= b
 h2 : ∀ p, i <= p -> M.getD p default = M0.getD p default
 r1 : M.take i ++ (runL now draw (M0.drop i) b).1 = (runL now draw M0 0).1
 r2 : Z ++ (runL now draw (M0.drop i) b).2 = (runL now draw M0 0).2
def StI.next {M0 : List Sed} {now draw : Int} (s : StI M0 now draw) (h : s.i < M0.length) (h32 : (M0.getD s.i default).held.length <= 32) : StI M0 now draw where
 i := s.i + 1
 M := s.M.set s.i { M0.getD s.i default with held := (runH (M0.getD s.i default).id now draw (M0.getD s.i default).held s.b).1 }
 Z := s.Z ++ (runH (M0.getD s.i default).id now draw (M0.getD s.i default).held s.b).2
 b := s.b + (M0.getD s.i default).held.length
 n := by rw [List.length_set]; exact s.n
 hi := h
 hb := by have := s.hb; omega
 hz := by
  have h1 := s.hz
  have h2 := runH_len2 (id := (M0.getD s.i default).id) (now := now) (draw := draw) (L := (M0.getD s.i default).held) (b := s.b)
  rw [List.length_append]; omega
 h2 p hp := by rw [List.getD_eq_getElem?_getD, List.getElem?_set, if_neg (by omega), <- List.getD_eq_getElem?_getD]; exact s.h2 p (by omega)
 r1 := by
  have e := s.r1
  rw [dropAt (d := default) h] at e
  rw [take_set (by rw [s.n]; exact h), List.append_assoc]
  exact e
 r2 := by
  have e := s.r2
  rw [dropAt (d := default) h] at e
  rw [List.append_assoc]
  exact e
structure InI (H0 : List Hel) (id now draw : Int) (b : Nat) (Z0 : List Cas) where
 k : Nat
 H : List Hel
 Z : List Cas
 n : H.length = H0.length
 hk : k <= H0.length
 hz : Z.length <= Z0.length + k
 h2 : ∀ p, k <= p -> H.getD p default = H0.getD p default
 r1 : H.take k ++ (runH id now draw (H0.drop k) (b + k)).1 = (runH id now draw H0 b).1
 r2 : Z ++ (runH id now draw (H0.drop k) (b + k)).2 = Z0 ++ (runH id now draw H0 b).2
def InI.next {H0 : List Hel} {id now draw : Int} {b : Nat} {Z0 : List Cas} (s : InI H0 id now draw b Z0) (h : s.k < H0.length) (H' : List Hel) (Z' : List Cas) (e1 : s.H.set s.k (oneH id now draw (H0.getD s.k default) (b + s.k)).1 = H') (e2 : s.Z ++ (oneH id now draw (H0.getD s.k default) (b + s.k)).2 = Z') : InI H0 id now draw b Z0 where
 k := s.k + 1
 H := H'
 Z := Z'
 n := by rw [<- e1, List.length_set]; exact s.n
 hk := h
 hz := by
  have h1 := s.hz
  have h2 := oneH_len (id := id) (now := now) (draw := draw) (h := H0.getD s.k default) (b := b + s.k)
  rw [<- e2, List.length_append]; omega
 h2 p hp := by rw [<- e1, List.getD_eq_getElem?_getD, List.getElem?_set, if_neg (by omega), <- List.getD_eq_getElem?_getD]; exact s.h2 p (by omega)
 r1 := by
  have e := s.r1
  rw [dropAt (d := default) h, runH_cons] at e
  rw [<- e1, take_set (by rw [s.n]; exact h), List.append_assoc]
  exact e
 r2 := by
  have e := s.r2
  rw [dropAt (d := default) h, runH_cons] at e
  rw [<- e2, List.append_assoc]
  exact e
def InI.start (H0 : List Hel) (id now draw : Int) (b : Nat) (Z0 : List Cas) : InI H0 id now draw b Z0 := ⟨0, H0, Z0, rfl, Nat.zero_le _, Nat.le_refl _, fun _ _ => rfl, rfl, rfl⟩
theorem InI.last {H0 : List Hel} {id now draw : Int} {b : Nat} {Z0 : List Cas} (s : InI H0 id now draw b Z0) (h : ¬ s.k < H0.length) : s.H = (runH id now draw H0 b).1 /\ s.Z = Z0 ++ (runH id now draw H0 b).2 := by
 have hk := s.hk
 have e1 := s.r1
 have e2 := s.r2
 rw [List.drop_of_length_le (by omega)] at e1 e2
 rw [List.take_of_length_le (by rw [s.n]; omega)] at e1
 rw [<- e1, <- e2]
 exact ⟨(List.append_nil _).symm, (List.append_nil _).symm⟩
end Go.Proofs.Ytfaibcgakcmhcaa.AX
namespace Go.Proofs.Ytfaibcgakcmhcaa.AX
open Go.RowKit
theorem hel_row2 {c : Wc} {l : List Hel} {k : Nat} {t : Trk} {G : Nat -> CV} (hk : k < l.length) (hG : ∀ j, j < 8 -> LeC c (G j) (eTk.cell t j)) : l.length = (l.set k { l.getD k default with tm := t }).length /\ ∀ q, q < (l.set k { l.getD k default with tm := t }).length -> ∀ j, j < 11 -> LeC c (updE false (rowN neH l) k (ovw false neH.sz (rowN neH l k) (0 + 2) 8 G) q j) (rowN neH (l.set k { l.getD k default with tm := t }) q j) := by
 refine ⟨(List.length_set).symm, fun q hq j hj => ?_⟩
 by_cases hqk : q = k
 . subst hqk
   have e : rowN neH (l.set q { l.getD q default with tm := t }) q j = neH.cell { l.getD q default with tm := t } j := congrArg (fun z => neH.cell z j) (by rw [List.getD_eq_getElem?_getD, List.getElem?_set, if_pos rfl, if_pos hk]; rfl)
   rw [e]
   refine selC_in (beq_refl_nat _) ?_
   rcases j with _ | j
   . exact leC_int rfl
   rcases j with _ | j
   . exact (neH.sh _ 1 (by decide)).le
   iterate 8 (rcases j with _ | j; · exact hG _ (by decide))
   rcases j with _ | j
   . exact leC_int rfl
   exact absurd hj (by omega)
 . have e : rowN neH (l.set k { l.getD k default with tm := t }) q j = rowN neH l q j := congrArg (fun z => neH.cell z j) (by simp only [List.getD_eq_getElem?_getD]; rw [List.getElem?_set, if_neg (Ne.symm hqk)])
   rw [e, updE_ne hqk]
   exact (neH.sh _ j hj).le
end Go.Proofs.Ytfaibcgakcmhcaa.AX
namespace Go.Proofs.Ytfaibcgakcmhcaa.AX
open Go.RowKit
def StI.start (M0 : List Sed) (now draw : Int) : StI M0 now draw := ⟨0, M0, [], 0, rfl, Nat.zero_le _, Nat.le_refl _, Nat.le_refl _, fun _ _ => rfl, rfl, rfl⟩
theorem StI.last {M0 : List Sed} {now draw : Int} (s : StI M0 now draw) (h : ¬ s.i < M0.length) : s.M = (runL now draw M0 0).1 /\ s.Z = (runL now draw M0 0).2 := by
 have hk := s.hi
 have e1 := s.r1
 have e2 := s.r2
 rw [List.drop_of_length_le (by omega)] at e1 e2
 rw [List.take_of_length_le (by rw [s.n]; omega)] at e1
 rw [<- e1, <- e2]
 exact ⟨(List.append_nil _).symm, (List.append_nil _).symm⟩
theorem give_held {c : Wc} {L : List Sed} {p : Nat} {t : TypeId} {k : Nat} (hd : hget c.H k = some (entN neH t (L.getD p default).held)) (hk : c.dead k = true) : LeC c (.os k 0 (L.getD p default).held.length) (slN neH (L.getD p default).held) := by
 refine leC_os_sl hd hk rfl rfl (Nat.le_of_eq (Nat.zero_add _)) fun q hq j hj => ?_
 show LeC c (rowN neH (L.getD p default).held (0 + q) j) (rowN neH (L.getD p default).held q j)
 rw [Nat.zero_add]
 exact (neH.sh _ j hj).le
theorem give_rowP {c : Wc} {d : Nat} {L : List Sed} {p j : Nat} {t : TypeId} (hj : j < 3) (hd : hget c.H (d + p) = some (entN neH t (L.getD p default).held)) (hk : c.dead (d + p) = true) : LeC c (rowP d L p j) (rowN neS L p j) := by
 rcases j with _ | _ | _ | j
 . exact leC_int rfl
 . exact leC_int rfl
 . exact give_held hd hk
 . omega
end Go.Proofs.Ytfaibcgakcmhcaa.AX
namespace Go.Proofs.Ytfaibcgakcmhcaa.AX
open Go.RowKit
structure MapI {α : Type} [Inhabited α] (f : α -> α) (L : List α) where
 i : Nat
 M : List α
 n : M.length = L.length
 hi : i <= L.length
 h1 : ∀ p, p < i -> M.getD p default = f (L.getD p default)
 h2 : ∀ p, i <= p -> M.getD p default = L.getD p default
theorem gset_ne {α : Type} [Inhabited α] {L : List α} {a p : Nat} {s : α} (h : p ≠ a) : (L.set a s).getD p default = L.getD p default := by
 rw [List.getD_eq_getElem?_getD, List.getD_eq_getElem?_getD, List.getElem?_set, if_neg (Ne.symm h)]
theorem gset_at {α : Type} [Inhabited α] {L : List α} {a : Nat} {s : α} (h : a < L.length) : (L.set a s).getD a default = s := by
 rw [List.getD_eq_getElem?_getD, List.getElem?_set, if_pos rfl, if_pos h]; rfl
theorem gset_self {α : Type} [Inhabited α] {L : List α} {i : Nat} (h : i < L.length) : L.set i (L.getD i default) = L := by
 apply List.ext_getElem
 . rw [List.length_set]
 . intro k h1 h2
   rw [List.getElem_set]
   split
   . rename_i e
     subst e
     rw [List.getD_eq_getElem?_getD, List.getElem?_eq_getElem h]; rfl
   . rfl
def MapI.start {α : Type} [Inhabited α] (f : α -> α) (L : List α) : MapI f L := ⟨0, L, rfl, Nat.zero_le _, fun p hp => absurd hp (Nat.not_lt_zero p), fun _ _ => rfl⟩
def MapI.next {α : Type} [Inhabited α] {f : α -> α} {L : List α} (s : MapI f L) (h : s.i < L.length) (M' : List α) (hM : s.M.set s.i (f (L.getD s.i default)) = M') : MapI f L where
 i := s.i + 1
 M := M'
 n := by rw [<- hM, List.length_set]; exact s.n
 hi := h
 h1 p hp := by
  rw [<- hM]
  by_cases he : p = s.i
  . subst he; exact gset_at (by rw [s.n]; exact h)
  . rw [gset_ne he]; exact s.h1 p (by omega)
 h2 p hp := by rw [<- hM, gset_ne (by omega)]; exact s.h2 p (by omega)
theorem MapI.last {α : Type} [Inhabited α] {f : α -> α} {L : List α} (s : MapI f L) (h : ¬ s.i < L.length) : s.M = L.map f := by
 apply List.ext_getElem
 . rw [List.length_map]; exact s.n
 . intro k h1 h2
   have hk : k < L.length := by rw [<- s.n]; exact h1
   have e := s.h1 k (by omega)
   rw [List.getD_eq_getElem?_getD, List.getElem?_eq_getElem h1, List.getD_eq_getElem?_getD, List.getElem?_eq_getElem hk] at e
   rw [List.getElem_map]
   exact e
theorem lt11c {P : Nat -> Prop} (h : P 0 /\ P 1 /\ P 2 /\ P 3 /\ P 4 /\ P 5 /\ P 6 /\ P 7 /\ P 8 /\ P 9 /\ P 10) : ∀ j, j < 11 -> P j := fun j hj => by
 obtain ⟨h0, h1, h2, h3, h4, h5, h6, h7, h8, h9, h10⟩ := h
 rcases (show j = 0 \/ j = 1 \/ j = 2 \/ j = 3 \/ j = 4 \/ j = 5 \/ j = 6 \/ j = 7 \/ j = 8 \/ j = 9 \/ j = 10 by omega) with rfl | rfl | rfl | rfl | rfl | rfl | rfl | rfl | rfl | rfl | rfl <;> assumption
theorem leN_entPs {c : Wc} {d n : Nat} {M : List Sed} (h : ∀ p, p < 8 -> c.src (d + p) = some (d + p)) (hn : n <= 8 := by decide) : LeN c (entP d n M) (entP d n M) := leN_entP hn h
theorem take_at {x : List Hel} {k : Nat} (h : k < x.length) : x.take (k + 1) = x.take k ++ [x.getD k default] := by
 rw [List.take_add_one, List.getD_eq_getElem?_getD, List.getElem?_eq_getElem h]; rfl
theorem helds_snoc {c : Wc} {t : TypeId} {Z : List Hel} {x : Hel} {n : Nat} {g z : Nat -> CV} (hn : n = Z.length) (h : ∀ j, j < 11 -> LeC c (g j) (neH.cell x j)) : LeN c ⟨t, n + 1, 11, false, fun k j => selC (Nat.blt k n) (rowN neH Z k j) (selC (Nat.beq (0 + (k - n)) 0) (g j) (z j))⟩ (entN neH t (Z ++ [x])) := by
 subst hn
 refine ⟨rfl, by show _ = (Z ++ [x]).length; rw [List.length_append]; rfl, rfl, rfl, fun k hk j hj => ?_⟩
 have hk : k < Z.length + 1 := hk
 by_cases hkz : k < Z.length
 . refine selC_in (Nat.ble_eq_true_of_le hkz) ?_
   have e : rowN neH (Z ++ [x]) k j = rowN neH Z k j := congrArg (fun z => neH.cell z j) (by rw [List.getD_eq_getElem?_getD, List.getElem?_append_left hkz, <- List.getD_eq_getElem?_getD])
   show LeC c _ (rowN neH (Z ++ [x]) k j)
   rw [e]
   exact (neH.sh _ j hj).le
 . obtain rfl : k = Z.length := by omega
   refine selC_out (blt_self _) (selC_in (by rw [Nat.sub_self]; rfl) ?_)
   have e : rowN neH (Z ++ [x]) Z.length j = neH.cell x j := congrArg (fun z => neH.cell z j) (by simp [List.getD_eq_getElem?_getD])
   show LeC c _ (rowN neH (Z ++ [x]) Z.length j)
   rw [e]
   exact h j hj
theorem leN_trs {c : Wc} {t : TypeId} {e : Ent} {l l' : List Hel} (h : LeN c e (entN neH t l)) (hl : l' = l) : LeN c e (entN neH t l') := by subst hl; exact h
theorem rcopy_ok (L : List Sed) (hL : Cl8 L) : NewsOk Try.prog 43 [(cNS neS neS_sz).enc L] (one (.os 0 0 L.length)) (Ents8 1 L) := by
 have hn := hL.n
 refine news_intro (wd := 1) (Q := mkQ LE0) (by decide) tysOk (q_of LE0_ok) mixed Try.func43 rfl _ (by show 1 <= _; decide) ?_
 repeat' (first | (apply And.intro <;> intro hc <;> (first | exact Bool.noConfusion hc | (exfalso; first | exact absurd rfl hc | omega) | (simp only [zb0, ne_eq, not_true_eq_false] at hc <;> first | exact absurd rfl hc | (exfalso; first | exact absurd rfl hc | omega) | skip) | skip)) | (refine And.intro zp1 ?_) | (apply And.intro) | (intro s hs; skip) | (refine Exists.intro _ (And.intro ⟨rfl, rfl, rfl⟩ ?_)))
 conv => whnf
 refine loop_intro (mono_of LE0_ok) (fun s : {i : Nat // i <= L.length} => (⟨[(3, one (.os 50 0 s.1)), (9, one (slBN neS L)), (10, one (.int .i64 (L.length : Int))), (11, one (.int .i64 (s.1 : Int)))], [(50, some (entP 51 s.1 L)), (51, some (entH (hldP L s.1 0))), (52, some (entH (hldP L s.1 1))), (53, some (entH (hldP L s.1 2))), (54, some (entH (hldP L s.1 3))), (55, some (entH (hldP L s.1 4))), (56, some (entH (hldP L s.1 5))), (57, some (entH (hldP L s.1 6))), (58, some (entH (hldP L s.1 7)))], 59⟩ : Hd)) (fun s => L.length - s.1) (fun _ => rfl) ?_ ⟨0, Nat.zero_le _⟩ [(50, none), (51, none), (52, none), (53, none), (54, none), (55, none), (56, none), (57, none), (58, none)] ⟨rfl, ⟨leF_c (leC_nils_os rfl), leF_c (leC_cl (cl_slBN L)), leF_int rfl, leF_int rfl, trivial⟩, ⟨⟨rfl, rfl, rfl, Nat.le_of_ble_eq_true rfl⟩, ⟨rfl, rfl, rfl, Nat.le_of_ble_eq_true rfl⟩, ⟨rfl, rfl, rfl, Nat.le_of_ble_eq_true rfl⟩, ⟨rfl, rfl, rfl, Nat.le_of_ble_eq_true rfl⟩, ⟨rfl, rfl, rfl, Nat.le_of_ble_eq_true rfl⟩, ⟨rfl, rfl, rfl, Nat.le_of_ble_eq_true rfl⟩, ⟨rfl, rfl, rfl, Nat.le_of_ble_eq_true rfl⟩, ⟨rfl, rfl, rfl, Nat.le_of_ble_eq_true rfl⟩, ⟨rfl, rfl, rfl, Nat.le_of_ble_eq_true rfl⟩, trivial⟩⟩
 rintro ⟨i, hi⟩
 dsimp only at hi ⊢
 unfold slBN
 by_cases hil : i < L.length
 . have w3 : IntKind.i64.wrap ((i : Int) + 1) = ((i + 1 : Nat) : Int) := (IntWalk.i64_in _ (by omega)).trans (by omega)
   have hk := hL.k _ (getD_mem hil)
   rcases (show i = 0 \/ i = 1 \/ i = 2 \/ i = 3 \/ i = 4 \/ i = 5 \/ i = 6 \/ i = 7 by omega) with rfl | rfl | rfl | rfl | rfl | rfl | rfl | rfl
   . obtain ⟨x, ex⟩ : ∃ x, L.getD 0 default = x := ⟨_, rfl⟩
     have ec : rowN neS L 0 = neS.cell x := congrArg neS.cell ex
     have zi : ((0 : Nat) : Int).toNat = 0 := rfl
     rw [ex] at hk
     repeat' (first | (simp only [zi, ec]) | (apply And.intro <;> intro hc <;> (first | exact Bool.noConfusion hc | (exfalso; first | exact absurd rfl hc | omega) | (simp only [zb0, ne_eq, not_true_eq_false] at hc <;> first | exact absurd rfl hc | (exfalso; first | exact absurd rfl hc | omega) | skip) | skip)) | (refine And.intro zp1 ?_) | (apply And.intro) | (intro s hs; skip) | (refine Exists.intro _ (And.intro ⟨rfl, rfl, rfl⟩ ?_)))
     conv => whnf
     refine loop_intro (mono_of LE0_ok) (fun s : {k : Nat // k <= x.held.length} => (⟨[(3, one (.os 50 0 0)), (9, one (slBN neS L)), (10, one (.int .i64 (L.length : Int))), (11, one (.int .i64 ((0 : Nat) : Int))), (5, one (.ptr 60 0 0 false)), (6, one (.os 59 0 s.1)), (16, one (slN neH x.held)), (17, one (.int .i64 (x.held.length : Int))), (18, one (.int .i64 (s.1 : Int)))], [(50, some (entP 51 0 L)), (51, some (entH (hldP L 0 0))), (52, some (entH (hldP L 0 1))), (53, some (entH (hldP L 0 2))), (54, some (entH (hldP L 0 3))), (55, some (entH (hldP L 0 4))), (56, some (entH (hldP L 0 5))), (57, some (entH (hldP L 0 6))), (58, some (entH (hldP L 0 7))), (59, some (entH (x.held.take s.1))), (60, some ⟨78, 1, 3, true, fun _ => neS.cell x⟩)], 61⟩ : Hd)) (fun s => x.held.length - s.1) (fun _ => rfl) ?_ ⟨0, Nat.zero_le _⟩ [(59, none), (60, some 62)] ⟨rfl, ⟨leF_c (leC_os rfl rfl), leF_c (leC_cl (cl_slBN L)), leF_int rfl, leF_int rfl, leF_ptr rfl, leF_c (leC_nils_os rfl), leF_c (sh_slN _).le, leF_int rfl, leF_int rfl, trivial⟩, ⟨⟨rfl, leN_entPs (lt8 rfl rfl rfl rfl rfl rfl rfl rfl)⟩, ⟨rfl, leN_entN⟩, ⟨rfl, leN_entN⟩, ⟨rfl, leN_entN⟩, ⟨rfl, leN_entN⟩, ⟨rfl, leN_entN⟩, ⟨rfl, leN_entN⟩, ⟨rfl, leN_entN⟩, ⟨rfl, leN_entN⟩, ⟨rfl, rfl, rfl, Nat.le_of_ble_eq_true rfl⟩, ⟨rfl, leN_varA fun j hj => (neS.sh _ j hj).le⟩, trivial⟩⟩
     rintro ⟨k, hkx⟩
     dsimp only at hkx ⊢
     unfold slBN
     by_cases hkl : k < x.held.length
     . have w5 : IntKind.i64.wrap ((k : Int) + 1) = ((k + 1 : Nat) : Int) := (IntWalk.i64_in _ (by have := hk.n; omega)).trans (by omega)
       obtain ⟨h, eh⟩ : ∃ h, x.held.getD k default = h := ⟨_, rfl⟩
       have eck : rowN neH x.held k = neH.cell h := congrArg neH.cell eh
       have zk : (k : Int).toNat = k := rfl
       have hd := hk.d _ (getD_mem hkl)
       rw [eh] at hd
       have hkn := hk.n
       repeat' (first | (simp only [zk, eck]) | (apply And.intro <;> intro hc <;> (first | exact Bool.noConfusion hc | (exfalso; first | exact absurd rfl hc | omega) | (simp only [zb0, ne_eq, not_true_eq_false] at hc <;> first | exact absurd rfl hc | (exfalso; first | exact absurd rfl hc | omega) | skip) | skip)) | (refine And.intro zp1 ?_) | (apply And.intro) | (intro s hs; skip) | (refine Exists.intro _ (And.intro ⟨rfl, rfl, rfl⟩ ?_)))
       . rw [List.length_take]; omega
       . show k + 1 <= 9223372036854775807
         omega
       conv => whnf
       refine ⟨⟨k + 1, hkl⟩, [(59, some 74)], by dsimp only; omega, rfl, ⟨leF_c (leC_os rfl rfl), leF_c (leC_cl (cl_slBN L)), leF_int rfl, leF_int rfl, leF_ptr rfl, leF_c (leC_os rfl rfl), leF_c (sh_slN _).le, leF_int rfl, leF_int w5, trivial⟩, ⟨⟨rfl, leN_entPs (lt8 rfl rfl rfl rfl rfl rfl rfl rfl)⟩, ⟨rfl, leN_entN⟩, ⟨rfl, leN_entN⟩, ⟨rfl, leN_entN⟩, ⟨rfl, leN_entN⟩, ⟨rfl, leN_entN⟩, ⟨rfl, leN_entN⟩, ⟨rfl, leN_entN⟩, ⟨rfl, leN_entN⟩, ⟨rfl, leN_trs (helds_snoc (Z := x.held.take k) (x := h) (by rw [List.length_take]; omega) (lt11c ⟨leC_int rfl, leC_os_sl rfl rfl rfl rfl (Nat.le_of_eq (Nat.zero_add _)) (fun q hq j hj => ?_), leC_int rfl, leC_int rfl, leC_int rfl, leC_int rfl, leC_int rfl, leC_int rfl, leC_int rfl, leC_bool rfl, leC_int rfl⟩)) (by rw [take_at hkl, eh])⟩, ⟨rfl, leN_varA fun j hj => (neS.sh _ j hj).le⟩, trivial⟩⟩
       show LeC _ (rowF eB h.data (0 + q) j) (rowF eB h.data q j)
       exact leC_int (congrArg (fun z => h.data.getD z default) (Nat.zero_add q))
     . obtain rfl : k = x.held.length := by omega
       repeat' (first | (apply And.intro <;> intro hc <;> (first | exact Bool.noConfusion hc | (exfalso; first | exact absurd rfl hc | omega) | (simp only [zb0, ne_eq, not_true_eq_false] at hc <;> first | exact absurd rfl hc | (exfalso; first | exact absurd rfl hc | omega) | skip) | skip)) | (refine And.intro zp1 ?_) | (apply And.intro) | (intro s hs; skip) | (refine Exists.intro _ (And.intro ⟨rfl, rfl, rfl⟩ ?_)))
       conv => whnf
       refine ⟨⟨1, hil⟩, [(50, some 68), (51, some 59)], by dsimp only; omega, rfl, ⟨leF_c (leC_os rfl rfl), leF_c (leC_cl (cl_slBN L)), leF_int rfl, leF_int w3, trivial⟩, ⟨⟨rfl, ⟨rfl, rfl, rfl, rfl, fun p hp j hj => ?_⟩⟩, ⟨rfl, leN_eqN ((List.take_length).trans (congrArg Sed.held ex).symm)⟩, ⟨rfl, leN_entN⟩, ⟨rfl, leN_entN⟩, ⟨rfl, leN_entN⟩, ⟨rfl, leN_entN⟩, ⟨rfl, leN_entN⟩, ⟨rfl, leN_entN⟩, ⟨rfl, leN_entN⟩, trivial⟩⟩
       have hp' : p < 1 := hp
       have hj' : j < 3 := hj
       show LeC _ (selC (Nat.blt p 0) (rowP 51 L p j) _) (rowP 51 L p j)
       by_cases hpi : p < 0
       . refine selC_in (Nat.ble_eq_true_of_le hpi) ?_
         exact absurd hpi (Nat.not_lt_zero p)
       . obtain rfl : p = 0 := by omega
         refine selC_out (blt_self _) ?_
         rcases j with _ | _ | _ | j
         . exact leC_int (congrArg Sed.id ex).symm
         . exact leC_int (congrArg Sed.mn ex).symm
         . exact leC_os rfl (congrArg (fun z : Sed => z.held.length) ex).symm
         . omega
   . obtain ⟨x, ex⟩ : ∃ x, L.getD 1 default = x := ⟨_, rfl⟩
     have ec : rowN neS L 1 = neS.cell x := congrArg neS.cell ex
     have zi : ((1 : Nat) : Int).toNat = 1 := rfl
     rw [ex] at hk
     repeat' (first | (simp only [zi, ec]) | (apply And.intro <;> intro hc <;> (first | exact Bool.noConfusion hc | (exfalso; first | exact absurd rfl hc | omega) | (simp only [zb0, ne_eq, not_true_eq_false] at hc <;> first | exact absurd rfl hc | (exfalso; first | exact absurd rfl hc | omega) | skip) | skip)) | (refine And.intro zp1 ?_) | (apply And.intro) | (intro s hs; skip) | (refine Exists.intro _ (And.intro ⟨rfl, rfl, rfl⟩ ?_)))
     conv => whnf
     refine loop_intro (mono_of LE0_ok) (fun s : {k : Nat // k <= x.held.length} => (⟨[(3, one (.os 50 0 1)), (9, one (slBN neS L)), (10, one (.int .i64 (L.length : Int))), (11, one (.int .i64 ((1 : Nat) : Int))), (5, one (.ptr 60 0 0 false)), (6, one (.os 59 0 s.1)), (16, one (slN neH x.held)), (17, one (.int .i64 (x.held.length : Int))), (18, one (.int .i64 (s.1 : Int)))], [(50, some (entP 51 1 L)), (51, some (entH (hldP L 1 0))), (52, some (entH (hldP L 1 1))), (53, some (entH (hldP L 1 2))), (54, some (entH (hldP L 1 3))), (55, some (entH (hldP L 1 4))), (56, some (entH (hldP L 1 5))), (57, some (entH (hldP L 1 6))), (58, some (entH (hldP L 1 7))), (59, some (entH (x.held.take s.1))), (60, some ⟨78, 1, 3, true, fun _ => neS.cell x⟩)], 61⟩ : Hd)) (fun s => x.held.length - s.1) (fun _ => rfl) ?_ ⟨0, Nat.zero_le _⟩ [(59, none), (60, some 62)] ⟨rfl, ⟨leF_c (leC_os rfl rfl), leF_c (leC_cl (cl_slBN L)), leF_int rfl, leF_int rfl, leF_ptr rfl, leF_c (leC_nils_os rfl), leF_c (sh_slN _).le, leF_int rfl, leF_int rfl, trivial⟩, ⟨⟨rfl, leN_entPs (lt8 rfl rfl rfl rfl rfl rfl rfl rfl)⟩, ⟨rfl, leN_entN⟩, ⟨rfl, leN_entN⟩, ⟨rfl, leN_entN⟩, ⟨rfl, leN_entN⟩, ⟨rfl, leN_entN⟩, ⟨rfl, leN_entN⟩, ⟨rfl, leN_entN⟩, ⟨rfl, leN_entN⟩, ⟨rfl, rfl, rfl, Nat.le_of_ble_eq_true rfl⟩, ⟨rfl, leN_varA fun j hj => (neS.sh _ j hj).le⟩, trivial⟩⟩
     rintro ⟨k, hkx⟩
     dsimp only at hkx ⊢
     unfold slBN
     by_cases hkl : k < x.held.length
     . have w5 : IntKind.i64.wrap ((k : Int) + 1) = ((k + 1 : Nat) : Int) := (IntWalk.i64_in _ (by have := hk.n; omega)).trans (by omega)
       obtain ⟨h, eh⟩ : ∃ h, x.held.getD k default = h := ⟨_, rfl⟩
       have eck : rowN neH x.held k = neH.cell h := congrArg neH.cell eh
       have zk : (k : Int).toNat = k := rfl
       have hd := hk.d _ (getD_mem hkl)
       rw [eh] at hd
       have hkn := hk.n
       repeat' (first | (simp only [zk, eck]) | (apply And.intro <;> intro hc <;> (first | exact Bool.noConfusion hc | (exfalso; first | exact absurd rfl hc | omega) | (simp only [zb0, ne_eq, not_true_eq_false] at hc <;> first | exact absurd rfl hc | (exfalso; first | exact absurd rfl hc | omega) | skip) | skip)) | (refine And.intro zp1 ?_) | (apply And.intro) | (intro s hs; skip) | (refine Exists.intro _ (And.intro ⟨rfl, rfl, rfl⟩ ?_)))
       . rw [List.length_take]; omega
       . show k + 1 <= 9223372036854775807
         omega
       conv => whnf
       refine ⟨⟨k + 1, hkl⟩, [(59, some 74)], by dsimp only; omega, rfl, ⟨leF_c (leC_os rfl rfl), leF_c (leC_cl (cl_slBN L)), leF_int rfl, leF_int rfl, leF_ptr rfl, leF_c (leC_os rfl rfl), leF_c (sh_slN _).le, leF_int rfl, leF_int w5, trivial⟩, ⟨⟨rfl, leN_entPs (lt8 rfl rfl rfl rfl rfl rfl rfl rfl)⟩, ⟨rfl, leN_entN⟩, ⟨rfl, leN_entN⟩, ⟨rfl, leN_entN⟩, ⟨rfl, leN_entN⟩, ⟨rfl, leN_entN⟩, ⟨rfl, leN_entN⟩, ⟨rfl, leN_entN⟩, ⟨rfl, leN_entN⟩, ⟨rfl, leN_trs (helds_snoc (Z := x.held.take k) (x := h) (by rw [List.length_take]; omega) (lt11c ⟨leC_int rfl, leC_os_sl rfl rfl rfl rfl (Nat.le_of_eq (Nat.zero_add _)) (fun q hq j hj => ?_), leC_int rfl, leC_int rfl, leC_int rfl, leC_int rfl, leC_int rfl, leC_int rfl, leC_int rfl, leC_bool rfl, leC_int rfl⟩)) (by rw [take_at hkl, eh])⟩, ⟨rfl, leN_varA fun j hj => (neS.sh _ j hj).le⟩, trivial⟩⟩
       show LeC _ (rowF eB h.data (0 + q) j) (rowF eB h.data q j)
       exact leC_int (congrArg (fun z => h.data.getD z default) (Nat.zero_add q))
     . obtain rfl : k = x.held.length := by omega
       repeat' (first | (apply And.intro <;> intro hc <;> (first | exact Bool.noConfusion hc | (exfalso; first | exact absurd rfl hc | omega) | (simp only [zb0, ne_eq, not_true_eq_false] at hc <;> first | exact absurd rfl hc | (exfalso; first | exact absurd rfl hc | omega) | skip) | skip)) | (refine And.intro zp1 ?_) | (apply And.intro) | (intro s hs; skip) | (refine Exists.intro _ (And.intro ⟨rfl, rfl, rfl⟩ ?_)))
       conv => whnf
       refine ⟨⟨2, hil⟩, [(50, some 68), (52, some 59)], by dsimp only; omega, rfl, ⟨leF_c (leC_os rfl rfl), leF_c (leC_cl (cl_slBN L)), leF_int rfl, leF_int w3, trivial⟩, ⟨⟨rfl, ⟨rfl, rfl, rfl, rfl, fun p hp j hj => ?_⟩⟩, ⟨rfl, leN_entN⟩, ⟨rfl, leN_eqN ((List.take_length).trans (congrArg Sed.held ex).symm)⟩, ⟨rfl, leN_entN⟩, ⟨rfl, leN_entN⟩, ⟨rfl, leN_entN⟩, ⟨rfl, leN_entN⟩, ⟨rfl, leN_entN⟩, ⟨rfl, leN_entN⟩, trivial⟩⟩
       have hp' : p < 2 := hp
       have hj' : j < 3 := hj
       show LeC _ (selC (Nat.blt p 1) (rowP 51 L p j) _) (rowP 51 L p j)
       by_cases hpi : p < 1
       . refine selC_in (Nat.ble_eq_true_of_le hpi) ?_
         rcases (show p = 0 by omega) with rfl <;> exact rowP_le hj' rfl
       . obtain rfl : p = 1 := by omega
         refine selC_out (blt_self _) ?_
         rcases j with _ | _ | _ | j
         . exact leC_int (congrArg Sed.id ex).symm
         . exact leC_int (congrArg Sed.mn ex).symm
         . exact leC_os rfl (congrArg (fun z : Sed => z.held.length) ex).symm
         . omega
   . obtain ⟨x, ex⟩ : ∃ x, L.getD 2 default = x := ⟨_, rfl⟩
     have ec : rowN neS L 2 = neS.cell x := congrArg neS.cell ex
     have zi : ((2 : Nat) : Int).toNat = 2 := rfl
     rw [ex] at hk
     repeat' (first | (simp only [zi, ec]) | (apply And.intro <;> intro hc <;> (first | exact Bool.noConfusion hc | (exfalso; first | exact absurd rfl hc | omega) | (simp only [zb0, ne_eq, not_true_eq_false] at hc <;> first | exact absurd rfl hc | (exfalso; first | exact absurd rfl hc | omega) | skip) | skip)) | (refine And.intro zp1 ?_) | (apply And.intro) | (intro s hs; skip) | (refine Exists.intro _ (And.intro ⟨rfl, rfl, rfl⟩ ?_)))
     conv => whnf
     refine loop_intro (mono_of LE0_ok) (fun s : {k : Nat // k <= x.held.length} => (⟨[(3, one (.os 50 0 2)), (9, one (slBN neS L)), (10, one (.int .i64 (L.length : Int))), (11, one (.int .i64 ((2 : Nat) : Int))), (5, one (.ptr 60 0 0 false)), (6, one (.os 59 0 s.1)), (16, one (slN neH x.held)), (17, one (.int .i64 (x.held.length : Int))), (18, one (.int .i64 (s.1 : Int)))], [(50, some (entP 51 2 L)), (51, some (entH (hldP L 2 0))), (52, some (entH (hldP L 2 1))), (53, some (entH (hldP L 2 2))), (54, some (entH (hldP L 2 3))), (55, some (entH (hldP L 2 4))), (56, some (entH (hldP L 2 5))), (57, some (entH (hldP L 2 6))), (58, some (entH (hldP L 2 7))), (59, some (entH (x.held.take s.1))), (60, some ⟨78, 1, 3, true, fun _ => neS.cell x⟩)], 61⟩ : Hd)) (fun s => x.held.length - s.1) (fun _ => rfl) ?_ ⟨0, Nat.zero_le _⟩ [(59, none), (60, some 62)] ⟨rfl, ⟨leF_c (leC_os rfl rfl), leF_c (leC_cl (cl_slBN L)), leF_int rfl, leF_int rfl, leF_ptr rfl, leF_c (leC_nils_os rfl), leF_c (sh_slN _).le, leF_int rfl, leF_int rfl, trivial⟩, ⟨⟨rfl, leN_entPs (lt8 rfl rfl rfl rfl rfl rfl rfl rfl)⟩, ⟨rfl, leN_entN⟩, ⟨rfl, leN_entN⟩, ⟨rfl, leN_entN⟩, ⟨rfl, leN_entN⟩, ⟨rfl, leN_entN⟩, ⟨rfl, leN_entN⟩, ⟨rfl, leN_entN⟩, ⟨rfl, leN_entN⟩, ⟨rfl, rfl, rfl, Nat.le_of_ble_eq_true rfl⟩, ⟨rfl, leN_varA fun j hj => (neS.sh _ j hj).le⟩, trivial⟩⟩
     rintro ⟨k, hkx⟩
     dsimp only at hkx ⊢
     unfold slBN
     by_cases hkl : k < x.held.length
     . have w5 : IntKind.i64.wrap ((k : Int) + 1) = ((k + 1 : Nat) : Int) := (IntWalk.i64_in _ (by have := hk.n; omega)).trans (by omega)
       obtain ⟨h, eh⟩ : ∃ h, x.held.getD k default = h := ⟨_, rfl⟩
       have eck : rowN neH x.held k = neH.cell h := congrArg neH.cell eh
       have zk : (k : Int).toNat = k := rfl
       have hd := hk.d _ (getD_mem hkl)
       rw [eh] at hd
       have hkn := hk.n
       repeat' (first | (simp only [zk, eck]) | (apply And.intro <;> intro hc <;> (first | exact Bool.noConfusion hc | (exfalso; first | exact absurd rfl hc | omega) | (simp only [zb0, ne_eq, not_true_eq_false] at hc <;> first | exact absurd rfl hc | (exfalso; first | exact absurd rfl hc | omega) | skip) | skip)) | (refine And.intro zp1 ?_) | (apply And.intro) | (intro s hs; skip) | (refine Exists.intro _ (And.intro ⟨rfl, rfl, rfl⟩ ?_)))
       . rw [List.length_take]; omega
       . show k + 1 <= 9223372036854775807
         omega
       conv => whnf
       refine ⟨⟨k + 1, hkl⟩, [(59, some 74)], by dsimp only; omega, rfl, ⟨leF_c (leC_os rfl rfl), leF_c (leC_cl (cl_slBN L)), leF_int rfl, leF_int rfl, leF_ptr rfl, leF_c (leC_os rfl rfl), leF_c (sh_slN _).le, leF_int rfl, leF_int w5, trivial⟩, ⟨⟨rfl, leN_entPs (lt8 rfl rfl rfl rfl rfl rfl rfl rfl)⟩, ⟨rfl, leN_entN⟩, ⟨rfl, leN_entN⟩, ⟨rfl, leN_entN⟩, ⟨rfl, leN_entN⟩, ⟨rfl, leN_entN⟩, ⟨rfl, leN_entN⟩, ⟨rfl, leN_entN⟩, ⟨rfl, leN_entN⟩, ⟨rfl, leN_trs (helds_snoc (Z := x.held.take k) (x := h) (by rw [List.length_take]; omega) (lt11c ⟨leC_int rfl, leC_os_sl rfl rfl rfl rfl (Nat.le_of_eq (Nat.zero_add _)) (fun q hq j hj => ?_), leC_int rfl, leC_int rfl, leC_int rfl, leC_int rfl, leC_int rfl, leC_int rfl, leC_int rfl, leC_bool rfl, leC_int rfl⟩)) (by rw [take_at hkl, eh])⟩, ⟨rfl, leN_varA fun j hj => (neS.sh _ j hj).le⟩, trivial⟩⟩
       show LeC _ (rowF eB h.data (0 + q) j) (rowF eB h.data q j)
       exact leC_int (congrArg (fun z => h.data.getD z default) (Nat.zero_add q))
     . obtain rfl : k = x.held.length := by omega
       repeat' (first | (apply And.intro <;> intro hc <;> (first | exact Bool.noConfusion hc | (exfalso; first | exact absurd rfl hc | omega) | (simp only [zb0, ne_eq, not_true_eq_false] at hc <;> first | exact absurd rfl hc | (exfalso; first | exact absurd rfl hc | omega) | skip) | skip)) | (refine And.intro zp1 ?_) | (apply And.intro) | (intro s hs; skip) | (refine Exists.intro _ (And.intro ⟨rfl, rfl, rfl⟩ ?_)))
       conv => whnf
       refine ⟨⟨3, hil⟩, [(50, some 68), (53, some 59)], by dsimp only; omega, rfl, ⟨leF_c (leC_os rfl rfl), leF_c (leC_cl (cl_slBN L)), leF_int rfl, leF_int w3, trivial⟩, ⟨⟨rfl, ⟨rfl, rfl, rfl, rfl, fun p hp j hj => ?_⟩⟩, ⟨rfl, leN_entN⟩, ⟨rfl, leN_entN⟩, ⟨rfl, leN_eqN ((List.take_length).trans (congrArg Sed.held ex).symm)⟩, ⟨rfl, leN_entN⟩, ⟨rfl, leN_entN⟩, ⟨rfl, leN_entN⟩, ⟨rfl, leN_entN⟩, ⟨rfl, leN_entN⟩, trivial⟩⟩
       have hp' : p < 3 := hp
       have hj' : j < 3 := hj
       show LeC _ (selC (Nat.blt p 2) (rowP 51 L p j) _) (rowP 51 L p j)
       by_cases hpi : p < 2
       . refine selC_in (Nat.ble_eq_true_of_le hpi) ?_
         rcases (show p = 0 \/ p = 1 by omega) with rfl | rfl <;> exact rowP_le hj' rfl
       . obtain rfl : p = 2 := by omega
         refine selC_out (blt_self _) ?_
         rcases j with _ | _ | _ | j
         . exact leC_int (congrArg Sed.id ex).symm
         . exact leC_int (congrArg Sed.mn ex).symm
         . exact leC_os rfl (congrArg (fun z : Sed => z.held.length) ex).symm
         . omega
   . obtain ⟨x, ex⟩ : ∃ x, L.getD 3 default = x := ⟨_, rfl⟩
     have ec : rowN neS L 3 = neS.cell x := congrArg neS.cell ex
     have zi : ((3 : Nat) : Int).toNat = 3 := rfl
     rw [ex] at hk
     repeat' (first | (simp only [zi, ec]) | (apply And.intro <;> intro hc <;> (first | exact Bool.noConfusion hc | (exfalso; first | exact absurd rfl hc | omega) | (simp only [zb0, ne_eq, not_true_eq_false] at hc <;> first | exact absurd rfl hc | (exfalso; first | exact absurd rfl hc | omega) | skip) | skip)) | (refine And.intro zp1 ?_) | (apply And.intro) | (intro s hs; skip) | (refine Exists.intro _ (And.intro ⟨rfl, rfl, rfl⟩ ?_)))
     conv => whnf
     refine loop_intro (mono_of LE0_ok) (fun s : {k : Nat // k <= x.held.length} => (⟨[(3, one (.os 50 0 3)), (9, one (slBN neS L)), (10, one (.int .i64 (L.length : Int))), (11, one (.int .i64 ((3 : Nat) : Int))), (5, one (.ptr 60 0 0 false)), (6, one (.os 59 0 s.1)), (16, one (slN neH x.held)), (17, one (.int .i64 (x.held.length : Int))), (18, one (.int .i64 (s.1 : Int)))], [(50, some (entP 51 3 L)), (51, some (entH (hldP L 3 0))), (52, some (entH (hldP L 3 1))), (53, some (entH (hldP L 3 2))), (54, some (entH (hldP L 3 3))), (55, some (entH (hldP L 3 4))), (56, some (entH (hldP L 3 5))), (57, some (entH (hldP L 3 6))), (58, some (entH (hldP L 3 7))), (59, some (entH (x.held.take s.1))), (60, some ⟨78, 1, 3, true, fun _ => neS.cell x⟩)], 61⟩ : Hd)) (fun s => x.held.length - s.1) (fun _ => rfl) ?_ ⟨0, Nat.zero_le _⟩ [(59, none), (60, some 62)] ⟨rfl, ⟨leF_c (leC_os rfl rfl), leF_c (leC_cl (cl_slBN L)), leF_int rfl, leF_int rfl, leF_ptr rfl, leF_c (leC_nils_os rfl), leF_c (sh_slN _).le, leF_int rfl, leF_int rfl, trivial⟩, ⟨⟨rfl, leN_entPs (lt8 rfl rfl rfl rfl rfl rfl rfl rfl)⟩, ⟨rfl, leN_entN⟩, ⟨rfl, leN_entN⟩, ⟨rfl, leN_entN⟩, ⟨rfl, leN_entN⟩, ⟨rfl, leN_entN⟩, ⟨rfl, leN_entN⟩, ⟨rfl, leN_entN⟩, ⟨rfl, leN_entN⟩, ⟨rfl, rfl, rfl, Nat.le_of_ble_eq_true rfl⟩, ⟨rfl, leN_varA fun j hj => (neS.sh _ j hj).le⟩, trivial⟩⟩
     rintro ⟨k, hkx⟩
     dsimp only at hkx ⊢
     unfold slBN
     by_cases hkl : k < x.held.length
     . have w5 : IntKind.i64.wrap ((k : Int) + 1) = ((k + 1 : Nat) : Int) := (IntWalk.i64_in _ (by have := hk.n; omega)).trans (by omega)
       obtain ⟨h, eh⟩ : ∃ h, x.held.getD k default = h := ⟨_, rfl⟩
       have eck : rowN neH x.held k = neH.cell h := congrArg neH.cell eh
       have zk : (k : Int).toNat = k := rfl
       have hd := hk.d _ (getD_mem hkl)
       rw [eh] at hd
       have hkn := hk.n
       repeat' (first | (simp only [zk, eck]) | (apply And.intro <;> intro hc <;> (first | exact Bool.noConfusion hc | (exfalso; first | exact absurd rfl hc | omega) | (simp only [zb0, ne_eq, not_true_eq_false] at hc <;> first | exact absurd rfl hc | (exfalso; first | exact absurd rfl hc | omega) | skip) | skip)) | (refine And.intro zp1 ?_) | (apply And.intro) | (intro s hs; skip) | (refine Exists.intro _ (And.intro ⟨rfl, rfl, rfl⟩ ?_)))
       . rw [List.length_take]; omega
       . show k + 1 <= 9223372036854775807
         omega
       conv => whnf
       refine ⟨⟨k + 1, hkl⟩, [(59, some 74)], by dsimp only; omega, rfl, ⟨leF_c (leC_os rfl rfl), leF_c (leC_cl (cl_slBN L)), leF_int rfl, leF_int rfl, leF_ptr rfl, leF_c (leC_os rfl rfl), leF_c (sh_slN _).le, leF_int rfl, leF_int w5, trivial⟩, ⟨⟨rfl, leN_entPs (lt8 rfl rfl rfl rfl rfl rfl rfl rfl)⟩, ⟨rfl, leN_entN⟩, ⟨rfl, leN_entN⟩, ⟨rfl, leN_entN⟩, ⟨rfl, leN_entN⟩, ⟨rfl, leN_entN⟩, ⟨rfl, leN_entN⟩, ⟨rfl, leN_entN⟩, ⟨rfl, leN_entN⟩, ⟨rfl, leN_trs (helds_snoc (Z := x.held.take k) (x := h) (by rw [List.length_take]; omega) (lt11c ⟨leC_int rfl, leC_os_sl rfl rfl rfl rfl (Nat.le_of_eq (Nat.zero_add _)) (fun q hq j hj => ?_), leC_int rfl, leC_int rfl, leC_int rfl, leC_int rfl, leC_int rfl, leC_int rfl, leC_int rfl, leC_bool rfl, leC_int rfl⟩)) (by rw [take_at hkl, eh])⟩, ⟨rfl, leN_varA fun j hj => (neS.sh _ j hj).le⟩, trivial⟩⟩
       show LeC _ (rowF eB h.data (0 + q) j) (rowF eB h.data q j)
       exact leC_int (congrArg (fun z => h.data.getD z default) (Nat.zero_add q))
     . obtain rfl : k = x.held.length := by omega
       repeat' (first | (apply And.intro <;> intro hc <;> (first | exact Bool.noConfusion hc | (exfalso; first | exact absurd rfl hc | omega) | (simp only [zb0, ne_eq, not_true_eq_false] at hc <;> first | exact absurd rfl hc | (exfalso; first | exact absurd rfl hc | omega) | skip) | skip)) | (refine And.intro zp1 ?_) | (apply And.intro) | (intro s hs; skip) | (refine Exists.intro _ (And.intro ⟨rfl, rfl, rfl⟩ ?_)))
       conv => whnf
       refine ⟨⟨4, hil⟩, [(50, some 68), (54, some 59)], by dsimp only; omega, rfl, ⟨leF_c (leC_os rfl rfl), leF_c (leC_cl (cl_slBN L)), leF_int rfl, leF_int w3, trivial⟩, ⟨⟨rfl, ⟨rfl, rfl, rfl, rfl, fun p hp j hj => ?_⟩⟩, ⟨rfl, leN_entN⟩, ⟨rfl, leN_entN⟩, ⟨rfl, leN_entN⟩, ⟨rfl, leN_eqN ((List.take_length).trans (congrArg Sed.held ex).symm)⟩, ⟨rfl, leN_entN⟩, ⟨rfl, leN_entN⟩, ⟨rfl, leN_entN⟩, ⟨rfl, leN_entN⟩, trivial⟩⟩
       have hp' : p < 4 := hp
       have hj' : j < 3 := hj
       show LeC _ (selC (Nat.blt p 3) (rowP 51 L p j) _) (rowP 51 L p j)
       by_cases hpi : p < 3
       . refine selC_in (Nat.ble_eq_true_of_le hpi) ?_
         rcases (show p = 0 \/ p = 1 \/ p = 2 by omega) with rfl | rfl | rfl <;> exact rowP_le hj' rfl
       . obtain rfl : p = 3 := by omega
         refine selC_out (blt_self _) ?_
         rcases j with _ | _ | _ | j
         . exact leC_int (congrArg Sed.id ex).symm
         . exact leC_int (congrArg Sed.mn ex).symm
         . exact leC_os rfl (congrArg (fun z : Sed => z.held.length) ex).symm
         . omega
   . obtain ⟨x, ex⟩ : ∃ x, L.getD 4 default = x := ⟨_, rfl⟩
     have ec : rowN neS L 4 = neS.cell x := congrArg neS.cell ex
     have zi : ((4 : Nat) : Int).toNat = 4 := rfl
     rw [ex] at hk
     repeat' (first | (simp only [zi, ec]) | (apply And.intro <;> intro hc <;> (first | exact Bool.noConfusion hc | (exfalso; first | exact absurd rfl hc | omega) | (simp only [zb0, ne_eq, not_true_eq_false] at hc <;> first | exact absurd rfl hc | (exfalso; first | exact absurd rfl hc | omega) | skip) | skip)) | (refine And.intro zp1 ?_) | (apply And.intro) | (intro s hs; skip) | (refine Exists.intro _ (And.intro ⟨rfl, rfl, rfl⟩ ?_)))
     conv => whnf
     refine loop_intro (mono_of LE0_ok) (fun s : {k : Nat // k <= x.held.length} => (⟨[(3, one (.os 50 0 4)), (9, one (slBN neS L)), (10, one (.int .i64 (L.length : Int))), (11, one (.int .i64 ((4 : Nat) : Int))), (5, one (.ptr 60 0 0 false)), (6, one (.os 59 0 s.1)), (16, one (slN neH x.held)), (17, one (.int .i64 (x.held.length : Int))), (18, one (.int .i64 (s.1 : Int)))], [(50, some (entP 51 4 L)), (51, some (entH (hldP L 4 0))), (52, some (entH (hldP L 4 1))), (53, some (entH (hldP L 4 2))), (54, some (entH (hldP L 4 3))), (55, some (entH (hldP L 4 4))), (56, some (entH (hldP L 4 5))), (57, some (entH (hldP L 4 6))), (58, some (entH (hldP L 4 7))), (59, some (entH (x.held.take s.1))), (60, some ⟨78, 1, 3, true, fun _ => neS.cell x⟩)], 61⟩ : Hd)) (fun s => x.held.length - s.1) (fun _ => rfl) ?_ ⟨0, Nat.zero_le _⟩ [(59, none), (60, some 62)] ⟨rfl, ⟨leF_c (leC_os rfl rfl), leF_c (leC_cl (cl_slBN L)), leF_int rfl, leF_int rfl, leF_ptr rfl, leF_c (leC_nils_os rfl), leF_c (sh_slN _).le, leF_int rfl, leF_int rfl, trivial⟩, ⟨⟨rfl, leN_entPs (lt8 rfl rfl rfl rfl rfl rfl rfl rfl)⟩, ⟨rfl, leN_entN⟩, ⟨rfl, leN_entN⟩, ⟨rfl, leN_entN⟩, ⟨rfl, leN_entN⟩, ⟨rfl, leN_entN⟩, ⟨rfl, leN_entN⟩, ⟨rfl, leN_entN⟩, ⟨rfl, leN_entN⟩, ⟨rfl, rfl, rfl, Nat.le_of_ble_eq_true rfl⟩, ⟨rfl, leN_varA fun j hj => (neS.sh _ j hj).le⟩, trivial⟩⟩
     rintro ⟨k, hkx⟩
     dsimp only at hkx ⊢
     unfold slBN
     by_cases hkl : k < x.held.length
     . have w5 : IntKind.i64.wrap ((k : Int) + 1) = ((k + 1 : Nat) : Int) := (IntWalk.i64_in _ (by have := hk.n; omega)).trans (by omega)
       obtain ⟨h, eh⟩ : ∃ h, x.held.getD k default = h := ⟨_, rfl⟩
       have eck : rowN neH x.held k = neH.cell h := congrArg neH.cell eh
       have zk : (k : Int).toNat = k := rfl
       have hd := hk.d _ (getD_mem hkl)
       rw [eh] at hd
       have hkn := hk.n
       repeat' (first | (simp only [zk, eck]) | (apply And.intro <;> intro hc <;> (first | exact Bool.noConfusion hc | (exfalso; first | exact absurd rfl hc | omega) | (simp only [zb0, ne_eq, not_true_eq_false] at hc <;> first | exact absurd rfl hc | (exfalso; first | exact absurd rfl hc | omega) | skip) | skip)) | (refine And.intro zp1 ?_) | (apply And.intro) | (intro s hs; skip) | (refine Exists.intro _ (And.intro ⟨rfl, rfl, rfl⟩ ?_)))
       . rw [List.length_take]; omega
       . show k + 1 <= 9223372036854775807
         omega
       conv => whnf
       refine ⟨⟨k + 1, hkl⟩, [(59, some 74)], by dsimp only; omega, rfl, ⟨leF_c (leC_os rfl rfl), leF_c (leC_cl (cl_slBN L)), leF_int rfl, leF_int rfl, leF_ptr rfl, leF_c (leC_os rfl rfl), leF_c (sh_slN _).le, leF_int rfl, leF_int w5, trivial⟩, ⟨⟨rfl, leN_entPs (lt8 rfl rfl rfl rfl rfl rfl rfl rfl)⟩, ⟨rfl, leN_entN⟩, ⟨rfl, leN_entN⟩, ⟨rfl, leN_entN⟩, ⟨rfl, leN_entN⟩, ⟨rfl, leN_entN⟩, ⟨rfl, leN_entN⟩, ⟨rfl, leN_entN⟩, ⟨rfl, leN_entN⟩, ⟨rfl, leN_trs (helds_snoc (Z := x.held.take k) (x := h) (by rw [List.length_take]; omega) (lt11c ⟨leC_int rfl, leC_os_sl rfl rfl rfl rfl (Nat.le_of_eq (Nat.zero_add _)) (fun q hq j hj => ?_), leC_int rfl, leC_int rfl, leC_int rfl, leC_int rfl, leC_int rfl, leC_int rfl, leC_int rfl, leC_bool rfl, leC_int rfl⟩)) (by rw [take_at hkl, eh])⟩, ⟨rfl, leN_varA fun j hj => (neS.sh _ j hj).le⟩, trivial⟩⟩
       show LeC _ (rowF eB h.data (0 + q) j) (rowF eB h.data q j)
       exact leC_int (congrArg (fun z => h.data.getD z default) (Nat.zero_add q))
     . obtain rfl : k = x.held.length := by omega
       repeat' (first | (apply And.intro <;> intro hc <;> (first | exact Bool.noConfusion hc | (exfalso; first | exact absurd rfl hc | omega) | (simp only [zb0, ne_eq, not_true_eq_false] at hc <;> first | exact absurd rfl hc | (exfalso; first | exact absurd rfl hc | omega) | skip) | skip)) | (refine And.intro zp1 ?_) | (apply And.intro) | (intro s hs; skip) | (refine Exists.intro _ (And.intro ⟨rfl, rfl, rfl⟩ ?_)))
       conv => whnf
       refine ⟨⟨5, hil⟩, [(50, some 68), (55, some 59)], by dsimp only; omega, rfl, ⟨leF_c (leC_os rfl rfl), leF_c (leC_cl (cl_slBN L)), leF_int rfl, leF_int w3, trivial⟩, ⟨⟨rfl, ⟨rfl, rfl, rfl, rfl, fun p hp j hj => ?_⟩⟩, ⟨rfl, leN_entN⟩, ⟨rfl, leN_entN⟩, ⟨rfl, leN_entN⟩, ⟨rfl, leN_entN⟩, ⟨rfl, leN_eqN ((List.take_length).trans (congrArg Sed.held ex).symm)⟩, ⟨rfl, leN_entN⟩, ⟨rfl, leN_entN⟩, ⟨rfl, leN_entN⟩, trivial⟩⟩
       have hp' : p < 5 := hp
       have hj' : j < 3 := hj
       show LeC _ (selC (Nat.blt p 4) (rowP 51 L p j) _) (rowP 51 L p j)
       by_cases hpi : p < 4
       . refine selC_in (Nat.ble_eq_true_of_le hpi) ?_
         rcases (show p = 0 \/ p = 1 \/ p = 2 \/ p = 3 by omega) with rfl | rfl | rfl | rfl <;> exact rowP_le hj' rfl
       . obtain rfl : p = 4 := by omega
         refine selC_out (blt_self _) ?_
         rcases j with _ | _ | _ | j
         . exact leC_int (congrArg Sed.id ex).symm
         . exact leC_int (congrArg Sed.mn ex).symm
         . exact leC_os rfl (congrArg (fun z : Sed => z.held.length) ex).symm
         . omega
   . obtain ⟨x, ex⟩ : ∃ x, L.getD 5 default = x := ⟨_, rfl⟩
     have ec : rowN neS L 5 = neS.cell x := congrArg neS.cell ex
     have zi : ((5 : Nat) : Int).toNat = 5 := rfl
     rw [ex] at hk
     repeat' (first | (simp only [zi, ec]) | (apply And.intro <;> intro hc <;> (first | exact Bool.noConfusion hc | (exfalso; first | exact absurd rfl hc | omega) | (simp only [zb0, ne_eq, not_true_eq_false] at hc <;> first | exact absurd rfl hc | (exfalso; first | exact absurd rfl hc | omega) | skip) | skip)) | (refine And.intro zp1 ?_) | (apply And.intro) | (intro s hs; skip) | (refine Exists.intro _ (And.intro ⟨rfl, rfl, rfl⟩ ?_)))
     conv => whnf
     refine loop_intro (mono_of LE0_ok) (fun s : {k : Nat // k <= x.held.length} => (⟨[(3, one (.os 50 0 5)), (9, one (slBN neS L)), (10, one (.int .i64 (L.length : Int))), (11, one (.int .i64 ((5 : Nat) : Int))), (5, one (.ptr 60 0 0 false)), (6, one (.os 59 0 s.1)), (16, one (slN neH x.held)), (17, one (.int .i64 (x.held.length : Int))), (18, one (.int .i64 (s.1 : Int)))], [(50, some (entP 51 5 L)), (51, some (entH (hldP L 5 0))), (52, some (entH (hldP L 5 1))), (53, some (entH (hldP L 5 2))), (54, some (entH (hldP L 5 3))), (55, some (entH (hldP L 5 4))), (56, some (entH (hldP L 5 5))), (57, some (entH (hldP L 5 6))), (58, some (entH (hldP L 5 7))), (59, some (entH (x.held.take s.1))), (60, some ⟨78, 1, 3, true, fun _ => neS.cell x⟩)], 61⟩ : Hd)) (fun s => x.held.length - s.1) (fun _ => rfl) ?_ ⟨0, Nat.zero_le _⟩ [(59, none), (60, some 62)] ⟨rfl, ⟨leF_c (leC_os rfl rfl), leF_c (leC_cl (cl_slBN L)), leF_int rfl, leF_int rfl, leF_ptr rfl, leF_c (leC_nils_os rfl), leF_c (sh_slN _).le, leF_int rfl, leF_int rfl, trivial⟩, ⟨⟨rfl, leN_entPs (lt8 rfl rfl rfl rfl rfl rfl rfl rfl)⟩, ⟨rfl, leN_entN⟩, ⟨rfl, leN_entN⟩, ⟨rfl, leN_entN⟩, ⟨rfl, leN_entN⟩, ⟨rfl, leN_entN⟩, ⟨rfl, leN_entN⟩, ⟨rfl, leN_entN⟩, ⟨rfl, leN_entN⟩, ⟨rfl, rfl, rfl, Nat.le_of_ble_eq_true rfl⟩, ⟨rfl, leN_varA fun j hj => (neS.sh _ j hj).le⟩, trivial⟩⟩
     rintro ⟨k, hkx⟩
     dsimp only at hkx ⊢
     unfold slBN
     by_cases hkl : k < x.held.length
     . have w5 : IntKind.i64.wrap ((k : Int) + 1) = ((k + 1 : Nat) : Int) := (IntWalk.i64_in _ (by have := hk.n; omega)).trans (by omega)
       obtain ⟨h, eh⟩ : ∃ h, x.held.getD k default = h := ⟨_, rfl⟩
       have eck : rowN neH x.held k = neH.cell h := congrArg neH.cell eh
       have zk : (k : Int).toNat = k := rfl
       have hd := hk.d _ (getD_mem hkl)
       rw [eh] at hd
       have hkn := hk.n
       repeat' (first | (simp only [zk, eck]) | (apply And.intro <;> intro hc <;> (first | exact Bool.noConfusion hc | (exfalso; first | exact absurd rfl hc | omega) | (simp only [zb0, ne_eq, not_true_eq_false] at hc <;> first | exact absurd rfl hc | (exfalso; first | exact absurd rfl hc | omega) | skip) | skip)) | (refine And.intro zp1 ?_) | (apply And.intro) | (intro s hs; skip) | (refine Exists.intro _ (And.intro ⟨rfl, rfl, rfl⟩ ?_)))
       . rw [List.length_take]; omega
       . show k + 1 <= 9223372036854775807
         omega
       conv => whnf
       refine ⟨⟨k + 1, hkl⟩, [(59, some 74)], by dsimp only; omega, rfl, ⟨leF_c (leC_os rfl rfl), leF_c (leC_cl (cl_slBN L)), leF_int rfl, leF_int rfl, leF_ptr rfl, leF_c (leC_os rfl rfl), leF_c (sh_slN _).le, leF_int rfl, leF_int w5, trivial⟩, ⟨⟨rfl, leN_entPs (lt8 rfl rfl rfl rfl rfl rfl rfl rfl)⟩, ⟨rfl, leN_entN⟩, ⟨rfl, leN_entN⟩, ⟨rfl, leN_entN⟩, ⟨rfl, leN_entN⟩, ⟨rfl, leN_entN⟩, ⟨rfl, leN_entN⟩, ⟨rfl, leN_entN⟩, ⟨rfl, leN_entN⟩, ⟨rfl, leN_trs (helds_snoc (Z := x.held.take k) (x := h) (by rw [List.length_take]; omega) (lt11c ⟨leC_int rfl, leC_os_sl rfl rfl rfl rfl (Nat.le_of_eq (Nat.zero_add _)) (fun q hq j hj => ?_), leC_int rfl, leC_int rfl, leC_int rfl, leC_int rfl, leC_int rfl, leC_int rfl, leC_int rfl, leC_bool rfl, leC_int rfl⟩)) (by rw [take_at hkl, eh])⟩, ⟨rfl, leN_varA fun j hj => (neS.sh _ j hj).le⟩, trivial⟩⟩
       show LeC _ (rowF eB h.data (0 + q) j) (rowF eB h.data q j)
       exact leC_int (congrArg (fun z => h.data.getD z default) (Nat.zero_add q))
     . obtain rfl : k = x.held.length := by omega
       repeat' (first | (apply And.intro <;> intro hc <;> (first | exact Bool.noConfusion hc | (exfalso; first | exact absurd rfl hc | omega) | (simp only [zb0, ne_eq, not_true_eq_false] at hc <;> first | exact absurd rfl hc | (exfalso; first | exact absurd rfl hc | omega) | skip) | skip)) | (refine And.intro zp1 ?_) | (apply And.intro) | (intro s hs; skip) | (refine Exists.intro _ (And.intro ⟨rfl, rfl, rfl⟩ ?_)))
       conv => whnf
       refine ⟨⟨6, hil⟩, [(50, some 68), (56, some 59)], by dsimp only; omega, rfl, ⟨leF_c (leC_os rfl rfl), leF_c (leC_cl (cl_slBN L)), leF_int rfl, leF_int w3, trivial⟩, ⟨⟨rfl, ⟨rfl, rfl, rfl, rfl, fun p hp j hj => ?_⟩⟩, ⟨rfl, leN_entN⟩, ⟨rfl, leN_entN⟩, ⟨rfl, leN_entN⟩, ⟨rfl, leN_entN⟩, ⟨rfl, leN_entN⟩, ⟨rfl, leN_eqN ((List.take_length).trans (congrArg Sed.held ex).symm)⟩, ⟨rfl, leN_entN⟩, ⟨rfl, leN_entN⟩, trivial⟩⟩
       have hp' : p < 6 := hp
       have hj' : j < 3 := hj
       show LeC _ (selC (Nat.blt p 5) (rowP 51 L p j) _) (rowP 51 L p j)
       by_cases hpi : p < 5
       . refine selC_in (Nat.ble_eq_true_of_le hpi) ?_
         rcases (show p = 0 \/ p = 1 \/ p = 2 \/ p = 3 \/ p = 4 by omega) with rfl | rfl | rfl | rfl | rfl <;> exact rowP_le hj' rfl
       . obtain rfl : p = 5 := by omega
         refine selC_out (blt_self _) ?_
         rcases j with _ | _ | _ | j
         . exact leC_int (congrArg Sed.id ex).symm
         . exact leC_int (congrArg Sed.mn ex).symm
         . exact leC_os rfl (congrArg (fun z : Sed => z.held.length) ex).symm
         . omega
   . obtain ⟨x, ex⟩ : ∃ x, L.getD 6 default = x := ⟨_, rfl⟩
     have ec : rowN neS L 6 = neS.cell x := congrArg neS.cell ex
     have zi : ((6 : Nat) : Int).toNat = 6 := rfl
     rw [ex] at hk
     repeat' (first | (simp only [zi, ec]) | (apply And.intro <;> intro hc <;> (first | exact Bool.noConfusion hc | (exfalso; first | exact absurd rfl hc | omega) | (simp only [zb0, ne_eq, not_true_eq_false] at hc <;> first | exact absurd rfl hc | (exfalso; first | exact absurd rfl hc | omega) | skip) | skip)) | (refine And.intro zp1 ?_) | (apply And.intro) | (intro s hs; skip) | (refine Exists.intro _ (And.intro ⟨rfl, rfl, rfl⟩ ?_)))
     conv => whnf
     refine loop_intro (mono_of LE0_ok) (fun s : {k : Nat // k <= x.held.length} => (⟨[(3, one (.os 50 0 6)), (9, one (slBN neS L)), (10, one (.int .i64 (L.length : Int))), (11, one (.int .i64 ((6 : Nat) : Int))), (5, one (.ptr 60 0 0 false)), (6, one (.os 59 0 s.1)), (16, one (slN neH x.held)), (17, one (.int .i64 (x.held.length : Int))), (18, one (.int .i64 (s.1 : Int)))], [(50, some (entP 51 6 L)), (51, some (entH (hldP L 6 0))), (52, some (entH (hldP L 6 1))), (53, some (entH (hldP L 6 2))), (54, some (entH (hldP L 6 3))), (55, some (entH (hldP L 6 4))), (56, some (entH (hldP L 6 5))), (57, some (entH (hldP L 6 6))), (58, some (entH (hldP L 6 7))), (59, some (entH (x.held.take s.1))), (60, some ⟨78, 1, 3, true, fun _ => neS.cell x⟩)], 61⟩ : Hd)) (fun s => x.held.length - s.1) (fun _ => rfl) ?_ ⟨0, Nat.zero_le _⟩ [(59, none), (60, some 62)] ⟨rfl, ⟨leF_c (leC_os rfl rfl), leF_c (leC_cl (cl_slBN L)), leF_int rfl, leF_int rfl, leF_ptr rfl, leF_c (leC_nils_os rfl), leF_c (sh_slN _).le, leF_int rfl, leF_int rfl, trivial⟩, ⟨⟨rfl, leN_entPs (lt8 rfl rfl rfl rfl rfl rfl rfl rfl)⟩, ⟨rfl, leN_entN⟩, ⟨rfl, leN_entN⟩, ⟨rfl, leN_entN⟩, ⟨rfl, leN_entN⟩, ⟨rfl, leN_entN⟩, ⟨rfl, leN_entN⟩, ⟨rfl, leN_entN⟩, ⟨rfl, leN_entN⟩, ⟨rfl, rfl, rfl, Nat.le_of_ble_eq_true rfl⟩, ⟨rfl, leN_varA fun j hj => (neS.sh _ j hj).le⟩, trivial⟩⟩
     rintro ⟨k, hkx⟩
     dsimp only at hkx ⊢
     unfold slBN
     by_cases hkl : k < x.held.length
     . have w5 : IntKind.i64.wrap ((k : Int) + 1) = ((k + 1 : Nat) : Int) := (IntWalk.i64_in _ (by have := hk.n; omega)).trans (by omega)
       obtain ⟨h, eh⟩ : ∃ h, x.held.getD k default = h := ⟨_, rfl⟩
       have eck : rowN neH x.held k = neH.cell h := congrArg neH.cell eh
       have zk : (k : Int).toNat = k := rfl
       have hd := hk.d _ (getD_mem hkl)
       rw [eh] at hd
       have hkn := hk.n
       repeat' (first | (simp only [zk, eck]) | (apply And.intro <;> intro hc <;> (first | exact Bool.noConfusion hc | (exfalso; first | exact absurd rfl hc | omega) | (simp only [zb0, ne_eq, not_true_eq_false] at hc <;> first | exact absurd rfl hc | (exfalso; first | exact absurd rfl hc | omega) | skip) | skip)) | (refine And.intro zp1 ?_) | (apply And.intro) | (intro s hs; skip) | (refine Exists.intro _ (And.intro ⟨rfl, rfl, rfl⟩ ?_)))
       . rw [List.length_take]; omega
       . show k + 1 <= 9223372036854775807
         omega
       conv => whnf
       refine ⟨⟨k + 1, hkl⟩, [(59, some 74)], by dsimp only; omega, rfl, ⟨leF_c (leC_os rfl rfl), leF_c (leC_cl (cl_slBN L)), leF_int rfl, leF_int rfl, leF_ptr rfl, leF_c (leC_os rfl rfl), leF_c (sh_slN _).le, leF_int rfl, leF_int w5, trivial⟩, ⟨⟨rfl, leN_entPs (lt8 rfl rfl rfl rfl rfl rfl rfl rfl)⟩, ⟨rfl, leN_entN⟩, ⟨rfl, leN_entN⟩, ⟨rfl, leN_entN⟩, ⟨rfl, leN_entN⟩, ⟨rfl, leN_entN⟩, ⟨rfl, leN_entN⟩, ⟨rfl, leN_entN⟩, ⟨rfl, leN_entN⟩, ⟨rfl, leN_trs (helds_snoc (Z := x.held.take k) (x := h) (by rw [List.length_take]; omega) (lt11c ⟨leC_int rfl, leC_os_sl rfl rfl rfl rfl (Nat.le_of_eq (Nat.zero_add _)) (fun q hq j hj => ?_), leC_int rfl, leC_int rfl, leC_int rfl, leC_int rfl, leC_int rfl, leC_int rfl, leC_int rfl, leC_bool rfl, leC_int rfl⟩)) (by rw [take_at hkl, eh])⟩, ⟨rfl, leN_varA fun j hj => (neS.sh _ j hj).le⟩, trivial⟩⟩
       show LeC _ (rowF eB h.data (0 + q) j) (rowF eB h.data q j)
       exact leC_int (congrArg (fun z => h.data.getD z default) (Nat.zero_add q))
     . obtain rfl : k = x.held.length := by omega
       repeat' (first | (apply And.intro <;> intro hc <;> (first | exact Bool.noConfusion hc | (exfalso; first | exact absurd rfl hc | omega) | (simp only [zb0, ne_eq, not_true_eq_false] at hc <;> first | exact absurd rfl hc | (exfalso; first | exact absurd rfl hc | omega) | skip) | skip)) | (refine And.intro zp1 ?_) | (apply And.intro) | (intro s hs; skip) | (refine Exists.intro _ (And.intro ⟨rfl, rfl, rfl⟩ ?_)))
       conv => whnf
       refine ⟨⟨7, hil⟩, [(50, some 68), (57, some 59)], by dsimp only; omega, rfl, ⟨leF_c (leC_os rfl rfl), leF_c (leC_cl (cl_slBN L)), leF_int rfl, leF_int w3, trivial⟩, ⟨⟨rfl, ⟨rfl, rfl, rfl, rfl, fun p hp j hj => ?_⟩⟩, ⟨rfl, leN_entN⟩, ⟨rfl, leN_entN⟩, ⟨rfl, leN_entN⟩, ⟨rfl, leN_entN⟩, ⟨rfl, leN_entN⟩, ⟨rfl, leN_entN⟩, ⟨rfl, leN_eqN ((List.take_length).trans (congrArg Sed.held ex).symm)⟩, ⟨rfl, leN_entN⟩, trivial⟩⟩
       have hp' : p < 7 := hp
       have hj' : j < 3 := hj
       show LeC _ (selC (Nat.blt p 6) (rowP 51 L p j) _) (rowP 51 L p j)
       by_cases hpi : p < 6
       . refine selC_in (Nat.ble_eq_true_of_le hpi) ?_
         rcases (show p = 0 \/ p = 1 \/ p = 2 \/ p = 3 \/ p = 4 \/ p = 5 by omega) with rfl | rfl | rfl | rfl | rfl | rfl <;> exact rowP_le hj' rfl
       . obtain rfl : p = 6 := by omega
         refine selC_out (blt_self _) ?_
         rcases j with _ | _ | _ | j
         . exact leC_int (congrArg Sed.id ex).symm
         . exact leC_int (congrArg Sed.mn ex).symm
         . exact leC_os rfl (congrArg (fun z : Sed => z.held.length) ex).symm
         . omega
   . obtain ⟨x, ex⟩ : ∃ x, L.getD 7 default = x := ⟨_, rfl⟩
     have ec : rowN neS L 7 = neS.cell x := congrArg neS.cell ex
     have zi : ((7 : Nat) : Int).toNat = 7 := rfl
     rw [ex] at hk
     repeat' (first | (simp only [zi, ec]) | (apply And.intro <;> intro hc <;> (first | exact Bool.noConfusion hc | (exfalso; first | exact absurd rfl hc | omega) | (simp only [zb0, ne_eq, not_true_eq_false] at hc <;> first | exact absurd rfl hc | (exfalso; first | exact absurd rfl hc | omega) | skip) | skip)) | (refine And.intro zp1 ?_) | (apply And.intro) | (intro s hs; skip) | (refine Exists.intro _ (And.intro ⟨rfl, rfl, rfl⟩ ?_)))
     conv => whnf
     refine loop_intro (mono_of LE0_ok) (fun s : {k : Nat // k <= x.held.length} => (⟨[(3, one (.os 50 0 7)), (9, one (slBN neS L)), (10, one (.int .i64 (L.length : Int))), (11, one (.int .i64 ((7 : Nat) : Int))), (5, one (.ptr 60 0 0 false)), (6, one (.os 59 0 s.1)), (16, one (slN neH x.held)), (17, one (.int .i64 (x.held.length : Int))), (18, one (.int .i64 (s.1 : Int)))], [(50, some (entP 51 7 L)), (51, some (entH (hldP L 7 0))), (52, some (entH (hldP L 7 1))), (53, some (entH (hldP L 7 2))), (54, some (entH (hldP L 7 3))), (55, some (entH (hldP L 7 4))), (56, some (entH (hldP L 7 5))), (57, some (entH (hldP L 7 6))), (58, some (entH (hldP L 7 7))), (59, some (entH (x.held.take s.1))), (60, some ⟨78, 1, 3, true, fun _ => neS.cell x⟩)], 61⟩ : Hd)) (fun s => x.held.length - s.1) (fun _ => rfl) ?_ ⟨0, Nat.zero_le _⟩ [(59, none), (60, some 62)] ⟨rfl, ⟨leF_c (leC_os rfl rfl), leF_c (leC_cl (cl_slBN L)), leF_int rfl, leF_int rfl, leF_ptr rfl, leF_c (leC_nils_os rfl), leF_c (sh_slN _).le, leF_int rfl, leF_int rfl, trivial⟩, ⟨⟨rfl, leN_entPs (lt8 rfl rfl rfl rfl rfl rfl rfl rfl)⟩, ⟨rfl, leN_entN⟩, ⟨rfl, leN_entN⟩, ⟨rfl, leN_entN⟩, ⟨rfl, leN_entN⟩, ⟨rfl, leN_entN⟩, ⟨rfl, leN_entN⟩, ⟨rfl, leN_entN⟩, ⟨rfl, leN_entN⟩, ⟨rfl, rfl, rfl, Nat.le_of_ble_eq_true rfl⟩, ⟨rfl, leN_varA fun j hj => (neS.sh _ j hj).le⟩, trivial⟩⟩
     rintro ⟨k, hkx⟩
     dsimp only at hkx ⊢
     unfold slBN
     by_cases hkl : k < x.held.length
     . have w5 : IntKind.i64.wrap ((k : Int) + 1) = ((k + 1 : Nat) : Int) := (IntWalk.i64_in _ (by have := hk.n; omega)).trans (by omega)
       obtain ⟨h, eh⟩ : ∃ h, x.held.getD k default = h := ⟨_, rfl⟩
       have eck : rowN neH x.held k = neH.cell h := congrArg neH.cell eh
       have zk : (k : Int).toNat = k := rfl
       have hd := hk.d _ (getD_mem hkl)
       rw [eh] at hd
       have hkn := hk.n
       repeat' (first | (simp only [zk, eck]) | (apply And.intro <;> intro hc <;> (first | exact Bool.noConfusion hc | (exfalso; first | exact absurd rfl hc | omega) | (simp only [zb0, ne_eq, not_true_eq_false] at hc <;> first | exact absurd rfl hc | (exfalso; first | exact absurd rfl hc | omega) | skip) | skip)) | (refine And.intro zp1 ?_) | (apply And.intro) | (intro s hs; skip) | (refine Exists.intro _ (And.intro ⟨rfl, rfl, rfl⟩ ?_)))
       . rw [List.length_take]; omega
       . show k + 1 <= 9223372036854775807
         omega
       conv => whnf
       refine ⟨⟨k + 1, hkl⟩, [(59, some 74)], by dsimp only; omega, rfl, ⟨leF_c (leC_os rfl rfl), leF_c (leC_cl (cl_slBN L)), leF_int rfl, leF_int rfl, leF_ptr rfl, leF_c (leC_os rfl rfl), leF_c (sh_slN _).le, leF_int rfl, leF_int w5, trivial⟩, ⟨⟨rfl, leN_entPs (lt8 rfl rfl rfl rfl rfl rfl rfl rfl)⟩, ⟨rfl, leN_entN⟩, ⟨rfl, leN_entN⟩, ⟨rfl, leN_entN⟩, ⟨rfl, leN_entN⟩, ⟨rfl, leN_entN⟩, ⟨rfl, leN_entN⟩, ⟨rfl, leN_entN⟩, ⟨rfl, leN_entN⟩, ⟨rfl, leN_trs (helds_snoc (Z := x.held.take k) (x := h) (by rw [List.length_take]; omega) (lt11c ⟨leC_int rfl, leC_os_sl rfl rfl rfl rfl (Nat.le_of_eq (Nat.zero_add _)) (fun q hq j hj => ?_), leC_int rfl, leC_int rfl, leC_int rfl, leC_int rfl, leC_int rfl, leC_int rfl, leC_int rfl, leC_bool rfl, leC_int rfl⟩)) (by rw [take_at hkl, eh])⟩, ⟨rfl, leN_varA fun j hj => (neS.sh _ j hj).le⟩, trivial⟩⟩
       show LeC _ (rowF eB h.data (0 + q) j) (rowF eB h.data q j)
       exact leC_int (congrArg (fun z => h.data.getD z default) (Nat.zero_add q))
     . obtain rfl : k = x.held.length := by omega
       repeat' (first | (apply And.intro <;> intro hc <;> (first | exact Bool.noConfusion hc | (exfalso; first | exact absurd rfl hc | omega) | (simp only [zb0, ne_eq, not_true_eq_false] at hc <;> first | exact absurd rfl hc | (exfalso; first | exact absurd rfl hc | omega) | skip) | skip)) | (refine And.intro zp1 ?_) | (apply And.intro) | (intro s hs; skip) | (refine Exists.intro _ (And.intro ⟨rfl, rfl, rfl⟩ ?_)))
       conv => whnf
       refine ⟨⟨8, hil⟩, [(50, some 68), (58, some 59)], by dsimp only; omega, rfl, ⟨leF_c (leC_os rfl rfl), leF_c (leC_cl (cl_slBN L)), leF_int rfl, leF_int w3, trivial⟩, ⟨⟨rfl, ⟨rfl, rfl, rfl, rfl, fun p hp j hj => ?_⟩⟩, ⟨rfl, leN_entN⟩, ⟨rfl, leN_entN⟩, ⟨rfl, leN_entN⟩, ⟨rfl, leN_entN⟩, ⟨rfl, leN_entN⟩, ⟨rfl, leN_entN⟩, ⟨rfl, leN_entN⟩, ⟨rfl, leN_eqN ((List.take_length).trans (congrArg Sed.held ex).symm)⟩, trivial⟩⟩
       have hp' : p < 8 := hp
       have hj' : j < 3 := hj
       show LeC _ (selC (Nat.blt p 7) (rowP 51 L p j) _) (rowP 51 L p j)
       by_cases hpi : p < 7
       . refine selC_in (Nat.ble_eq_true_of_le hpi) ?_
         rcases (show p = 0 \/ p = 1 \/ p = 2 \/ p = 3 \/ p = 4 \/ p = 5 \/ p = 6 by omega) with rfl | rfl | rfl | rfl | rfl | rfl | rfl <;> exact rowP_le hj' rfl
       . obtain rfl : p = 7 := by omega
         refine selC_out (blt_self _) ?_
         rcases j with _ | _ | _ | j
         . exact leC_int (congrArg Sed.id ex).symm
         . exact leC_int (congrArg Sed.mn ex).symm
         . exact leC_os rfl (congrArg (fun z : Sed => z.held.length) ex).symm
         . omega
 . have hi2 : i = L.length := by omega
   subst hi2
   simp only [hldP_n]
   repeat' (first | (apply And.intro <;> intro hc <;> (first | exact Bool.noConfusion hc | (exfalso; first | exact absurd rfl hc | omega) | (simp only [zb0, ne_eq, not_true_eq_false] at hc <;> first | exact absurd rfl hc | (exfalso; first | exact absurd rfl hc | omega) | skip) | skip)) | (refine And.intro zp1 ?_) | (apply And.intro) | (intro s hs; skip) | (refine Exists.intro _ (And.intro ⟨rfl, rfl, rfl⟩ ?_)))
   conv => whnf
   refine ⟨⟨[(0, some 50), (1, some 51), (2, some 52), (3, some 53), (4, some 54), (5, some 55), (6, some 56), (7, some 57), (8, some 58)], rfl, leF_c (leC_os rfl rfl), ⟨rfl, ⟨rfl, rfl, rfl, rfl, fun p hp j hj => ?_⟩⟩, ⟨rfl, leN_entN⟩, ⟨rfl, leN_entN⟩, ⟨rfl, leN_entN⟩, ⟨rfl, leN_entN⟩, ⟨rfl, leN_entN⟩, ⟨rfl, leN_entN⟩, ⟨rfl, leN_entN⟩, ⟨rfl, leN_entN⟩, trivial⟩⟩
   . have hp' : p < L.length := hp
     have hj' : j < 3 := hj
     rcases (show p = 0 \/ p = 1 \/ p = 2 \/ p = 3 \/ p = 4 \/ p = 5 \/ p = 6 \/ p = 7 by omega) with rfl | rfl | rfl | rfl | rfl | rfl | rfl | rfl <;> exact rowP_le hj' rfl
abbrev rcopyE : Entry := newsE (AC.cons (cNS neS neS_sz) AC.nil) (fun a => Cl8 a.1) (fun a => a.1) 9 (fun nm L => one (.os nm 0 L.length)) (fun nm L => Ents8 (nm + 1) L)
theorem rcopyE_ok : EntOk Try.prog 43 rcopyE := newsE_ok ⟨_, Try.func43, rfl, by kernel_rfl⟩ (fun _ _ => rfl) (fun nm s => sftF_c (by have h : Sft 9 nm (.os 0 0 s.length) (.os (nm + 0) 0 s.length) := sft_os (by decide); exact h)) (fun nm a ha k e e' h h' => by
 iterate 9 (rcases k with _ | k; · (injection h with h; injection h' with h'; subst h h'; first | exact ⟨rfl, rfl, rfl, rfl, fun i hi j hj => sft_sh (neH.sh _ j hj)⟩ | exact ⟨rfl, rfl, rfl, rfl, fun i hi j hj => sft_rowP hj (Nat.lt_of_lt_of_le hi ha.n)⟩))
 cases h) fun a h => rcopy_ok a.1 h
end Go.Proofs.Ytfaibcgakcmhcaa.AX
