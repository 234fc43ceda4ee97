/- Texts of one's own in one file: Rd4c, Rd4d, Rd4, RdI, Rd5, Rd6, Re2, Re3, Rd7, Rd8p, Dq, Dr, BJ, Re4, PkT2, PkT3, PkT4, PkT5, PkN, PkU, Ib, Db, Db2, PacketNoticesA, Tp5, IhW. -/
import Derived.Test.YtjknkfjhcapocaaDoorJCompressNoticesd
import Derived.Test.YtjknkfjhcapocaaDoorJCompressNoticesc
import Derived.Test.YtjknkfjhcapocaaDoorJCompressNoticesb
/- fields of the program's reader, part. (Printed by gen/rdfields.py.) -/
namespace Go.Proofs.YtjknkfjhcapocaaDoor.AX
open Go.RowKit
set_option linter.unusedVariables false
set_option linter.unusedSimpArgs false
set_option maxHeartbeats 4000000 in
set_option maxRecDepth 20000 in
theorem fields_98 (b : List Int) (q : Int) (hr : RdOk b q) : MethOk Tryd.prog 59 [(cI .i64).enc 98] (rdN true b q) (encRH (fieldsD b 98 q).1) (rdN true b (fieldsD b 98 q).2) := by
  obtain ⟨W, hW⟩ : ∃ W, fieldsD b 98 q = W := ⟨_, rfl⟩
  have eW : W = (if (numF b q 1).1.2 = 0 then (if (numF b (numF b q 1).2 3).1.2 = 0 then (if 1048575 < (numF b (numF b q 1).2 3).1.1 then ((zeroH, 5), (numF b (numF b q 1).2 3).2) else (if (numF b (numF b (numF b q 1).2 3).2 1).1.2 = 0 then (if (numF b (numF b (numF b q 1).2 3).2 1).1.1 = 17 then ((zeroH, 5), (numF b (numF b (numF b q 1).2 3).2 1).2) else ((⟨(numF b q 1).1.1, (numF b (numF b q 1).2 3).1.1, (numF b (numF b (numF b q 1).2 3).2 1).1.1, 64, zeroA, zeroA, 0, 0⟩, 0), (numF b (numF b (numF b q 1).2 3).2 1).2)) else ((zeroH, (numF b (numF b (numF b q 1).2 3).2 1).1.2), (numF b (numF b (numF b q 1).2 3).2 1).2))) else ((zeroH, (numF b (numF b q 1).2 3).1.2), (numF b (numF b q 1).2 3).2)) else ((zeroH, (numF b q 1).1.2), (numF b q 1).2)) := by
    rw [← hW]
    simp (decide := true) only [fieldsD, thenD, hopV, if_true, if_false, true_and, and_true, false_and]
  rw [hW]
  clear hW
  have v1 := num1_v (q := q) hr.bl
  have r1 := num_ok (n := 1) hr
  obtain ⟨N1, e1⟩ : ∃ x, numF b q 1 = x := ⟨_, rfl⟩
  rw [e1] at v1 r1 eW
  have v2 := num3_v (q := N1.2) hr.bl
  have r2 := num_ok (n := 3) r1
  obtain ⟨N2, e2⟩ : ∃ x, numF b N1.2 3 = x := ⟨_, rfl⟩
  rw [e2] at v2 r2 eW
  have v3 := num1_v (q := N2.2) hr.bl
  have r3 := num_ok (n := 1) r2
  obtain ⟨N3, e3⟩ : ∃ x, numF b N2.2 1 = x := ⟨_, rfl⟩
  rw [e3] at v3 r3 eW
  have wc : IntKind.u8.wrap N1.1.1 = N1.1.1 := IntWalk.u8_in _ (by omega)
  have wf : IntKind.u32.wrap N2.1.1 = N2.1.1 := IntWalk.u32_in _ (by omega)
  have wn : IntKind.u8.wrap N3.1.1 = N3.1.1 := IntWalk.u8_in _ (by omega)
  have f0 : (¬ N1.1.2 = 0) → W = ((zeroH, N1.1.2), N1.2) := fun h0 => by rw [eW, if_neg h0]
  have f1 : (N1.1.2 = 0) → (¬ N2.1.2 = 0) → W = ((zeroH, N2.1.2), N2.2) := fun h0 h1 => by rw [eW, if_pos h0, if_neg h1]
  have f2 : (N1.1.2 = 0) → (N2.1.2 = 0) → (1048575 < N2.1.1) → W = ((zeroH, 5), N2.2) := fun h0 h1 h2 => by rw [eW, if_pos h0, if_pos h1, if_pos h2]
  have f3 : (N1.1.2 = 0) → (N2.1.2 = 0) → (¬ 1048575 < N2.1.1) → (¬ N3.1.2 = 0) → W = ((zeroH, N3.1.2), N3.2) := fun h0 h1 h2 h3 => by rw [eW, if_pos h0, if_pos h1, if_neg h2, if_neg h3]
  have f4 : (N1.1.2 = 0) → (N2.1.2 = 0) → (¬ 1048575 < N2.1.1) → (N3.1.2 = 0) → (N3.1.1 = 17) → W = ((zeroH, 5), N3.2) := fun h0 h1 h2 h3 h4 => by rw [eW, if_pos h0, if_pos h1, if_neg h2, if_pos h3, if_pos h4]
  have f5 : (N1.1.2 = 0) → (N2.1.2 = 0) → (¬ 1048575 < N2.1.1) → (N3.1.2 = 0) → (¬ N3.1.1 = 17) → W = ((⟨N1.1.1, N2.1.1, N3.1.1, 64, zeroA, zeroA, 0, 0⟩, 0), N3.2) := fun h0 h1 h2 h3 h4 => by rw [eW, if_pos h0, if_pos h1, if_neg h2, if_pos h3, if_neg h4]
  clear eW
  have g1 : True := trivial
  have g2 : True := trivial
  have g3 : True := trivial
  refine meth_intro (wd := 64) (Q := mkQ LRd1) (by decide) tysOk (q_of LRd1_ok) mixed Tryd.func59 rfl _ (by show 1 + 1 ≤ _; decide) (flatF_nff (encRH_flat _)) (rdN_nf) ?_
  repeat' (first | (apply And.intro <;> intro hc <;> (first | exact Bool.noConfusion hc | (exfalso; first | exact absurd hc (by decide) | exact absurd rfl hc | exact absurd hc (by assumption) | exact absurd (by assumption) hc) | (simp only [decide_eq_true_eq, decide_eq_false_iff_not, Bool.not_eq_true', Bool.not_eq_false', beq_iff_eq, beq_eq_false_iff_ne, bne_iff_ne, bne_eq_false_iff_eq, Bool.true_eq_false, Bool.false_eq_true, ne_eq, not_true_eq_false] at hc <;> first | exact absurd rfl hc | (exfalso; first | exact absurd hc (by decide) | exact absurd rfl hc | exact absurd hc (by assumption) | exact absurd (by assumption) hc) | skip) | skip)) | (refine And.intro (by first | exact trivial | decide | omega | (dsimp only; omega) | exact fun _ _ => rfl | exact ⟨by assumption, by first | exact trivial | decide | omega | (dsimp only; omega)⟩) ?_) | (apply And.intro) | (refine Exists.intro b (And.intro ⟨rfl, rfl, by first | exact ⟨by assumption, by decide, by decide⟩⟩ ?_)) | (intro s hs; (first | (clear g1; have q : N1 = s := (hs.trans e1).symm; clear hs; subst q) | (clear g2; have q : N2 = s := (hs.trans e2).symm; clear hs; subst q) | (clear g3; have q : N3 = s := (hs.trans e3).symm; clear hs; subst q) | skip)))
  all_goals try (first | exact rfl | exact Nat.le_of_ble_eq_true rfl)
  all_goals first
    | (rw [f0 (by assumption)]
       exact ⟨leF_tup ⟨leE_tl (fun j hj => by (iterate 38 (rcases j with _ | j; exact leC_int rfl)); exact absurd hj (by omega)) leC_nils, leC_int rfl, trivial⟩, rdN_le rfl⟩)
    | (rw [f1 (by assumption) (by assumption)]
       exact ⟨leF_tup ⟨leE_tl (fun j hj => by (iterate 38 (rcases j with _ | j; exact leC_int rfl)); exact absurd hj (by omega)) leC_nils, leC_int rfl, trivial⟩, rdN_le rfl⟩)
    | (rw [f2 (by assumption) (by assumption) (by rw [← wf]; assumption)]
       exact ⟨leF_tup ⟨leE_tl (fun j hj => by (iterate 38 (rcases j with _ | j; exact leC_int rfl)); exact absurd hj (by omega)) leC_nils, leC_int rfl, trivial⟩, rdN_le rfl⟩)
    | (rw [f3 (by assumption) (by assumption) (by rw [← wf]; assumption) (by assumption)]
       exact ⟨leF_tup ⟨leE_tl (fun j hj => by (iterate 38 (rcases j with _ | j; exact leC_int rfl)); exact absurd hj (by omega)) leC_nils, leC_int rfl, trivial⟩, rdN_le rfl⟩)
    | (rw [f4 (by assumption) (by assumption) (by rw [← wf]; assumption) (by assumption) (by rw [← wn]; assumption)]
       exact ⟨leF_tup ⟨leE_tl (fun j hj => by (iterate 38 (rcases j with _ | j; exact leC_int rfl)); exact absurd hj (by omega)) leC_nils, leC_int rfl, trivial⟩, rdN_le rfl⟩)
    | (rw [f5 (by assumption) (by assumption) (by rw [← wf]; assumption) (by assumption) (by rw [← wn]; assumption)]
       exact ⟨leF_tup ⟨leE_tl (fun j hj => by (rcases j with _ | j; exact leC_int wc); (rcases j with _ | j; exact leC_int wf); (rcases j with _ | j; exact leC_int wn); (rcases j with _ | j; exact leC_int rfl); (iterate 34 (rcases j with _ | j; exact leC_int rfl)); exact absurd hj (by omega)) leC_nils, leC_int rfl, trivial⟩, rdN_le rfl⟩)
    | skip
set_option maxHeartbeats 4000000 in
set_option maxRecDepth 20000 in
theorem fields_102 (b : List Int) (q : Int) (hr : RdOk b q) : MethOk Tryd.prog 59 [(cI .i64).enc 102] (rdN true b q) (encRH (fieldsD b 102 q).1) (rdN true b (fieldsD b 102 q).2) := by
  obtain ⟨W, hW⟩ : ∃ W, fieldsD b 102 q = W := ⟨_, rfl⟩
  have eW : W = (if (numF b q 1).1.2 = 0 then (if (numF b (numF b q 1).2 3).1.2 = 0 then (if 1048575 < (numF b (numF b q 1).2 3).1.1 then ((zeroH, 5), (numF b (numF b q 1).2 3).2) else ((⟨(numF b q 1).1.1, (numF b (numF b q 1).2 3).1.1, 17, 64, zeroA, zeroA, 0, 0⟩, 0), (numF b (numF b q 1).2 3).2)) else ((zeroH, (numF b (numF b q 1).2 3).1.2), (numF b (numF b q 1).2 3).2)) else ((zeroH, (numF b q 1).1.2), (numF b q 1).2)) := by
    rw [← hW]
    simp (decide := true) only [fieldsD, thenD, hopV, if_true, if_false, true_and, and_true, false_and]
  rw [hW]
  clear hW
  have v1 := num1_v (q := q) hr.bl
  have r1 := num_ok (n := 1) hr
  obtain ⟨N1, e1⟩ : ∃ x, numF b q 1 = x := ⟨_, rfl⟩
  rw [e1] at v1 r1 eW
  have v2 := num3_v (q := N1.2) hr.bl
  have r2 := num_ok (n := 3) r1
  obtain ⟨N2, e2⟩ : ∃ x, numF b N1.2 3 = x := ⟨_, rfl⟩
  rw [e2] at v2 r2 eW
  have wc : IntKind.u8.wrap N1.1.1 = N1.1.1 := IntWalk.u8_in _ (by omega)
  have wf : IntKind.u32.wrap N2.1.1 = N2.1.1 := IntWalk.u32_in _ (by omega)
  have f0 : (¬ N1.1.2 = 0) → W = ((zeroH, N1.1.2), N1.2) := fun h0 => by rw [eW, if_neg h0]
  have f1 : (N1.1.2 = 0) → (¬ N2.1.2 = 0) → W = ((zeroH, N2.1.2), N2.2) := fun h0 h1 => by rw [eW, if_pos h0, if_neg h1]
  have f2 : (N1.1.2 = 0) → (N2.1.2 = 0) → (1048575 < N2.1.1) → W = ((zeroH, 5), N2.2) := fun h0 h1 h2 => by rw [eW, if_pos h0, if_pos h1, if_pos h2]
  have f3 : (N1.1.2 = 0) → (N2.1.2 = 0) → (¬ 1048575 < N2.1.1) → W = ((⟨N1.1.1, N2.1.1, 17, 64, zeroA, zeroA, 0, 0⟩, 0), N2.2) := fun h0 h1 h2 => by rw [eW, if_pos h0, if_pos h1, if_neg h2]
  clear eW
  have g1 : True := trivial
  have g2 : True := trivial
  refine meth_intro (wd := 64) (Q := mkQ LRd1) (by decide) tysOk (q_of LRd1_ok) mixed Tryd.func59 rfl _ (by show 1 + 1 ≤ _; decide) (flatF_nff (encRH_flat _)) (rdN_nf) ?_
  repeat' (first | (apply And.intro <;> intro hc <;> (first | exact Bool.noConfusion hc | (exfalso; first | exact absurd hc (by decide) | exact absurd rfl hc | exact absurd hc (by assumption) | exact absurd (by assumption) hc) | (simp only [decide_eq_true_eq, decide_eq_false_iff_not, Bool.not_eq_true', Bool.not_eq_false', beq_iff_eq, beq_eq_false_iff_ne, bne_iff_ne, bne_eq_false_iff_eq, Bool.true_eq_false, Bool.false_eq_true, ne_eq, not_true_eq_false] at hc <;> first | exact absurd rfl hc | (exfalso; first | exact absurd hc (by decide) | exact absurd rfl hc | exact absurd hc (by assumption) | exact absurd (by assumption) hc) | skip) | skip)) | (refine And.intro (by first | exact trivial | decide | omega | (dsimp only; omega) | exact fun _ _ => rfl | exact ⟨by assumption, by first | exact trivial | decide | omega | (dsimp only; omega)⟩) ?_) | (apply And.intro) | (refine Exists.intro b (And.intro ⟨rfl, rfl, by first | exact ⟨by assumption, by decide, by decide⟩⟩ ?_)) | (intro s hs; (first | (clear g1; have q : N1 = s := (hs.trans e1).symm; clear hs; subst q) | (clear g2; have q : N2 = s := (hs.trans e2).symm; clear hs; subst q) | skip)))
  all_goals try (first | exact rfl | exact Nat.le_of_ble_eq_true rfl)
  all_goals first
    | (rw [f0 (by assumption)]
       exact ⟨leF_tup ⟨leE_tl (fun j hj => by (iterate 38 (rcases j with _ | j; exact leC_int rfl)); exact absurd hj (by omega)) leC_nils, leC_int rfl, trivial⟩, rdN_le rfl⟩)
    | (rw [f1 (by assumption) (by assumption)]
       exact ⟨leF_tup ⟨leE_tl (fun j hj => by (iterate 38 (rcases j with _ | j; exact leC_int rfl)); exact absurd hj (by omega)) leC_nils, leC_int rfl, trivial⟩, rdN_le rfl⟩)
    | (rw [f2 (by assumption) (by assumption) (by rw [← wf]; assumption)]
       exact ⟨leF_tup ⟨leE_tl (fun j hj => by (iterate 38 (rcases j with _ | j; exact leC_int rfl)); exact absurd hj (by omega)) leC_nils, leC_int rfl, trivial⟩, rdN_le rfl⟩)
    | (rw [f3 (by assumption) (by assumption) (by rw [← wf]; assumption)]
       exact ⟨leF_tup ⟨leE_tl (fun j hj => by (rcases j with _ | j; exact leC_int wc); (rcases j with _ | j; exact leC_int wf); (rcases j with _ | j; exact leC_int rfl); (rcases j with _ | j; exact leC_int rfl); (iterate 34 (rcases j with _ | j; exact leC_int rfl)); exact absurd hj (by omega)) leC_nils, leC_int rfl, trivial⟩, rdN_le rfl⟩)
    | skip
set_option maxHeartbeats 4000000 in
set_option maxRecDepth 20000 in
theorem fields_106 (b : List Int) (q : Int) (hr : RdOk b q) : MethOk Tryd.prog 59 [(cI .i64).enc 106] (rdN true b q) (encRH (fieldsD b 106 q).1) (rdN true b (fieldsD b 106 q).2) := by
  obtain ⟨W, hW⟩ : ∃ W, fieldsD b 106 q = W := ⟨_, rfl⟩
  have eW : W = (if (numF b q 3).1.2 = 0 then (if 1048575 < (numF b q 3).1.1 then ((zeroH, 5), (numF b q 3).2) else (if (numF b (numF b q 3).2 1).1.2 = 0 then (if (numF b (numF b q 3).2 1).1.1 = 17 then ((zeroH, 5), (numF b (numF b q 3).2 1).2) else ((⟨0, (numF b q 3).1.1, (numF b (numF b q 3).2 1).1.1, 64, zeroA, zeroA, 0, 0⟩, 0), (numF b (numF b q 3).2 1).2)) else ((zeroH, (numF b (numF b q 3).2 1).1.2), (numF b (numF b q 3).2 1).2))) else ((zeroH, (numF b q 3).1.2), (numF b q 3).2)) := by
    rw [← hW]
    simp (decide := true) only [fieldsD, thenD, hopV, if_true, if_false, true_and, and_true, false_and]
  rw [hW]
  clear hW
  have v1 := num3_v (q := q) hr.bl
  have r1 := num_ok (n := 3) hr
  obtain ⟨N1, e1⟩ : ∃ x, numF b q 3 = x := ⟨_, rfl⟩
  rw [e1] at v1 r1 eW
  have v2 := num1_v (q := N1.2) hr.bl
  have r2 := num_ok (n := 1) r1
  obtain ⟨N2, e2⟩ : ∃ x, numF b N1.2 1 = x := ⟨_, rfl⟩
  rw [e2] at v2 r2 eW
  have wf : IntKind.u32.wrap N1.1.1 = N1.1.1 := IntWalk.u32_in _ (by omega)
  have wn : IntKind.u8.wrap N2.1.1 = N2.1.1 := IntWalk.u8_in _ (by omega)
  have f0 : (¬ N1.1.2 = 0) → W = ((zeroH, N1.1.2), N1.2) := fun h0 => by rw [eW, if_neg h0]
  have f1 : (N1.1.2 = 0) → (1048575 < N1.1.1) → W = ((zeroH, 5), N1.2) := fun h0 h1 => by rw [eW, if_pos h0, if_pos h1]
  have f2 : (N1.1.2 = 0) → (¬ 1048575 < N1.1.1) → (¬ N2.1.2 = 0) → W = ((zeroH, N2.1.2), N2.2) := fun h0 h1 h2 => by rw [eW, if_pos h0, if_neg h1, if_neg h2]
  have f3 : (N1.1.2 = 0) → (¬ 1048575 < N1.1.1) → (N2.1.2 = 0) → (N2.1.1 = 17) → W = ((zeroH, 5), N2.2) := fun h0 h1 h2 h3 => by rw [eW, if_pos h0, if_neg h1, if_pos h2, if_pos h3]
  have f4 : (N1.1.2 = 0) → (¬ 1048575 < N1.1.1) → (N2.1.2 = 0) → (¬ N2.1.1 = 17) → W = ((⟨0, N1.1.1, N2.1.1, 64, zeroA, zeroA, 0, 0⟩, 0), N2.2) := fun h0 h1 h2 h3 => by rw [eW, if_pos h0, if_neg h1, if_pos h2, if_neg h3]
  clear eW
  have g1 : True := trivial
  have g2 : True := trivial
  refine meth_intro (wd := 64) (Q := mkQ LRd1) (by decide) tysOk (q_of LRd1_ok) mixed Tryd.func59 rfl _ (by show 1 + 1 ≤ _; decide) (flatF_nff (encRH_flat _)) (rdN_nf) ?_
  repeat' (first | (apply And.intro <;> intro hc <;> (first | exact Bool.noConfusion hc | (exfalso; first | exact absurd hc (by decide) | exact absurd rfl hc | exact absurd hc (by assumption) | exact absurd (by assumption) hc) | (simp only [decide_eq_true_eq, decide_eq_false_iff_not, Bool.not_eq_true', Bool.not_eq_false', beq_iff_eq, beq_eq_false_iff_ne, bne_iff_ne, bne_eq_false_iff_eq, Bool.true_eq_false, Bool.false_eq_true, ne_eq, not_true_eq_false] at hc <;> first | exact absurd rfl hc | (exfalso; first | exact absurd hc (by decide) | exact absurd rfl hc | exact absurd hc (by assumption) | exact absurd (by assumption) hc) | skip) | skip)) | (refine And.intro (by first | exact trivial | decide | omega | (dsimp only; omega) | exact fun _ _ => rfl | exact ⟨by assumption, by first | exact trivial | decide | omega | (dsimp only; omega)⟩) ?_) | (apply And.intro) | (refine Exists.intro b (And.intro ⟨rfl, rfl, by first | exact ⟨by assumption, by decide, by decide⟩⟩ ?_)) | (intro s hs; (first | (clear g1; have q : N1 = s := (hs.trans e1).symm; clear hs; subst q) | (clear g2; have q : N2 = s := (hs.trans e2).symm; clear hs; subst q) | skip)))
  all_goals try (first | exact rfl | exact Nat.le_of_ble_eq_true rfl)
  all_goals first
    | (rw [f0 (by assumption)]
       exact ⟨leF_tup ⟨leE_tl (fun j hj => by (iterate 38 (rcases j with _ | j; exact leC_int rfl)); exact absurd hj (by omega)) leC_nils, leC_int rfl, trivial⟩, rdN_le rfl⟩)
    | (rw [f1 (by assumption) (by rw [← wf]; assumption)]
       exact ⟨leF_tup ⟨leE_tl (fun j hj => by (iterate 38 (rcases j with _ | j; exact leC_int rfl)); exact absurd hj (by omega)) leC_nils, leC_int rfl, trivial⟩, rdN_le rfl⟩)
    | (rw [f2 (by assumption) (by rw [← wf]; assumption) (by assumption)]
       exact ⟨leF_tup ⟨leE_tl (fun j hj => by (iterate 38 (rcases j with _ | j; exact leC_int rfl)); exact absurd hj (by omega)) leC_nils, leC_int rfl, trivial⟩, rdN_le rfl⟩)
    | (rw [f3 (by assumption) (by rw [← wf]; assumption) (by assumption) (by rw [← wn]; assumption)]
       exact ⟨leF_tup ⟨leE_tl (fun j hj => by (iterate 38 (rcases j with _ | j; exact leC_int rfl)); exact absurd hj (by omega)) leC_nils, leC_int rfl, trivial⟩, rdN_le rfl⟩)
    | (rw [f4 (by assumption) (by rw [← wf]; assumption) (by assumption) (by rw [← wn]; assumption)]
       exact ⟨leF_tup ⟨leE_tl (fun j hj => by (rcases j with _ | j; exact leC_int rfl); (rcases j with _ | j; exact leC_int wf); (rcases j with _ | j; exact leC_int wn); (rcases j with _ | j; exact leC_int rfl); (iterate 34 (rcases j with _ | j; exact leC_int rfl)); exact absurd hj (by omega)) leC_nils, leC_int rfl, trivial⟩, rdN_le rfl⟩)
    | skip
set_option maxHeartbeats 4000000 in
set_option maxRecDepth 20000 in
theorem fields_110 (b : List Int) (q : Int) (hr : RdOk b q) : MethOk Tryd.prog 59 [(cI .i64).enc 110] (rdN true b q) (encRH (fieldsD b 110 q).1) (rdN true b (fieldsD b 110 q).2) := by
  obtain ⟨W, hW⟩ : ∃ W, fieldsD b 110 q = W := ⟨_, rfl⟩
  have eW : W = (if (numF b q 3).1.2 = 0 then (if 1048575 < (numF b q 3).1.1 then ((zeroH, 5), (numF b q 3).2) else ((⟨0, (numF b q 3).1.1, 17, 64, zeroA, zeroA, 0, 0⟩, 0), (numF b q 3).2)) else ((zeroH, (numF b q 3).1.2), (numF b q 3).2)) := by
    rw [← hW]
    simp (decide := true) only [fieldsD, thenD, hopV, if_true, if_false, true_and, and_true, false_and]
  rw [hW]
  clear hW
  have v1 := num3_v (q := q) hr.bl
  have r1 := num_ok (n := 3) hr
  obtain ⟨N1, e1⟩ : ∃ x, numF b q 3 = x := ⟨_, rfl⟩
  rw [e1] at v1 r1 eW
  have wf : IntKind.u32.wrap N1.1.1 = N1.1.1 := IntWalk.u32_in _ (by omega)
  have f0 : (¬ N1.1.2 = 0) → W = ((zeroH, N1.1.2), N1.2) := fun h0 => by rw [eW, if_neg h0]
  have f1 : (N1.1.2 = 0) → (1048575 < N1.1.1) → W = ((zeroH, 5), N1.2) := fun h0 h1 => by rw [eW, if_pos h0, if_pos h1]
  have f2 : (N1.1.2 = 0) → (¬ 1048575 < N1.1.1) → W = ((⟨0, N1.1.1, 17, 64, zeroA, zeroA, 0, 0⟩, 0), N1.2) := fun h0 h1 => by rw [eW, if_pos h0, if_neg h1]
  clear eW
  have g1 : True := trivial
  refine meth_intro (wd := 64) (Q := mkQ LRd1) (by decide) tysOk (q_of LRd1_ok) mixed Tryd.func59 rfl _ (by show 1 + 1 ≤ _; decide) (flatF_nff (encRH_flat _)) (rdN_nf) ?_
  repeat' (first | (apply And.intro <;> intro hc <;> (first | exact Bool.noConfusion hc | (exfalso; first | exact absurd hc (by decide) | exact absurd rfl hc | exact absurd hc (by assumption) | exact absurd (by assumption) hc) | (simp only [decide_eq_true_eq, decide_eq_false_iff_not, Bool.not_eq_true', Bool.not_eq_false', beq_iff_eq, beq_eq_false_iff_ne, bne_iff_ne, bne_eq_false_iff_eq, Bool.true_eq_false, Bool.false_eq_true, ne_eq, not_true_eq_false] at hc <;> first | exact absurd rfl hc | (exfalso; first | exact absurd hc (by decide) | exact absurd rfl hc | exact absurd hc (by assumption) | exact absurd (by assumption) hc) | skip) | skip)) | (refine And.intro (by first | exact trivial | decide | omega | (dsimp only; omega) | exact fun _ _ => rfl | exact ⟨by assumption, by first | exact trivial | decide | omega | (dsimp only; omega)⟩) ?_) | (apply And.intro) | (refine Exists.intro b (And.intro ⟨rfl, rfl, by first | exact ⟨by assumption, by decide, by decide⟩⟩ ?_)) | (intro s hs; (first | (clear g1; have q : N1 = s := (hs.trans e1).symm; clear hs; subst q) | skip)))
  all_goals try (first | exact rfl | exact Nat.le_of_ble_eq_true rfl)
  all_goals first
    | (rw [f0 (by assumption)]
       exact ⟨leF_tup ⟨leE_tl (fun j hj => by (iterate 38 (rcases j with _ | j; exact leC_int rfl)); exact absurd hj (by omega)) leC_nils, leC_int rfl, trivial⟩, rdN_le rfl⟩)
    | (rw [f1 (by assumption) (by rw [← wf]; assumption)]
       exact ⟨leF_tup ⟨leE_tl (fun j hj => by (iterate 38 (rcases j with _ | j; exact leC_int rfl)); exact absurd hj (by omega)) leC_nils, leC_int rfl, trivial⟩, rdN_le rfl⟩)
    | (rw [f2 (by assumption) (by rw [← wf]; assumption)]
       exact ⟨leF_tup ⟨leE_tl (fun j hj => by (rcases j with _ | j; exact leC_int rfl); (rcases j with _ | j; exact leC_int wf); (rcases j with _ | j; exact leC_int rfl); (rcases j with _ | j; exact leC_int rfl); (iterate 34 (rcases j with _ | j; exact leC_int rfl)); exact absurd hj (by omega)) leC_nils, leC_int rfl, trivial⟩, rdN_le rfl⟩)
    | skip
set_option maxHeartbeats 4000000 in
set_option maxRecDepth 20000 in
theorem fields_114 (b : List Int) (q : Int) (hr : RdOk b q) : MethOk Tryd.prog 59 [(cI .i64).enc 114] (rdN true b q) (encRH (fieldsD b 114 q).1) (rdN true b (fieldsD b 114 q).2) := by
  obtain ⟨W, hW⟩ : ∃ W, fieldsD b 114 q = W := ⟨_, rfl⟩
  have eW : W = (if (numF b q 1).1.2 = 0 then (if (numF b (numF b q 1).2 1).1.2 = 0 then (if (numF b (numF b q 1).2 1).1.1 = 17 then ((zeroH, 5), (numF b (numF b q 1).2 1).2) else ((⟨(numF b q 1).1.1, 0, (numF b (numF b q 1).2 1).1.1, 64, zeroA, zeroA, 0, 0⟩, 0), (numF b (numF b q 1).2 1).2)) else ((zeroH, (numF b (numF b q 1).2 1).1.2), (numF b (numF b q 1).2 1).2)) else ((zeroH, (numF b q 1).1.2), (numF b q 1).2)) := by
    rw [← hW]
    simp (decide := true) only [fieldsD, thenD, hopV, if_true, if_false, true_and, and_true, false_and]
  rw [hW]
  clear hW
  have v1 := num1_v (q := q) hr.bl
  have r1 := num_ok (n := 1) hr
  obtain ⟨N1, e1⟩ : ∃ x, numF b q 1 = x := ⟨_, rfl⟩
  rw [e1] at v1 r1 eW
  have v2 := num1_v (q := N1.2) hr.bl
  have r2 := num_ok (n := 1) r1
  obtain ⟨N2, e2⟩ : ∃ x, numF b N1.2 1 = x := ⟨_, rfl⟩
  rw [e2] at v2 r2 eW
  have wc : IntKind.u8.wrap N1.1.1 = N1.1.1 := IntWalk.u8_in _ (by omega)
  have wn : IntKind.u8.wrap N2.1.1 = N2.1.1 := IntWalk.u8_in _ (by omega)
  have f0 : (¬ N1.1.2 = 0) → W = ((zeroH, N1.1.2), N1.2) := fun h0 => by rw [eW, if_neg h0]
  have f1 : (N1.1.2 = 0) → (¬ N2.1.2 = 0) → W = ((zeroH, N2.1.2), N2.2) := fun h0 h1 => by rw [eW, if_pos h0, if_neg h1]
  have f2 : (N1.1.2 = 0) → (N2.1.2 = 0) → (N2.1.1 = 17) → W = ((zeroH, 5), N2.2) := fun h0 h1 h2 => by rw [eW, if_pos h0, if_pos h1, if_pos h2]
  have f3 : (N1.1.2 = 0) → (N2.1.2 = 0) → (¬ N2.1.1 = 17) → W = ((⟨N1.1.1, 0, N2.1.1, 64, zeroA, zeroA, 0, 0⟩, 0), N2.2) := fun h0 h1 h2 => by rw [eW, if_pos h0, if_pos h1, if_neg h2]
  clear eW
  have g1 : True := trivial
  have g2 : True := trivial
  refine meth_intro (wd := 64) (Q := mkQ LRd1) (by decide) tysOk (q_of LRd1_ok) mixed Tryd.func59 rfl _ (by show 1 + 1 ≤ _; decide) (flatF_nff (encRH_flat _)) (rdN_nf) ?_
  repeat' (first | (apply And.intro <;> intro hc <;> (first | exact Bool.noConfusion hc | (exfalso; first | exact absurd hc (by decide) | exact absurd rfl hc | exact absurd hc (by assumption) | exact absurd (by assumption) hc) | (simp only [decide_eq_true_eq, decide_eq_false_iff_not, Bool.not_eq_true', Bool.not_eq_false', beq_iff_eq, beq_eq_false_iff_ne, bne_iff_ne, bne_eq_false_iff_eq, Bool.true_eq_false, Bool.false_eq_true, ne_eq, not_true_eq_false] at hc <;> first | exact absurd rfl hc | (exfalso; first | exact absurd hc (by decide) | exact absurd rfl hc | exact absurd hc (by assumption) | exact absurd (by assumption) hc) | skip) | skip)) | (refine And.intro (by first | exact trivial | decide | omega | (dsimp only; omega) | exact fun _ _ => rfl | exact ⟨by assumption, by first | exact trivial | decide | omega | (dsimp only; omega)⟩) ?_) | (apply And.intro) | (refine Exists.intro b (And.intro ⟨rfl, rfl, by first | exact ⟨by assumption, by decide, by decide⟩⟩ ?_)) | (intro s hs; (first | (clear g1; have q : N1 = s := (hs.trans e1).symm; clear hs; subst q) | (clear g2; have q : N2 = s := (hs.trans e2).symm; clear hs; subst q) | skip)))
  all_goals try (first | exact rfl | exact Nat.le_of_ble_eq_true rfl)
  all_goals first
    | (rw [f0 (by assumption)]
       exact ⟨leF_tup ⟨leE_tl (fun j hj => by (iterate 38 (rcases j with _ | j; exact leC_int rfl)); exact absurd hj (by omega)) leC_nils, leC_int rfl, trivial⟩, rdN_le rfl⟩)
    | (rw [f1 (by assumption) (by assumption)]
       exact ⟨leF_tup ⟨leE_tl (fun j hj => by (iterate 38 (rcases j with _ | j; exact leC_int rfl)); exact absurd hj (by omega)) leC_nils, leC_int rfl, trivial⟩, rdN_le rfl⟩)
    | (rw [f2 (by assumption) (by assumption) (by rw [← wn]; assumption)]
       exact ⟨leF_tup ⟨leE_tl (fun j hj => by (iterate 38 (rcases j with _ | j; exact leC_int rfl)); exact absurd hj (by omega)) leC_nils, leC_int rfl, trivial⟩, rdN_le rfl⟩)
    | (rw [f3 (by assumption) (by assumption) (by rw [← wn]; assumption)]
       exact ⟨leF_tup ⟨leE_tl (fun j hj => by (rcases j with _ | j; exact leC_int wc); (rcases j with _ | j; exact leC_int rfl); (rcases j with _ | j; exact leC_int wn); (rcases j with _ | j; exact leC_int rfl); (iterate 34 (rcases j with _ | j; exact leC_int rfl)); exact absurd hj (by omega)) leC_nils, leC_int rfl, trivial⟩, rdN_le rfl⟩)
    | skip
set_option maxHeartbeats 4000000 in
set_option maxRecDepth 20000 in
theorem fields_118 (b : List Int) (q : Int) (hr : RdOk b q) : MethOk Tryd.prog 59 [(cI .i64).enc 118] (rdN true b q) (encRH (fieldsD b 118 q).1) (rdN true b (fieldsD b 118 q).2) := by
  obtain ⟨W, hW⟩ : ∃ W, fieldsD b 118 q = W := ⟨_, rfl⟩
  have eW : W = (if (numF b q 1).1.2 = 0 then ((⟨(numF b q 1).1.1, 0, 17, 64, zeroA, zeroA, 0, 0⟩, 0), (numF b q 1).2) else ((zeroH, (numF b q 1).1.2), (numF b q 1).2)) := by
    rw [← hW]
    simp (decide := true) only [fieldsD, thenD, hopV, if_true, if_false, true_and, and_true, false_and]
  rw [hW]
  clear hW
  have v1 := num1_v (q := q) hr.bl
  have r1 := num_ok (n := 1) hr
  obtain ⟨N1, e1⟩ : ∃ x, numF b q 1 = x := ⟨_, rfl⟩
  rw [e1] at v1 r1 eW
  have wc : IntKind.u8.wrap N1.1.1 = N1.1.1 := IntWalk.u8_in _ (by omega)
  have f0 : (¬ N1.1.2 = 0) → W = ((zeroH, N1.1.2), N1.2) := fun h0 => by rw [eW, if_neg h0]
  have f1 : (N1.1.2 = 0) → W = ((⟨N1.1.1, 0, 17, 64, zeroA, zeroA, 0, 0⟩, 0), N1.2) := fun h0 => by rw [eW, if_pos h0]
  clear eW
  have g1 : True := trivial
  refine meth_intro (wd := 64) (Q := mkQ LRd1) (by decide) tysOk (q_of LRd1_ok) mixed Tryd.func59 rfl _ (by show 1 + 1 ≤ _; decide) (flatF_nff (encRH_flat _)) (rdN_nf) ?_
  repeat' (first | (apply And.intro <;> intro hc <;> (first | exact Bool.noConfusion hc | (exfalso; first | exact absurd hc (by decide) | exact absurd rfl hc | exact absurd hc (by assumption) | exact absurd (by assumption) hc) | (simp only [decide_eq_true_eq, decide_eq_false_iff_not, Bool.not_eq_true', Bool.not_eq_false', beq_iff_eq, beq_eq_false_iff_ne, bne_iff_ne, bne_eq_false_iff_eq, Bool.true_eq_false, Bool.false_eq_true, ne_eq, not_true_eq_false] at hc <;> first | exact absurd rfl hc | (exfalso; first | exact absurd hc (by decide) | exact absurd rfl hc | exact absurd hc (by assumption) | exact absurd (by assumption) hc) | skip) | skip)) | (refine And.intro (by first | exact trivial | decide | omega | (dsimp only; omega) | exact fun _ _ => rfl | exact ⟨by assumption, by first | exact trivial | decide | omega | (dsimp only; omega)⟩) ?_) | (apply And.intro) | (refine Exists.intro b (And.intro ⟨rfl, rfl, by first | exact ⟨by assumption, by decide, by decide⟩⟩ ?_)) | (intro s hs; (first | (clear g1; have q : N1 = s := (hs.trans e1).symm; clear hs; subst q) | skip)))
  all_goals try (first | exact rfl | exact Nat.le_of_ble_eq_true rfl)
  all_goals first
    | (rw [f0 (by assumption)]
       exact ⟨leF_tup ⟨leE_tl (fun j hj => by (iterate 38 (rcases j with _ | j; exact leC_int rfl)); exact absurd hj (by omega)) leC_nils, leC_int rfl, trivial⟩, rdN_le rfl⟩)
    | (rw [f1 (by assumption)]
       exact ⟨leF_tup ⟨leE_tl (fun j hj => by (rcases j with _ | j; exact leC_int wc); (rcases j with _ | j; exact leC_int rfl); (rcases j with _ | j; exact leC_int rfl); (rcases j with _ | j; exact leC_int rfl); (iterate 34 (rcases j with _ | j; exact leC_int rfl)); exact absurd hj (by omega)) leC_nils, leC_int rfl, trivial⟩, rdN_le rfl⟩)
    | skip
set_option maxHeartbeats 4000000 in
set_option maxRecDepth 20000 in
theorem fields_122 (b : List Int) (q : Int) (hr : RdOk b q) : MethOk Tryd.prog 59 [(cI .i64).enc 122] (rdN true b q) (encRH (fieldsD b 122 q).1) (rdN true b (fieldsD b 122 q).2) := by
  obtain ⟨W, hW⟩ : ∃ W, fieldsD b 122 q = W := ⟨_, rfl⟩
  have eW : W = (if (numF b q 1).1.2 = 0 then (if (numF b q 1).1.1 = 17 then ((zeroH, 5), (numF b q 1).2) else ((⟨0, 0, (numF b q 1).1.1, 64, zeroA, zeroA, 0, 0⟩, 0), (numF b q 1).2)) else ((zeroH, (numF b q 1).1.2), (numF b q 1).2)) := by
    rw [← hW]
    simp (decide := true) only [fieldsD, thenD, hopV, if_true, if_false, true_and, and_true, false_and]
  rw [hW]
  clear hW
  have v1 := num1_v (q := q) hr.bl
  have r1 := num_ok (n := 1) hr
  obtain ⟨N1, e1⟩ : ∃ x, numF b q 1 = x := ⟨_, rfl⟩
  rw [e1] at v1 r1 eW
  have wn : IntKind.u8.wrap N1.1.1 = N1.1.1 := IntWalk.u8_in _ (by omega)
  have f0 : (¬ N1.1.2 = 0) → W = ((zeroH, N1.1.2), N1.2) := fun h0 => by rw [eW, if_neg h0]
  have f1 : (N1.1.2 = 0) → (N1.1.1 = 17) → W = ((zeroH, 5), N1.2) := fun h0 h1 => by rw [eW, if_pos h0, if_pos h1]
  have f2 : (N1.1.2 = 0) → (¬ N1.1.1 = 17) → W = ((⟨0, 0, N1.1.1, 64, zeroA, zeroA, 0, 0⟩, 0), N1.2) := fun h0 h1 => by rw [eW, if_pos h0, if_neg h1]
  clear eW
  have g1 : True := trivial
  refine meth_intro (wd := 64) (Q := mkQ LRd1) (by decide) tysOk (q_of LRd1_ok) mixed Tryd.func59 rfl _ (by show 1 + 1 ≤ _; decide) (flatF_nff (encRH_flat _)) (rdN_nf) ?_
  repeat' (first | (apply And.intro <;> intro hc <;> (first | exact Bool.noConfusion hc | (exfalso; first | exact absurd hc (by decide) | exact absurd rfl hc | exact absurd hc (by assumption) | exact absurd (by assumption) hc) | (simp only [decide_eq_true_eq, decide_eq_false_iff_not, Bool.not_eq_true', Bool.not_eq_false', beq_iff_eq, beq_eq_false_iff_ne, bne_iff_ne, bne_eq_false_iff_eq, Bool.true_eq_false, Bool.false_eq_true, ne_eq, not_true_eq_false] at hc <;> first | exact absurd rfl hc | (exfalso; first | exact absurd hc (by decide) | exact absurd rfl hc | exact absurd hc (by assumption) | exact absurd (by assumption) hc) | skip) | skip)) | (refine And.intro (by first | exact trivial | decide | omega | (dsimp only; omega) | exact fun _ _ => rfl | exact ⟨by assumption, by first | exact trivial | decide | omega | (dsimp only; omega)⟩) ?_) | (apply And.intro) | (refine Exists.intro b (And.intro ⟨rfl, rfl, by first | exact ⟨by assumption, by decide, by decide⟩⟩ ?_)) | (intro s hs; (first | (clear g1; have q : N1 = s := (hs.trans e1).symm; clear hs; subst q) | skip)))
  all_goals try (first | exact rfl | exact Nat.le_of_ble_eq_true rfl)
  all_goals first
    | (rw [f0 (by assumption)]
       exact ⟨leF_tup ⟨leE_tl (fun j hj => by (iterate 38 (rcases j with _ | j; exact leC_int rfl)); exact absurd hj (by omega)) leC_nils, leC_int rfl, trivial⟩, rdN_le rfl⟩)
    | (rw [f1 (by assumption) (by rw [← wn]; assumption)]
       exact ⟨leF_tup ⟨leE_tl (fun j hj => by (iterate 38 (rcases j with _ | j; exact leC_int rfl)); exact absurd hj (by omega)) leC_nils, leC_int rfl, trivial⟩, rdN_le rfl⟩)
    | (rw [f2 (by assumption) (by rw [← wn]; assumption)]
       exact ⟨leF_tup ⟨leE_tl (fun j hj => by (rcases j with _ | j; exact leC_int rfl); (rcases j with _ | j; exact leC_int rfl); (rcases j with _ | j; exact leC_int wn); (rcases j with _ | j; exact leC_int rfl); (iterate 34 (rcases j with _ | j; exact leC_int rfl)); exact absurd hj (by omega)) leC_nils, leC_int rfl, trivial⟩, rdN_le rfl⟩)
    | skip
set_option maxHeartbeats 4000000 in
set_option maxRecDepth 20000 in
theorem fields_126 (b : List Int) (q : Int) (hr : RdOk b q) : MethOk Tryd.prog 59 [(cI .i64).enc 126] (rdN true b q) (encRH (fieldsD b 126 q).1) (rdN true b (fieldsD b 126 q).2) := by
  obtain ⟨W, hW⟩ : ∃ W, fieldsD b 126 q = W := ⟨_, rfl⟩
  have eW : W = ((⟨0, 0, 17, 64, zeroA, zeroA, 0, 0⟩, 0), q) := by
    rw [← hW]
    simp (decide := true) only [fieldsD, thenD, hopV, if_true, if_false, true_and, and_true, false_and]
  rw [hW]
  clear hW
  have f0 : W = ((⟨0, 0, 17, 64, zeroA, zeroA, 0, 0⟩, 0), q) := eW
  clear eW
  refine meth_intro (wd := 64) (Q := mkQ LRd1) (by decide) tysOk (q_of LRd1_ok) mixed Tryd.func59 rfl _ (by show 1 + 1 ≤ _; decide) (flatF_nff (encRH_flat _)) (rdN_nf) ?_
  repeat' (first | (apply And.intro <;> intro hc <;> (first | exact Bool.noConfusion hc | (exfalso; first | exact absurd hc (by decide) | exact absurd rfl hc | exact absurd hc (by assumption) | exact absurd (by assumption) hc) | (simp only [decide_eq_true_eq, decide_eq_false_iff_not, Bool.not_eq_true', Bool.not_eq_false', beq_iff_eq, beq_eq_false_iff_ne, bne_iff_ne, bne_eq_false_iff_eq, Bool.true_eq_false, Bool.false_eq_true, ne_eq, not_true_eq_false] at hc <;> first | exact absurd rfl hc | (exfalso; first | exact absurd hc (by decide) | exact absurd rfl hc | exact absurd hc (by assumption) | exact absurd (by assumption) hc) | skip) | skip)) | (refine And.intro (by first | exact trivial | decide | omega | (dsimp only; omega) | exact fun _ _ => rfl | exact ⟨by assumption, by first | exact trivial | decide | omega | (dsimp only; omega)⟩) ?_) | (apply And.intro) | (refine Exists.intro b (And.intro ⟨rfl, rfl, by first | exact ⟨by assumption, by decide, by decide⟩⟩ ?_)) | (intro s hs; (first  | skip)))
  all_goals try (first | exact rfl | exact Nat.le_of_ble_eq_true rfl)
  all_goals first
    | (rw [f0 ]
       exact ⟨leF_tup ⟨leE_tl (fun j hj => by (rcases j with _ | j; exact leC_int rfl); (rcases j with _ | j; exact leC_int rfl); (rcases j with _ | j; exact leC_int rfl); (rcases j with _ | j; exact leC_int rfl); (iterate 34 (rcases j with _ | j; exact leC_int rfl)); exact absurd hj (by omega)) leC_nils, leC_int rfl, trivial⟩, rdN_le rfl⟩)
    | skip
end Go.Proofs.YtjknkfjhcapocaaDoor.AX

/- fields of the program's reader, part. (Printed by gen/rdfields.py.) -/
namespace Go.Proofs.YtjknkfjhcapocaaDoor.AX
open Go.RowKit
set_option linter.unusedVariables false
set_option linter.unusedSimpArgs false
set_option maxHeartbeats 4000000 in
set_option maxRecDepth 20000 in
theorem fields_99 (b : List Int) (q : Int) (hr : RdOk b q) : MethOk Tryd.prog 59 [(cI .i64).enc 99] (rdN true b q) (encRH (fieldsD b 99 q).1) (rdN true b (fieldsD b 99 q).2) := by
  obtain ⟨W, hW⟩ : ∃ W, fieldsD b 99 q = W := ⟨_, rfl⟩
  have eW : W = (if (numF b q 1).1.2 = 0 then (if (numF b (numF b q 1).2 3).1.2 = 0 then (if 1048575 < (numF b (numF b q 1).2 3).1.1 then ((zeroH, 5), (numF b (numF b q 1).2 3).2) else (if (numF b (numF b (numF b q 1).2 3).2 1).1.2 = 0 then (if (numF b (numF b (numF b q 1).2 3).2 1).1.1 = 17 then ((zeroH, 5), (numF b (numF b (numF b q 1).2 3).2 1).2) else ((⟨(numF b q 1).1.1, (numF b (numF b q 1).2 3).1.1, (numF b (numF b (numF b q 1).2 3).2 1).1.1, 255, zeroA, zeroA, 0, 0⟩, 0), (numF b (numF b (numF b q 1).2 3).2 1).2)) else ((zeroH, (numF b (numF b (numF b q 1).2 3).2 1).1.2), (numF b (numF b (numF b q 1).2 3).2 1).2))) else ((zeroH, (numF b (numF b q 1).2 3).1.2), (numF b (numF b q 1).2 3).2)) else ((zeroH, (numF b q 1).1.2), (numF b q 1).2)) := by
    rw [← hW]
    simp (decide := true) only [fieldsD, thenD, hopV, if_true, if_false, true_and, and_true, false_and]
  rw [hW]
  clear hW
  have v1 := num1_v (q := q) hr.bl
  have r1 := num_ok (n := 1) hr
  obtain ⟨N1, e1⟩ : ∃ x, numF b q 1 = x := ⟨_, rfl⟩
  rw [e1] at v1 r1 eW
  have v2 := num3_v (q := N1.2) hr.bl
  have r2 := num_ok (n := 3) r1
  obtain ⟨N2, e2⟩ : ∃ x, numF b N1.2 3 = x := ⟨_, rfl⟩
  rw [e2] at v2 r2 eW
  have v3 := num1_v (q := N2.2) hr.bl
  have r3 := num_ok (n := 1) r2
  obtain ⟨N3, e3⟩ : ∃ x, numF b N2.2 1 = x := ⟨_, rfl⟩
  rw [e3] at v3 r3 eW
  have wc : IntKind.u8.wrap N1.1.1 = N1.1.1 := IntWalk.u8_in _ (by omega)
  have wf : IntKind.u32.wrap N2.1.1 = N2.1.1 := IntWalk.u32_in _ (by omega)
  have wn : IntKind.u8.wrap N3.1.1 = N3.1.1 := IntWalk.u8_in _ (by omega)
  have f0 : (¬ N1.1.2 = 0) → W = ((zeroH, N1.1.2), N1.2) := fun h0 => by rw [eW, if_neg h0]
  have f1 : (N1.1.2 = 0) → (¬ N2.1.2 = 0) → W = ((zeroH, N2.1.2), N2.2) := fun h0 h1 => by rw [eW, if_pos h0, if_neg h1]
  have f2 : (N1.1.2 = 0) → (N2.1.2 = 0) → (1048575 < N2.1.1) → W = ((zeroH, 5), N2.2) := fun h0 h1 h2 => by rw [eW, if_pos h0, if_pos h1, if_pos h2]
  have f3 : (N1.1.2 = 0) → (N2.1.2 = 0) → (¬ 1048575 < N2.1.1) → (¬ N3.1.2 = 0) → W = ((zeroH, N3.1.2), N3.2) := fun h0 h1 h2 h3 => by rw [eW, if_pos h0, if_pos h1, if_neg h2, if_neg h3]
  have f4 : (N1.1.2 = 0) → (N2.1.2 = 0) → (¬ 1048575 < N2.1.1) → (N3.1.2 = 0) → (N3.1.1 = 17) → W = ((zeroH, 5), N3.2) := fun h0 h1 h2 h3 h4 => by rw [eW, if_pos h0, if_pos h1, if_neg h2, if_pos h3, if_pos h4]
  have f5 : (N1.1.2 = 0) → (N2.1.2 = 0) → (¬ 1048575 < N2.1.1) → (N3.1.2 = 0) → (¬ N3.1.1 = 17) → W = ((⟨N1.1.1, N2.1.1, N3.1.1, 255, zeroA, zeroA, 0, 0⟩, 0), N3.2) := fun h0 h1 h2 h3 h4 => by rw [eW, if_pos h0, if_pos h1, if_neg h2, if_pos h3, if_neg h4]
  clear eW
  have g1 : True := trivial
  have g2 : True := trivial
  have g3 : True := trivial
  refine meth_intro (wd := 64) (Q := mkQ LRd1) (by decide) tysOk (q_of LRd1_ok) mixed Tryd.func59 rfl _ (by show 1 + 1 ≤ _; decide) (flatF_nff (encRH_flat _)) (rdN_nf) ?_
  repeat' (first | (apply And.intro <;> intro hc <;> (first | exact Bool.noConfusion hc | (exfalso; first | exact absurd hc (by decide) | exact absurd rfl hc | exact absurd hc (by assumption) | exact absurd (by assumption) hc) | (simp only [decide_eq_true_eq, decide_eq_false_iff_not, Bool.not_eq_true', Bool.not_eq_false', beq_iff_eq, beq_eq_false_iff_ne, bne_iff_ne, bne_eq_false_iff_eq, Bool.true_eq_false, Bool.false_eq_true, ne_eq, not_true_eq_false] at hc <;> first | exact absurd rfl hc | (exfalso; first | exact absurd hc (by decide) | exact absurd rfl hc | exact absurd hc (by assumption) | exact absurd (by assumption) hc) | skip) | skip)) | (refine And.intro (by first | exact trivial | decide | omega | (dsimp only; omega) | exact fun _ _ => rfl | exact ⟨by assumption, by first | exact trivial | decide | omega | (dsimp only; omega)⟩) ?_) | (apply And.intro) | (refine Exists.intro b (And.intro ⟨rfl, rfl, by first | exact ⟨by assumption, by decide, by decide⟩⟩ ?_)) | (intro s hs; (first | (clear g1; have q : N1 = s := (hs.trans e1).symm; clear hs; subst q) | (clear g2; have q : N2 = s := (hs.trans e2).symm; clear hs; subst q) | (clear g3; have q : N3 = s := (hs.trans e3).symm; clear hs; subst q) | skip)))
  all_goals try (first | exact rfl | exact Nat.le_of_ble_eq_true rfl)
  all_goals first
    | (rw [f0 (by assumption)]
       exact ⟨leF_tup ⟨leE_tl (fun j hj => by (iterate 38 (rcases j with _ | j; exact leC_int rfl)); exact absurd hj (by omega)) leC_nils, leC_int rfl, trivial⟩, rdN_le rfl⟩)
    | (rw [f1 (by assumption) (by assumption)]
       exact ⟨leF_tup ⟨leE_tl (fun j hj => by (iterate 38 (rcases j with _ | j; exact leC_int rfl)); exact absurd hj (by omega)) leC_nils, leC_int rfl, trivial⟩, rdN_le rfl⟩)
    | (rw [f2 (by assumption) (by assumption) (by rw [← wf]; assumption)]
       exact ⟨leF_tup ⟨leE_tl (fun j hj => by (iterate 38 (rcases j with _ | j; exact leC_int rfl)); exact absurd hj (by omega)) leC_nils, leC_int rfl, trivial⟩, rdN_le rfl⟩)
    | (rw [f3 (by assumption) (by assumption) (by rw [← wf]; assumption) (by assumption)]
       exact ⟨leF_tup ⟨leE_tl (fun j hj => by (iterate 38 (rcases j with _ | j; exact leC_int rfl)); exact absurd hj (by omega)) leC_nils, leC_int rfl, trivial⟩, rdN_le rfl⟩)
    | (rw [f4 (by assumption) (by assumption) (by rw [← wf]; assumption) (by assumption) (by rw [← wn]; assumption)]
       exact ⟨leF_tup ⟨leE_tl (fun j hj => by (iterate 38 (rcases j with _ | j; exact leC_int rfl)); exact absurd hj (by omega)) leC_nils, leC_int rfl, trivial⟩, rdN_le rfl⟩)
    | (rw [f5 (by assumption) (by assumption) (by rw [← wf]; assumption) (by assumption) (by rw [← wn]; assumption)]
       exact ⟨leF_tup ⟨leE_tl (fun j hj => by (rcases j with _ | j; exact leC_int wc); (rcases j with _ | j; exact leC_int wf); (rcases j with _ | j; exact leC_int wn); (rcases j with _ | j; exact leC_int rfl); (iterate 34 (rcases j with _ | j; exact leC_int rfl)); exact absurd hj (by omega)) leC_nils, leC_int rfl, trivial⟩, rdN_le rfl⟩)
    | skip
set_option maxHeartbeats 4000000 in
set_option maxRecDepth 20000 in
theorem fields_103 (b : List Int) (q : Int) (hr : RdOk b q) : MethOk Tryd.prog 59 [(cI .i64).enc 103] (rdN true b q) (encRH (fieldsD b 103 q).1) (rdN true b (fieldsD b 103 q).2) := by
  obtain ⟨W, hW⟩ : ∃ W, fieldsD b 103 q = W := ⟨_, rfl⟩
  have eW : W = (if (numF b q 1).1.2 = 0 then (if (numF b (numF b q 1).2 3).1.2 = 0 then (if 1048575 < (numF b (numF b q 1).2 3).1.1 then ((zeroH, 5), (numF b (numF b q 1).2 3).2) else ((⟨(numF b q 1).1.1, (numF b (numF b q 1).2 3).1.1, 17, 255, zeroA, zeroA, 0, 0⟩, 0), (numF b (numF b q 1).2 3).2)) else ((zeroH, (numF b (numF b q 1).2 3).1.2), (numF b (numF b q 1).2 3).2)) else ((zeroH, (numF b q 1).1.2), (numF b q 1).2)) := by
    rw [← hW]
    simp (decide := true) only [fieldsD, thenD, hopV, if_true, if_false, true_and, and_true, false_and]
  rw [hW]
  clear hW
  have v1 := num1_v (q := q) hr.bl
  have r1 := num_ok (n := 1) hr
  obtain ⟨N1, e1⟩ : ∃ x, numF b q 1 = x := ⟨_, rfl⟩
  rw [e1] at v1 r1 eW
  have v2 := num3_v (q := N1.2) hr.bl
  have r2 := num_ok (n := 3) r1
  obtain ⟨N2, e2⟩ : ∃ x, numF b N1.2 3 = x := ⟨_, rfl⟩
  rw [e2] at v2 r2 eW
  have wc : IntKind.u8.wrap N1.1.1 = N1.1.1 := IntWalk.u8_in _ (by omega)
  have wf : IntKind.u32.wrap N2.1.1 = N2.1.1 := IntWalk.u32_in _ (by omega)
  have f0 : (¬ N1.1.2 = 0) → W = ((zeroH, N1.1.2), N1.2) := fun h0 => by rw [eW, if_neg h0]
  have f1 : (N1.1.2 = 0) → (¬ N2.1.2 = 0) → W = ((zeroH, N2.1.2), N2.2) := fun h0 h1 => by rw [eW, if_pos h0, if_neg h1]
  have f2 : (N1.1.2 = 0) → (N2.1.2 = 0) → (1048575 < N2.1.1) → W = ((zeroH, 5), N2.2) := fun h0 h1 h2 => by rw [eW, if_pos h0, if_pos h1, if_pos h2]
  have f3 : (N1.1.2 = 0) → (N2.1.2 = 0) → (¬ 1048575 < N2.1.1) → W = ((⟨N1.1.1, N2.1.1, 17, 255, zeroA, zeroA, 0, 0⟩, 0), N2.2) := fun h0 h1 h2 => by rw [eW, if_pos h0, if_pos h1, if_neg h2]
  clear eW
  have g1 : True := trivial
  have g2 : True := trivial
  refine meth_intro (wd := 64) (Q := mkQ LRd1) (by decide) tysOk (q_of LRd1_ok) mixed Tryd.func59 rfl _ (by show 1 + 1 ≤ _; decide) (flatF_nff (encRH_flat _)) (rdN_nf) ?_
  repeat' (first | (apply And.intro <;> intro hc <;> (first | exact Bool.noConfusion hc | (exfalso; first | exact absurd hc (by decide) | exact absurd rfl hc | exact absurd hc (by assumption) | exact absurd (by assumption) hc) | (simp only [decide_eq_true_eq, decide_eq_false_iff_not, Bool.not_eq_true', Bool.not_eq_false', beq_iff_eq, beq_eq_false_iff_ne, bne_iff_ne, bne_eq_false_iff_eq, Bool.true_eq_false, Bool.false_eq_true, ne_eq, not_true_eq_false] at hc <;> first | exact absurd rfl hc | (exfalso; first | exact absurd hc (by decide) | exact absurd rfl hc | exact absurd hc (by assumption) | exact absurd (by assumption) hc) | skip) | skip)) | (refine And.intro (by first | exact trivial | decide | omega | (dsimp only; omega) | exact fun _ _ => rfl | exact ⟨by assumption, by first | exact trivial | decide | omega | (dsimp only; omega)⟩) ?_) | (apply And.intro) | (refine Exists.intro b (And.intro ⟨rfl, rfl, by first | exact ⟨by assumption, by decide, by decide⟩⟩ ?_)) | (intro s hs; (first | (clear g1; have q : N1 = s := (hs.trans e1).symm; clear hs; subst q) | (clear g2; have q : N2 = s := (hs.trans e2).symm; clear hs; subst q) | skip)))
  all_goals try (first | exact rfl | exact Nat.le_of_ble_eq_true rfl)
  all_goals first
    | (rw [f0 (by assumption)]
       exact ⟨leF_tup ⟨leE_tl (fun j hj => by (iterate 38 (rcases j with _ | j; exact leC_int rfl)); exact absurd hj (by omega)) leC_nils, leC_int rfl, trivial⟩, rdN_le rfl⟩)
    | (rw [f1 (by assumption) (by assumption)]
       exact ⟨leF_tup ⟨leE_tl (fun j hj => by (iterate 38 (rcases j with _ | j; exact leC_int rfl)); exact absurd hj (by omega)) leC_nils, leC_int rfl, trivial⟩, rdN_le rfl⟩)
    | (rw [f2 (by assumption) (by assumption) (by rw [← wf]; assumption)]
       exact ⟨leF_tup ⟨leE_tl (fun j hj => by (iterate 38 (rcases j with _ | j; exact leC_int rfl)); exact absurd hj (by omega)) leC_nils, leC_int rfl, trivial⟩, rdN_le rfl⟩)
    | (rw [f3 (by assumption) (by assumption) (by rw [← wf]; assumption)]
       exact ⟨leF_tup ⟨leE_tl (fun j hj => by (rcases j with _ | j; exact leC_int wc); (rcases j with _ | j; exact leC_int wf); (rcases j with _ | j; exact leC_int rfl); (rcases j with _ | j; exact leC_int rfl); (iterate 34 (rcases j with _ | j; exact leC_int rfl)); exact absurd hj (by omega)) leC_nils, leC_int rfl, trivial⟩, rdN_le rfl⟩)
    | skip
set_option maxHeartbeats 4000000 in
set_option maxRecDepth 20000 in
theorem fields_107 (b : List Int) (q : Int) (hr : RdOk b q) : MethOk Tryd.prog 59 [(cI .i64).enc 107] (rdN true b q) (encRH (fieldsD b 107 q).1) (rdN true b (fieldsD b 107 q).2) := by
  obtain ⟨W, hW⟩ : ∃ W, fieldsD b 107 q = W := ⟨_, rfl⟩
  have eW : W = (if (numF b q 3).1.2 = 0 then (if 1048575 < (numF b q 3).1.1 then ((zeroH, 5), (numF b q 3).2) else (if (numF b (numF b q 3).2 1).1.2 = 0 then (if (numF b (numF b q 3).2 1).1.1 = 17 then ((zeroH, 5), (numF b (numF b q 3).2 1).2) else ((⟨0, (numF b q 3).1.1, (numF b (numF b q 3).2 1).1.1, 255, zeroA, zeroA, 0, 0⟩, 0), (numF b (numF b q 3).2 1).2)) else ((zeroH, (numF b (numF b q 3).2 1).1.2), (numF b (numF b q 3).2 1).2))) else ((zeroH, (numF b q 3).1.2), (numF b q 3).2)) := by
    rw [← hW]
    simp (decide := true) only [fieldsD, thenD, hopV, if_true, if_false, true_and, and_true, false_and]
  rw [hW]
  clear hW
  have v1 := num3_v (q := q) hr.bl
  have r1 := num_ok (n := 3) hr
  obtain ⟨N1, e1⟩ : ∃ x, numF b q 3 = x := ⟨_, rfl⟩
  rw [e1] at v1 r1 eW
  have v2 := num1_v (q := N1.2) hr.bl
  have r2 := num_ok (n := 1) r1
  obtain ⟨N2, e2⟩ : ∃ x, numF b N1.2 1 = x := ⟨_, rfl⟩
  rw [e2] at v2 r2 eW
  have wf : IntKind.u32.wrap N1.1.1 = N1.1.1 := IntWalk.u32_in _ (by omega)
  have wn : IntKind.u8.wrap N2.1.1 = N2.1.1 := IntWalk.u8_in _ (by omega)
  have f0 : (¬ N1.1.2 = 0) → W = ((zeroH, N1.1.2), N1.2) := fun h0 => by rw [eW, if_neg h0]
  have f1 : (N1.1.2 = 0) → (1048575 < N1.1.1) → W = ((zeroH, 5), N1.2) := fun h0 h1 => by rw [eW, if_pos h0, if_pos h1]
  have f2 : (N1.1.2 = 0) → (¬ 1048575 < N1.1.1) → (¬ N2.1.2 = 0) → W = ((zeroH, N2.1.2), N2.2) := fun h0 h1 h2 => by rw [eW, if_pos h0, if_neg h1, if_neg h2]
  have f3 : (N1.1.2 = 0) → (¬ 1048575 < N1.1.1) → (N2.1.2 = 0) → (N2.1.1 = 17) → W = ((zeroH, 5), N2.2) := fun h0 h1 h2 h3 => by rw [eW, if_pos h0, if_neg h1, if_pos h2, if_pos h3]
  have f4 : (N1.1.2 = 0) → (¬ 1048575 < N1.1.1) → (N2.1.2 = 0) → (¬ N2.1.1 = 17) → W = ((⟨0, N1.1.1, N2.1.1, 255, zeroA, zeroA, 0, 0⟩, 0), N2.2) := fun h0 h1 h2 h3 => by rw [eW, if_pos h0, if_neg h1, if_pos h2, if_neg h3]
  clear eW
  have g1 : True := trivial
  have g2 : True := trivial
  refine meth_intro (wd := 64) (Q := mkQ LRd1) (by decide) tysOk (q_of LRd1_ok) mixed Tryd.func59 rfl _ (by show 1 + 1 ≤ _; decide) (flatF_nff (encRH_flat _)) (rdN_nf) ?_
  repeat' (first | (apply And.intro <;> intro hc <;> (first | exact Bool.noConfusion hc | (exfalso; first | exact absurd hc (by decide) | exact absurd rfl hc | exact absurd hc (by assumption) | exact absurd (by assumption) hc) | (simp only [decide_eq_true_eq, decide_eq_false_iff_not, Bool.not_eq_true', Bool.not_eq_false', beq_iff_eq, beq_eq_false_iff_ne, bne_iff_ne, bne_eq_false_iff_eq, Bool.true_eq_false, Bool.false_eq_true, ne_eq, not_true_eq_false] at hc <;> first | exact absurd rfl hc | (exfalso; first | exact absurd hc (by decide) | exact absurd rfl hc | exact absurd hc (by assumption) | exact absurd (by assumption) hc) | skip) | skip)) | (refine And.intro (by first | exact trivial | decide | omega | (dsimp only; omega) | exact fun _ _ => rfl | exact ⟨by assumption, by first | exact trivial | decide | omega | (dsimp only; omega)⟩) ?_) | (apply And.intro) | (refine Exists.intro b (And.intro ⟨rfl, rfl, by first | exact ⟨by assumption, by decide, by decide⟩⟩ ?_)) | (intro s hs; (first | (clear g1; have q : N1 = s := (hs.trans e1).symm; clear hs; subst q) | (clear g2; have q : N2 = s := (hs.trans e2).symm; clear hs; subst q) | skip)))
  all_goals try (first | exact rfl | exact Nat.le_of_ble_eq_true rfl)
  all_goals first
    | (rw [f0 (by assumption)]
       exact ⟨leF_tup ⟨leE_tl (fun j hj => by (iterate 38 (rcases j with _ | j; exact leC_int rfl)); exact absurd hj (by omega)) leC_nils, leC_int rfl, trivial⟩, rdN_le rfl⟩)
    | (rw [f1 (by assumption) (by rw [← wf]; assumption)]
       exact ⟨leF_tup ⟨leE_tl (fun j hj => by (iterate 38 (rcases j with _ | j; exact leC_int rfl)); exact absurd hj (by omega)) leC_nils, leC_int rfl, trivial⟩, rdN_le rfl⟩)
    | (rw [f2 (by assumption) (by rw [← wf]; assumption) (by assumption)]
       exact ⟨leF_tup ⟨leE_tl (fun j hj => by (iterate 38 (rcases j with _ | j; exact leC_int rfl)); exact absurd hj (by omega)) leC_nils, leC_int rfl, trivial⟩, rdN_le rfl⟩)
    | (rw [f3 (by assumption) (by rw [← wf]; assumption) (by assumption) (by rw [← wn]; assumption)]
       exact ⟨leF_tup ⟨leE_tl (fun j hj => by (iterate 38 (rcases j with _ | j; exact leC_int rfl)); exact absurd hj (by omega)) leC_nils, leC_int rfl, trivial⟩, rdN_le rfl⟩)
    | (rw [f4 (by assumption) (by rw [← wf]; assumption) (by assumption) (by rw [← wn]; assumption)]
       exact ⟨leF_tup ⟨leE_tl (fun j hj => by (rcases j with _ | j; exact leC_int rfl); (rcases j with _ | j; exact leC_int wf); (rcases j with _ | j; exact leC_int wn); (rcases j with _ | j; exact leC_int rfl); (iterate 34 (rcases j with _ | j; exact leC_int rfl)); exact absurd hj (by omega)) leC_nils, leC_int rfl, trivial⟩, rdN_le rfl⟩)
    | skip
set_option maxHeartbeats 4000000 in
set_option maxRecDepth 20000 in
theorem fields_111 (b : List Int) (q : Int) (hr : RdOk b q) : MethOk Tryd.prog 59 [(cI .i64).enc 111] (rdN true b q) (encRH (fieldsD b 111 q).1) (rdN true b (fieldsD b 111 q).2) := by
  obtain ⟨W, hW⟩ : ∃ W, fieldsD b 111 q = W := ⟨_, rfl⟩
  have eW : W = (if (numF b q 3).1.2 = 0 then (if 1048575 < (numF b q 3).1.1 then ((zeroH, 5), (numF b q 3).2) else ((⟨0, (numF b q 3).1.1, 17, 255, zeroA, zeroA, 0, 0⟩, 0), (numF b q 3).2)) else ((zeroH, (numF b q 3).1.2), (numF b q 3).2)) := by
    rw [← hW]
    simp (decide := true) only [fieldsD, thenD, hopV, if_true, if_false, true_and, and_true, false_and]
  rw [hW]
  clear hW
  have v1 := num3_v (q := q) hr.bl
  have r1 := num_ok (n := 3) hr
  obtain ⟨N1, e1⟩ : ∃ x, numF b q 3 = x := ⟨_, rfl⟩
  rw [e1] at v1 r1 eW
  have wf : IntKind.u32.wrap N1.1.1 = N1.1.1 := IntWalk.u32_in _ (by omega)
  have f0 : (¬ N1.1.2 = 0) → W = ((zeroH, N1.1.2), N1.2) := fun h0 => by rw [eW, if_neg h0]
  have f1 : (N1.1.2 = 0) → (1048575 < N1.1.1) → W = ((zeroH, 5), N1.2) := fun h0 h1 => by rw [eW, if_pos h0, if_pos h1]
  have f2 : (N1.1.2 = 0) → (¬ 1048575 < N1.1.1) → W = ((⟨0, N1.1.1, 17, 255, zeroA, zeroA, 0, 0⟩, 0), N1.2) := fun h0 h1 => by rw [eW, if_pos h0, if_neg h1]
  clear eW
  have g1 : True := trivial
  refine meth_intro (wd := 64) (Q := mkQ LRd1) (by decide) tysOk (q_of LRd1_ok) mixed Tryd.func59 rfl _ (by show 1 + 1 ≤ _; decide) (flatF_nff (encRH_flat _)) (rdN_nf) ?_
  repeat' (first | (apply And.intro <;> intro hc <;> (first | exact Bool.noConfusion hc | (exfalso; first | exact absurd hc (by decide) | exact absurd rfl hc | exact absurd hc (by assumption) | exact absurd (by assumption) hc) | (simp only [decide_eq_true_eq, decide_eq_false_iff_not, Bool.not_eq_true', Bool.not_eq_false', beq_iff_eq, beq_eq_false_iff_ne, bne_iff_ne, bne_eq_false_iff_eq, Bool.true_eq_false, Bool.false_eq_true, ne_eq, not_true_eq_false] at hc <;> first | exact absurd rfl hc | (exfalso; first | exact absurd hc (by decide) | exact absurd rfl hc | exact absurd hc (by assumption) | exact absurd (by assumption) hc) | skip) | skip)) | (refine And.intro (by first | exact trivial | decide | omega | (dsimp only; omega) | exact fun _ _ => rfl | exact ⟨by assumption, by first | exact trivial | decide | omega | (dsimp only; omega)⟩) ?_) | (apply And.intro) | (refine Exists.intro b (And.intro ⟨rfl, rfl, by first | exact ⟨by assumption, by decide, by decide⟩⟩ ?_)) | (intro s hs; (first | (clear g1; have q : N1 = s := (hs.trans e1).symm; clear hs; subst q) | skip)))
  all_goals try (first | exact rfl | exact Nat.le_of_ble_eq_true rfl)
  all_goals first
    | (rw [f0 (by assumption)]
       exact ⟨leF_tup ⟨leE_tl (fun j hj => by (iterate 38 (rcases j with _ | j; exact leC_int rfl)); exact absurd hj (by omega)) leC_nils, leC_int rfl, trivial⟩, rdN_le rfl⟩)
    | (rw [f1 (by assumption) (by rw [← wf]; assumption)]
       exact ⟨leF_tup ⟨leE_tl (fun j hj => by (iterate 38 (rcases j with _ | j; exact leC_int rfl)); exact absurd hj (by omega)) leC_nils, leC_int rfl, trivial⟩, rdN_le rfl⟩)
    | (rw [f2 (by assumption) (by rw [← wf]; assumption)]
       exact ⟨leF_tup ⟨leE_tl (fun j hj => by (rcases j with _ | j; exact leC_int rfl); (rcases j with _ | j; exact leC_int wf); (rcases j with _ | j; exact leC_int rfl); (rcases j with _ | j; exact leC_int rfl); (iterate 34 (rcases j with _ | j; exact leC_int rfl)); exact absurd hj (by omega)) leC_nils, leC_int rfl, trivial⟩, rdN_le rfl⟩)
    | skip
set_option maxHeartbeats 4000000 in
set_option maxRecDepth 20000 in
theorem fields_115 (b : List Int) (q : Int) (hr : RdOk b q) : MethOk Tryd.prog 59 [(cI .i64).enc 115] (rdN true b q) (encRH (fieldsD b 115 q).1) (rdN true b (fieldsD b 115 q).2) := by
  obtain ⟨W, hW⟩ : ∃ W, fieldsD b 115 q = W := ⟨_, rfl⟩
  have eW : W = (if (numF b q 1).1.2 = 0 then (if (numF b (numF b q 1).2 1).1.2 = 0 then (if (numF b (numF b q 1).2 1).1.1 = 17 then ((zeroH, 5), (numF b (numF b q 1).2 1).2) else ((⟨(numF b q 1).1.1, 0, (numF b (numF b q 1).2 1).1.1, 255, zeroA, zeroA, 0, 0⟩, 0), (numF b (numF b q 1).2 1).2)) else ((zeroH, (numF b (numF b q 1).2 1).1.2), (numF b (numF b q 1).2 1).2)) else ((zeroH, (numF b q 1).1.2), (numF b q 1).2)) := by
    rw [← hW]
    simp (decide := true) only [fieldsD, thenD, hopV, if_true, if_false, true_and, and_true, false_and]
  rw [hW]
  clear hW
  have v1 := num1_v (q := q) hr.bl
  have r1 := num_ok (n := 1) hr
  obtain ⟨N1, e1⟩ : ∃ x, numF b q 1 = x := ⟨_, rfl⟩
  rw [e1] at v1 r1 eW
  have v2 := num1_v (q := N1.2) hr.bl
  have r2 := num_ok (n := 1) r1
  obtain ⟨N2, e2⟩ : ∃ x, numF b N1.2 1 = x := ⟨_, rfl⟩
  rw [e2] at v2 r2 eW
  have wc : IntKind.u8.wrap N1.1.1 = N1.1.1 := IntWalk.u8_in _ (by omega)
  have wn : IntKind.u8.wrap N2.1.1 = N2.1.1 := IntWalk.u8_in _ (by omega)
  have f0 : (¬ N1.1.2 = 0) → W = ((zeroH, N1.1.2), N1.2) := fun h0 => by rw [eW, if_neg h0]
  have f1 : (N1.1.2 = 0) → (¬ N2.1.2 = 0) → W = ((zeroH, N2.1.2), N2.2) := fun h0 h1 => by rw [eW, if_pos h0, if_neg h1]
  have f2 : (N1.1.2 = 0) → (N2.1.2 = 0) → (N2.1.1 = 17) → W = ((zeroH, 5), N2.2) := fun h0 h1 h2 => by rw [eW, if_pos h0, if_pos h1, if_pos h2]
  have f3 : (N1.1.2 = 0) → (N2.1.2 = 0) → (¬ N2.1.1 = 17) → W = ((⟨N1.1.1, 0, N2.1.1, 255, zeroA, zeroA, 0, 0⟩, 0), N2.2) := fun h0 h1 h2 => by rw [eW, if_pos h0, if_pos h1, if_neg h2]
  clear eW
  have g1 : True := trivial
  have g2 : True := trivial
  refine meth_intro (wd := 64) (Q := mkQ LRd1) (by decide) tysOk (q_of LRd1_ok) mixed Tryd.func59 rfl _ (by show 1 + 1 ≤ _; decide) (flatF_nff (encRH_flat _)) (rdN_nf) ?_
  repeat' (first | (apply And.intro <;> intro hc <;> (first | exact Bool.noConfusion hc | (exfalso; first | exact absurd hc (by decide) | exact absurd rfl hc | exact absurd hc (by assumption) | exact absurd (by assumption) hc) | (simp only [decide_eq_true_eq, decide_eq_false_iff_not, Bool.not_eq_true', Bool.not_eq_false', beq_iff_eq, beq_eq_false_iff_ne, bne_iff_ne, bne_eq_false_iff_eq, Bool.true_eq_false, Bool.false_eq_true, ne_eq, not_true_eq_false] at hc <;> first | exact absurd rfl hc | (exfalso; first | exact absurd hc (by decide) | exact absurd rfl hc | exact absurd hc (by assumption) | exact absurd (by assumption) hc) | skip) | skip)) | (refine And.intro (by first | exact trivial | decide | omega | (dsimp only; omega) | exact fun _ _ => rfl | exact ⟨by assumption, by first | exact trivial | decide | omega | (dsimp only; omega)⟩) ?_) | (apply And.intro) | (refine Exists.intro b (And.intro ⟨rfl, rfl, by first | exact ⟨by assumption, by decide, by decide⟩⟩ ?_)) | (intro s hs; (first | (clear g1; have q : N1 = s := (hs.trans e1).symm; clear hs; subst q) | (clear g2; have q : N2 = s := (hs.trans e2).symm; clear hs; subst q) | skip)))
  all_goals try (first | exact rfl | exact Nat.le_of_ble_eq_true rfl)
  all_goals first
    | (rw [f0 (by assumption)]
       exact ⟨leF_tup ⟨leE_tl (fun j hj => by (iterate 38 (rcases j with _ | j; exact leC_int rfl)); exact absurd hj (by omega)) leC_nils, leC_int rfl, trivial⟩, rdN_le rfl⟩)
    | (rw [f1 (by assumption) (by assumption)]
       exact ⟨leF_tup ⟨leE_tl (fun j hj => by (iterate 38 (rcases j with _ | j; exact leC_int rfl)); exact absurd hj (by omega)) leC_nils, leC_int rfl, trivial⟩, rdN_le rfl⟩)
    | (rw [f2 (by assumption) (by assumption) (by rw [← wn]; assumption)]
       exact ⟨leF_tup ⟨leE_tl (fun j hj => by (iterate 38 (rcases j with _ | j; exact leC_int rfl)); exact absurd hj (by omega)) leC_nils, leC_int rfl, trivial⟩, rdN_le rfl⟩)
    | (rw [f3 (by assumption) (by assumption) (by rw [← wn]; assumption)]
       exact ⟨leF_tup ⟨leE_tl (fun j hj => by (rcases j with _ | j; exact leC_int wc); (rcases j with _ | j; exact leC_int rfl); (rcases j with _ | j; exact leC_int wn); (rcases j with _ | j; exact leC_int rfl); (iterate 34 (rcases j with _ | j; exact leC_int rfl)); exact absurd hj (by omega)) leC_nils, leC_int rfl, trivial⟩, rdN_le rfl⟩)
    | skip
set_option maxHeartbeats 4000000 in
set_option maxRecDepth 20000 in
theorem fields_119 (b : List Int) (q : Int) (hr : RdOk b q) : MethOk Tryd.prog 59 [(cI .i64).enc 119] (rdN true b q) (encRH (fieldsD b 119 q).1) (rdN true b (fieldsD b 119 q).2) := by
  obtain ⟨W, hW⟩ : ∃ W, fieldsD b 119 q = W := ⟨_, rfl⟩
  have eW : W = (if (numF b q 1).1.2 = 0 then ((⟨(numF b q 1).1.1, 0, 17, 255, zeroA, zeroA, 0, 0⟩, 0), (numF b q 1).2) else ((zeroH, (numF b q 1).1.2), (numF b q 1).2)) := by
    rw [← hW]
    simp (decide := true) only [fieldsD, thenD, hopV, if_true, if_false, true_and, and_true, false_and]
  rw [hW]
  clear hW
  have v1 := num1_v (q := q) hr.bl
  have r1 := num_ok (n := 1) hr
  obtain ⟨N1, e1⟩ : ∃ x, numF b q 1 = x := ⟨_, rfl⟩
  rw [e1] at v1 r1 eW
  have wc : IntKind.u8.wrap N1.1.1 = N1.1.1 := IntWalk.u8_in _ (by omega)
  have f0 : (¬ N1.1.2 = 0) → W = ((zeroH, N1.1.2), N1.2) := fun h0 => by rw [eW, if_neg h0]
  have f1 : (N1.1.2 = 0) → W = ((⟨N1.1.1, 0, 17, 255, zeroA, zeroA, 0, 0⟩, 0), N1.2) := fun h0 => by rw [eW, if_pos h0]
  clear eW
  have g1 : True := trivial
  refine meth_intro (wd := 64) (Q := mkQ LRd1) (by decide) tysOk (q_of LRd1_ok) mixed Tryd.func59 rfl _ (by show 1 + 1 ≤ _; decide) (flatF_nff (encRH_flat _)) (rdN_nf) ?_
  repeat' (first | (apply And.intro <;> intro hc <;> (first | exact Bool.noConfusion hc | (exfalso; first | exact absurd hc (by decide) | exact absurd rfl hc | exact absurd hc (by assumption) | exact absurd (by assumption) hc) | (simp only [decide_eq_true_eq, decide_eq_false_iff_not, Bool.not_eq_true', Bool.not_eq_false', beq_iff_eq, beq_eq_false_iff_ne, bne_iff_ne, bne_eq_false_iff_eq, Bool.true_eq_false, Bool.false_eq_true, ne_eq, not_true_eq_false] at hc <;> first | exact absurd rfl hc | (exfalso; first | exact absurd hc (by decide) | exact absurd rfl hc | exact absurd hc (by assumption) | exact absurd (by assumption) hc) | skip) | skip)) | (refine And.intro (by first | exact trivial | decide | omega | (dsimp only; omega) | exact fun _ _ => rfl | exact ⟨by assumption, by first | exact trivial | decide | omega | (dsimp only; omega)⟩) ?_) | (apply And.intro) | (refine Exists.intro b (And.intro ⟨rfl, rfl, by first | exact ⟨by assumption, by decide, by decide⟩⟩ ?_)) | (intro s hs; (first | (clear g1; have q : N1 = s := (hs.trans e1).symm; clear hs; subst q) | skip)))
  all_goals try (first | exact rfl | exact Nat.le_of_ble_eq_true rfl)
  all_goals first
    | (rw [f0 (by assumption)]
       exact ⟨leF_tup ⟨leE_tl (fun j hj => by (iterate 38 (rcases j with _ | j; exact leC_int rfl)); exact absurd hj (by omega)) leC_nils, leC_int rfl, trivial⟩, rdN_le rfl⟩)
    | (rw [f1 (by assumption)]
       exact ⟨leF_tup ⟨leE_tl (fun j hj => by (rcases j with _ | j; exact leC_int wc); (rcases j with _ | j; exact leC_int rfl); (rcases j with _ | j; exact leC_int rfl); (rcases j with _ | j; exact leC_int rfl); (iterate 34 (rcases j with _ | j; exact leC_int rfl)); exact absurd hj (by omega)) leC_nils, leC_int rfl, trivial⟩, rdN_le rfl⟩)
    | skip
set_option maxHeartbeats 4000000 in
set_option maxRecDepth 20000 in
theorem fields_123 (b : List Int) (q : Int) (hr : RdOk b q) : MethOk Tryd.prog 59 [(cI .i64).enc 123] (rdN true b q) (encRH (fieldsD b 123 q).1) (rdN true b (fieldsD b 123 q).2) := by
  obtain ⟨W, hW⟩ : ∃ W, fieldsD b 123 q = W := ⟨_, rfl⟩
  have eW : W = (if (numF b q 1).1.2 = 0 then (if (numF b q 1).1.1 = 17 then ((zeroH, 5), (numF b q 1).2) else ((⟨0, 0, (numF b q 1).1.1, 255, zeroA, zeroA, 0, 0⟩, 0), (numF b q 1).2)) else ((zeroH, (numF b q 1).1.2), (numF b q 1).2)) := by
    rw [← hW]
    simp (decide := true) only [fieldsD, thenD, hopV, if_true, if_false, true_and, and_true, false_and]
  rw [hW]
  clear hW
  have v1 := num1_v (q := q) hr.bl
  have r1 := num_ok (n := 1) hr
  obtain ⟨N1, e1⟩ : ∃ x, numF b q 1 = x := ⟨_, rfl⟩
  rw [e1] at v1 r1 eW
  have wn : IntKind.u8.wrap N1.1.1 = N1.1.1 := IntWalk.u8_in _ (by omega)
  have f0 : (¬ N1.1.2 = 0) → W = ((zeroH, N1.1.2), N1.2) := fun h0 => by rw [eW, if_neg h0]
  have f1 : (N1.1.2 = 0) → (N1.1.1 = 17) → W = ((zeroH, 5), N1.2) := fun h0 h1 => by rw [eW, if_pos h0, if_pos h1]
  have f2 : (N1.1.2 = 0) → (¬ N1.1.1 = 17) → W = ((⟨0, 0, N1.1.1, 255, zeroA, zeroA, 0, 0⟩, 0), N1.2) := fun h0 h1 => by rw [eW, if_pos h0, if_neg h1]
  clear eW
  have g1 : True := trivial
  refine meth_intro (wd := 64) (Q := mkQ LRd1) (by decide) tysOk (q_of LRd1_ok) mixed Tryd.func59 rfl _ (by show 1 + 1 ≤ _; decide) (flatF_nff (encRH_flat _)) (rdN_nf) ?_
  repeat' (first | (apply And.intro <;> intro hc <;> (first | exact Bool.noConfusion hc | (exfalso; first | exact absurd hc (by decide) | exact absurd rfl hc | exact absurd hc (by assumption) | exact absurd (by assumption) hc) | (simp only [decide_eq_true_eq, decide_eq_false_iff_not, Bool.not_eq_true', Bool.not_eq_false', beq_iff_eq, beq_eq_false_iff_ne, bne_iff_ne, bne_eq_false_iff_eq, Bool.true_eq_false, Bool.false_eq_true, ne_eq, not_true_eq_false] at hc <;> first | exact absurd rfl hc | (exfalso; first | exact absurd hc (by decide) | exact absurd rfl hc | exact absurd hc (by assumption) | exact absurd (by assumption) hc) | skip) | skip)) | (refine And.intro (by first | exact trivial | decide | omega | (dsimp only; omega) | exact fun _ _ => rfl | exact ⟨by assumption, by first | exact trivial | decide | omega | (dsimp only; omega)⟩) ?_) | (apply And.intro) | (refine Exists.intro b (And.intro ⟨rfl, rfl, by first | exact ⟨by assumption, by decide, by decide⟩⟩ ?_)) | (intro s hs; (first | (clear g1; have q : N1 = s := (hs.trans e1).symm; clear hs; subst q) | skip)))
  all_goals try (first | exact rfl | exact Nat.le_of_ble_eq_true rfl)
  all_goals first
    | (rw [f0 (by assumption)]
       exact ⟨leF_tup ⟨leE_tl (fun j hj => by (iterate 38 (rcases j with _ | j; exact leC_int rfl)); exact absurd hj (by omega)) leC_nils, leC_int rfl, trivial⟩, rdN_le rfl⟩)
    | (rw [f1 (by assumption) (by rw [← wn]; assumption)]
       exact ⟨leF_tup ⟨leE_tl (fun j hj => by (iterate 38 (rcases j with _ | j; exact leC_int rfl)); exact absurd hj (by omega)) leC_nils, leC_int rfl, trivial⟩, rdN_le rfl⟩)
    | (rw [f2 (by assumption) (by rw [← wn]; assumption)]
       exact ⟨leF_tup ⟨leE_tl (fun j hj => by (rcases j with _ | j; exact leC_int rfl); (rcases j with _ | j; exact leC_int rfl); (rcases j with _ | j; exact leC_int wn); (rcases j with _ | j; exact leC_int rfl); (iterate 34 (rcases j with _ | j; exact leC_int rfl)); exact absurd hj (by omega)) leC_nils, leC_int rfl, trivial⟩, rdN_le rfl⟩)
    | skip
set_option maxHeartbeats 4000000 in
set_option maxRecDepth 20000 in
theorem fields_127 (b : List Int) (q : Int) (hr : RdOk b q) : MethOk Tryd.prog 59 [(cI .i64).enc 127] (rdN true b q) (encRH (fieldsD b 127 q).1) (rdN true b (fieldsD b 127 q).2) := by
  obtain ⟨W, hW⟩ : ∃ W, fieldsD b 127 q = W := ⟨_, rfl⟩
  have eW : W = ((⟨0, 0, 17, 255, zeroA, zeroA, 0, 0⟩, 0), q) := by
    rw [← hW]
    simp (decide := true) only [fieldsD, thenD, hopV, if_true, if_false, true_and, and_true, false_and]
  rw [hW]
  clear hW
  have f0 : W = ((⟨0, 0, 17, 255, zeroA, zeroA, 0, 0⟩, 0), q) := eW
  clear eW
  refine meth_intro (wd := 64) (Q := mkQ LRd1) (by decide) tysOk (q_of LRd1_ok) mixed Tryd.func59 rfl _ (by show 1 + 1 ≤ _; decide) (flatF_nff (encRH_flat _)) (rdN_nf) ?_
  repeat' (first | (apply And.intro <;> intro hc <;> (first | exact Bool.noConfusion hc | (exfalso; first | exact absurd hc (by decide) | exact absurd rfl hc | exact absurd hc (by assumption) | exact absurd (by assumption) hc) | (simp only [decide_eq_true_eq, decide_eq_false_iff_not, Bool.not_eq_true', Bool.not_eq_false', beq_iff_eq, beq_eq_false_iff_ne, bne_iff_ne, bne_eq_false_iff_eq, Bool.true_eq_false, Bool.false_eq_true, ne_eq, not_true_eq_false] at hc <;> first | exact absurd rfl hc | (exfalso; first | exact absurd hc (by decide) | exact absurd rfl hc | exact absurd hc (by assumption) | exact absurd (by assumption) hc) | skip) | skip)) | (refine And.intro (by first | exact trivial | decide | omega | (dsimp only; omega) | exact fun _ _ => rfl | exact ⟨by assumption, by first | exact trivial | decide | omega | (dsimp only; omega)⟩) ?_) | (apply And.intro) | (refine Exists.intro b (And.intro ⟨rfl, rfl, by first | exact ⟨by assumption, by decide, by decide⟩⟩ ?_)) | (intro s hs; (first  | skip)))
  all_goals try (first | exact rfl | exact Nat.le_of_ble_eq_true rfl)
  all_goals first
    | (rw [f0 ]
       exact ⟨leF_tup ⟨leE_tl (fun j hj => by (rcases j with _ | j; exact leC_int rfl); (rcases j with _ | j; exact leC_int rfl); (rcases j with _ | j; exact leC_int rfl); (rcases j with _ | j; exact leC_int rfl); (iterate 34 (rcases j with _ | j; exact leC_int rfl)); exact absurd hj (by omega)) leC_nils, leC_int rfl, trivial⟩, rdN_le rfl⟩)
    | skip
end Go.Proofs.YtjknkfjhcapocaaDoor.AX

/- The program's reader: fields, for all first bytes. (Printed by gen/rdfields.py.) -/
namespace Go.Proofs.YtjknkfjhcapocaaDoor.AX
open Go.RowKit
set_option linter.unusedVariables false
set_option linter.unusedSimpArgs false
theorem fieldsR_ok (b : List Int) (x q : Int) (hr : RdOk b q) (hx : 96 ≤ x ∧ x ≤ 127) : MethOk Tryd.prog 59 [(cI .i64).enc x] (rdN true b q) (encRH (fieldsD b x q).1) (rdN true b (fieldsD b x q).2) := by
  have h : x = 96 ∨ x = 97 ∨ x = 98 ∨ x = 99 ∨ x = 100 ∨ x = 101 ∨ x = 102 ∨ x = 103 ∨ x = 104 ∨ x = 105 ∨ x = 106 ∨ x = 107 ∨ x = 108 ∨ x = 109 ∨ x = 110 ∨ x = 111 ∨ x = 112 ∨ x = 113 ∨ x = 114 ∨ x = 115 ∨ x = 116 ∨ x = 117 ∨ x = 118 ∨ x = 119 ∨ x = 120 ∨ x = 121 ∨ x = 122 ∨ x = 123 ∨ x = 124 ∨ x = 125 ∨ x = 126 ∨ x = 127 := by omega
  rcases h with rfl | rfl | rfl | rfl | rfl | rfl | rfl | rfl | rfl | rfl | rfl | rfl | rfl | rfl | rfl | rfl | rfl | rfl | rfl | rfl | rfl | rfl | rfl | rfl | rfl | rfl | rfl | rfl | rfl | rfl | rfl | rfl
  · exact fields_96 b q hr
  · exact fields_97 b q hr
  · exact fields_98 b q hr
  · exact fields_99 b q hr
  · exact fields_100 b q hr
  · exact fields_101 b q hr
  · exact fields_102 b q hr
  · exact fields_103 b q hr
  · exact fields_104 b q hr
  · exact fields_105 b q hr
  · exact fields_106 b q hr
  · exact fields_107 b q hr
  · exact fields_108 b q hr
  · exact fields_109 b q hr
  · exact fields_110 b q hr
  · exact fields_111 b q hr
  · exact fields_112 b q hr
  · exact fields_113 b q hr
  · exact fields_114 b q hr
  · exact fields_115 b q hr
  · exact fields_116 b q hr
  · exact fields_117 b q hr
  · exact fields_118 b q hr
  · exact fields_119 b q hr
  · exact fields_120 b q hr
  · exact fields_121 b q hr
  · exact fields_122 b q hr
  · exact fields_123 b q hr
  · exact fields_124 b q hr
  · exact fields_125 b q hr
  · exact fields_126 b q hr
  · exact fields_127 b q hr
end Go.Proofs.YtjknkfjhcapocaaDoor.AX

/- Calls of functions that look at no memory and make some (makers of closures): walked through with an empty heap. -/
namespace Go.Proofs.YtjknkfjhcapocaaDoor.AX
open Go.RowKit
set_option linter.unusedVariables false
set_option linter.unusedSimpArgs false
def allB : Nat → (Nat → Bool) → Bool
  | 0, _ => true
  | n + 1, p => allB n p && p n
theorem allB_at : ∀ {n : Nat} {p : Nat → Bool}, allB n p = true → ∀ i, i < n → p i = true := by
  intro n
  induction n with
  | zero => intro p _ i hi; omega
  | succ n ih =>
    intro p h i hi
    unfold allB at h
    rw [Bool.and_eq_true] at h
    rcases Nat.lt_or_ge i n with h' | h'
    · exact ih h.1 i h'
    · have : i = n := by omega
      subst this
      exact h.2
/-- A number, a truth value, or a pointer of a name in sight. -/
def ptrLt (nm : Nat) : CV → Bool
  | .int _ _ => true
  | .bool _ => true
  | .ptr k _ _ _ => Nat.blt k nm
  | _ => false
def argLt (nm : Nat) : FV → Bool
  | .e (.c x) => ptrLt nm x
  | _ => false
/-- What tells nothing of the blocks that are owned or lent. -/
def plainC : CV → Bool
  | .int _ _ => true
  | .bool _ => true
  | .ptr _ _ _ _ => true
  | _ => false
def plainV : FV → Bool
  | .e (.c (.fn _ n m a)) => allB (n + m) fun k => plainC (a k)
  | .e (.c x) => plainC x
  | _ => false
def plainH (nm : Nat) : Hp → Bool
  | [] => true
  | (k, some e) :: l => Nat.ble nm k && (allB e.n fun i => allB e.sz fun j => plainC (e.f i j)) && plainH nm l
  | (_, none) :: _ => false
theorem plainC_rel {x : CV} (h : plainC x = true) {r r' : Ren} {X X' W W' : Nat → Prop} {w w' : World} {v : Value} (hr : ∀ k b, r k = some b → r' k = some b) (hx : x.rel r X W w v) : x.rel r' X' W' w' v := by
  cases x with
  | int => exact hx
  | bool => exact hx
  | ptr => obtain ⟨b, hb, h2⟩ := hx; exact ⟨b, ⟨hr _ _ hb.1, hb.2⟩, h2⟩
  | _ => cases h
theorem ptrLt_rel {nm : Nat} {x : CV} (h : ptrLt nm x = true) {r r' : Ren} {X X' W W' : Nat → Prop} {w w' : World} {v : Value} (hr : ∀ k b, k < nm → r k = some b → r' k = some b) (hx : x.rel r X W w v) : x.rel r' X' W' w' v := by
  cases x with
  | int => exact hx
  | bool => exact hx
  | ptr k => obtain ⟨b, hb, h2⟩ := hx; exact ⟨b, ⟨hr _ _ (Nat.le_of_ble_eq_true h) hb.1, hb.2⟩, h2⟩
  | _ => cases h
theorem plainV_rel {x : FV} (h : plainV x = true) {r r' : Ren} {X X' W W' : Nat → Prop} {w w' : World} {v : Value} (hr : ∀ k b, r k = some b → r' k = some b) (hx : x.rel r X W w v) : x.rel r' X' W' w' v := by
  unfold plainV at h
  split at h
  · rename_i f n m a
    obtain ⟨fs, cs, rfl, h1, h2, h3, h4⟩ := hx
    have hk : ∀ k, k < n + m → plainC (a k) = true := fun k hk => allB_at h k hk
    refine ⟨fs, cs, rfl, h1, h2, fun k u hu => plainC_rel (hk k ?_) hr (h3 k u hu), fun k u hu => plainC_rel (hk (n + k) ?_) hr (h4 k u hu)⟩
    · have := (Array.getElem?_eq_some_iff.1 hu).1; omega
    · have := (Array.getElem?_eq_some_iff.1 hu).1; omega
  · exact plainC_rel h hr hx
  · cases h
theorem plainH_at {nm : Nat} : ∀ {H : Hp}, plainH nm H = true → ∀ k e, hget H k = some e → nm ≤ k ∧ ∀ i, i < e.n → ∀ j, j < e.sz → plainC (e.f i j) = true := by
  intro H
  induction H with
  | nil => intro _ k e h; cases h
  | cons p H ih =>
    obtain ⟨k0, x⟩ := p
    intro h k e he
    cases x with
    | none => cases h
    | some e0 =>
      unfold plainH at h
      rw [Bool.and_eq_true, Bool.and_eq_true] at h
      by_cases hk : k = k0
      · subst hk
        have e1 : hget ((k, some e0) :: H) k = some e0 := look_cons_eq _ _ _ _
        rw [e1] at he
        injection he with he
        subst he
        exact ⟨Nat.le_of_ble_eq_true h.1.1, fun i hi j hj => allB_at (allB_at h.1.2 i hi) j hj⟩
      · have e1 : hget ((k0, some e0) :: H) k = hget H k := look_cons_ne _ _ _ hk
        rw [e1] at he
        exact ih h.2 k e he
/-- The entry. -/
def inl0E (T : Tys) (Q : Qs) (wi nt : Nat) (rv : List ResultVar) (c : Code) : Entry := fun args H nm wd =>
  bif args.all (argLt nm) then some fun K => Nat.ble args.length nt = true ∧ exec T Q wi nt nm c (argFr args 0) [] nm (endH T rv fun x Hf nf => (Nat.ble nf (nm + wd) = true ∧ plainH nm Hf = true ∧ plainV x = true) ∧ K x Hf []) else none
theorem inl0E_ok {P : Program} {T : Tys} {Q : Qs} {wi : Nat} (hwi : 0 < wi) (hT : TysOk P T) (hQ : QsOk P Q) (hM : QsMono Q) (hm : P.follows .mixedOrders = true) {f : FuncId} {fn : Func} {c : Code} (hf : P.funcs[f]? = some fn) (hb : fn.body = some c) (hnm : (fn.name == "runtime.NumGoroutine") = false) : EntOk P f (inl0E T Q wi fn.ntmps fn.results.toList c) := by
  refine ⟨fun args H nm wd q hwd hq K hK => ?_, fun args H nm wd q hq K K' hKK hK => ?_⟩
  · obtain ⟨hargs, hq⟩ := cond_some hq
    subst hq
    obtain ⟨hn, hK⟩ := hK
    have hn := Nat.le_of_ble_eq_true hn
    obtain ⟨⟨x, Hf, nf⟩, ⟨⟨hle, hpH, hpV⟩, hKL⟩, hex⟩ := exec_some (α := FV × Hp × Nat) (post := fun a x H n => x = a.1 ∧ H = a.2.1 ∧ n = a.2.2) (S := fun a => (Nat.ble a.2.2 (nm + wd) = true ∧ plainH nm a.2.1 = true ∧ plainV a.1 = true) ∧ K a.1 a.2.1 []) hwi hQ
      (exec_mono hM c _ _ (endH_mono fun x Hf nf h => ⟨(x, Hf, nf), h, rfl, rfl, rfl⟩) _ _ _ hK)
    have hle := Nat.le_of_ble_eq_true hle
    refine ⟨x, Hf, [], ⟨⟨fn, hf, by rw [hb]; rfl, hnm⟩, fun H' hh cx r w vals st hfr hw hrel => ?_⟩, hKL⟩
    have hr0 : ∀ k, nm ≤ k → (if k < nm then r k else none) = none := fun k hk => if_neg (by omega)
    have hr1 : ∀ k, k < nm → (if k < nm then r k else none) = r k := fun k hk => if_pos hk
    have hr2 : ∀ k y, (if k < nm then r k else none) = some y → k < nm ∧ r k = some y := fun k y h => by
      by_cases hk : k < nm
      · rw [if_pos hk] at h; exact ⟨hk, h⟩
      · rw [if_neg hk] at h; cases h
    have hG : GlobOk (fun b => False ∨ (∃ k y, r k = some y ∧ y.b = b) ∨ False) w := glob_more (gl_in st) fun p _ h => h.elim False.elim fun h => h.elim (fun h => .inr (.inl h)) False.elim
    refine (fn_run (np := nm) (cx := ⟨w, fun b => ∃ k y, r k = some y ∧ y.b = b, fun _ => False, fun _ => False, fun k => if k < nm then r k else none⟩) (r := fun k => if k < nm then r k else none) (H0 := []) hwi hT (QR_ok P) hm hf hb hn hex (fun k b hk => (hr2 k b hk).1)
      ⟨rfl, rfl, rfl, Nat.le_refl _, fun _ _ _ => rfl, ⟨fun b hb => hb.elim, hG⟩, fun k y hk => ?_, (fun k e y he _ => by cases he), (fun n m e1 e2 y z h => by cases h), fun k b hk => hk, (fun k e he => by cases he)⟩ ⟨hrel.1, fun i y u hy hu => ?_⟩ (fun k hk => ⟨hr0 k hk, rfl⟩)).mono fun e w' he => ?_
    · obtain ⟨_, hk⟩ := hr2 k y hk
      exact ⟨(st.dom k y hk).1, .inr ⟨k, y, hk, rfl⟩, fun h => h⟩
    · have hl : argLt nm y = true := List.all_eq_true.1 hargs y (List.mem_of_getElem? hy)
      have h0 := hrel.2 i y u hy hu
      cases y with
      | e z =>
        cases z with
        | c z => exact ptrLt_rel hl (fun k b hk hb => by rw [if_pos hk]; exact hb) h0
        | agg => cases hl
      | _ => cases hl
    · obtain ⟨v, r', x', Hf', nf', rfl, ⟨e1, e2, e3⟩, st', hn', hx, hlow⟩ := he
      dsimp only at e1 e2 e3
      rw [e2] at st' hx hn'
      rw [e1] at hx
      rw [e3] at hn'
      clear e1 e2 e3
      have hle2 : ∀ k, nm + wd ≤ k → r' k = none ∧ hget Hf k = none := fun k hk => hn' k (Nat.le_trans hle hk)
      -- the renaming behind the call
      have hin : ∀ k, nm ≤ k → k < nm + wd → (if nm ≤ k ∧ k < nm + wd then r' k else r k) = r' k := fun k h1 h2 => if_pos ⟨h1, h2⟩
      have hout : ∀ k, ¬ (nm ≤ k ∧ k < nm + wd) → (if nm ≤ k ∧ k < nm + wd then r' k else r k) = r k := fun k h => if_neg h
      have hall : ∀ k y, r k = some y → (if nm ≤ k ∧ k < nm + wd then r' k else r k) = some y := fun k y hk => by
        by_cases h : nm ≤ k ∧ k < nm + wd
        · rw [(hfr k h.1 h.2).1] at hk; cases hk
        · rw [if_neg h]; exact hk
      have hall' : ∀ k y, r' k = some y → (if nm ≤ k ∧ k < nm + wd then r' k else r k) = some y := fun k y hk => by
        by_cases h : nm ≤ k ∧ k < nm + wd
        · rw [if_pos h]; exact hk
        · rw [if_neg h]
          by_cases h1 : k < nm
          · rw [hlow k h1, hr1 k h1] at hk; exact hk
          · rw [(hle2 k (by omega)).1] at hk; cases hk
      have hHf : ∀ k e, hget Hf k = some e → nm ≤ k ∧ k < nm + wd := fun k e he => by
        refine ⟨(plainH_at hpH k e he).1, ?_⟩
        rcases Nat.lt_or_ge k (nm + wd) with h | h
        · exact h
        · rw [(hle2 k h).2] at he; cases he
      have hnew : ∀ k e y, hget Hf k = some e → r' k = some y → w.heap.size ≤ y.b := fun k e y he hy => by
        rcases st'.ow k e y he hy with h | h
        · exact h
        · exact h.elim
      have hsplit : ∀ k e, hget (Hf ++ H') k = some e → (hget Hf k = some e ∧ nm ≤ k ∧ k < nm + wd) ∨ (hget H' k = some e ∧ ¬ (nm ≤ k ∧ k < nm + wd)) := fun k e he => by
        have he' : look none (Hf ++ H') k = some e := he
        rw [look_append] at he'
        cases hk : hasKey Hf k with
        | true =>
          rw [hk, cond_true] at he'
          exact .inl ⟨he', hHf k e he'⟩
        | false =>
          rw [hk, cond_false] at he'
          refine .inr ⟨he', fun h => ?_⟩
          have := (hfr k h.1 h.2).2
          have he2 : hget H' k = some e := he'
          rw [this] at he2; cases he2
      have hwr2 : ∀ b, b < w.heap.size → wr (fun k => if nm ≤ k ∧ k < nm + wd then r' k else r k) (Hf ++ H') b → wr r H' b := by
        rintro b hb ⟨k, e, y, he, hy, rfl⟩
        have hy' : (if nm ≤ k ∧ k < nm + wd then r' k else r k) = some y := hy
        rcases hsplit k e he with ⟨h1, h2⟩ | ⟨h1, h2⟩
        · rw [if_pos h2] at hy'
          have := hnew k e y h1 hy'
          omega
        · rw [if_neg h2] at hy'
          exact ⟨k, e, y, h1, hy', rfl⟩
      have hE : Ext r (wr r H') w (fun k => if nm ≤ k ∧ k < nm + wd then r' k else r k) (wr (fun k => if nm ≤ k ∧ k < nm + wd then r' k else r k) (Hf ++ H')) w' :=
        ⟨hall, st'.size, fun b hb _ => st'.kept b hb (fun h => h), fun b hb hW => hwr2 b hb hW⟩
      refine ⟨v, rfl, fun k => if nm ≤ k ∧ k < nm + wd then r' k else r k, hE, ⟨st'.os.trans st.os, st'.tape.trans st.tape, st'.output.trans st.output, Nat.le_trans st.size st'.size, fun b hb hne => ?_, st.xlt, fun k y hk => ?_, fun k e y he hy => ?_, fun n m e1 e2 y z h1 h2 hy hz hyz => ?_, fun k b hk => hall k b (st.pin k b hk), fun k e he => ?_⟩, fun k hk => hout k (by omega), fun k e he => ?_, ?_⟩
      · rw [← st.kept b hb hne]
        exact st'.kept b (Nat.lt_of_lt_of_le hb st.size) (fun h => h)
      · have hk' : (if nm ≤ k ∧ k < nm + wd then r' k else r k) = some y := hk
        by_cases h : nm ≤ k ∧ k < nm + wd
        · rw [if_pos h] at hk'
          obtain ⟨d1, d2, _⟩ := st'.dom k y hk'
          rcases d2 with d2 | ⟨k0, y0, d4, d5⟩
          · refine ⟨d1, .inl (Nat.le_trans st.size d2), fun hX => ?_⟩
            have := Nat.lt_of_lt_of_le (st.xlt.lt _ hX) st.size
            have d2' : w.heap.size ≤ y.b := d2
            omega
          · obtain ⟨a1, a2, a3⟩ := st.dom k0 y0 d4
            rw [d5] at a1 a2 a3
            exact ⟨d1, a2, a3⟩
        · rw [if_neg h] at hk'
          obtain ⟨a1, a2, a3⟩ := st.dom k y hk'
          exact ⟨Nat.lt_of_lt_of_le a1 st'.size, a2, a3⟩
      · have hy' : (if nm ≤ k ∧ k < nm + wd then r' k else r k) = some y := hy
        rcases hsplit k e he with ⟨h1, h2⟩ | ⟨h1, h2⟩
        · rw [if_pos h2] at hy'
          exact .inl (Nat.le_trans st.size (hnew k e y h1 hy'))
        · rw [if_neg h2] at hy'
          exact st.ow k e y h1 hy'
      · have hy' : (if nm ≤ n ∧ n < nm + wd then r' n else r n) = some y := hy
        have hz' : (if nm ≤ m ∧ m < nm + wd then r' m else r m) = some z := hz
        rcases hsplit n e1 h1 with ⟨a1, a2⟩ | ⟨a1, a2⟩
        · rw [if_pos a2] at hy'
          rcases hsplit m e2 h2 with ⟨b1, b2⟩ | ⟨b1, b2⟩
          · rw [if_pos b2] at hz'
            exact st'.inj n m e1 e2 y z a1 b1 hy' hz' hyz
          · rw [if_neg b2] at hz'
            have := hnew n e1 y a1 hy'
            have := (st.dom m z hz').1
            omega
        · rw [if_neg a2] at hy'
          rcases hsplit m e2 h2 with ⟨b1, b2⟩ | ⟨b1, b2⟩
          · rw [if_pos b2] at hz'
            have := hnew m e2 z b1 hz'
            have := (st.dom n y hy').1
            omega
          · rw [if_neg b2] at hz'
            exact st.inj n m e1 e2 y z a1 b1 hy' hz' hyz
      · rcases hsplit k e he with ⟨h1, h2⟩ | ⟨h1, h2⟩
        · have hb := st'.blk k e h1
          show EntIn _ cx.X _ w' e (if nm ≤ k ∧ k < nm + wd then r' k else r k) w'.heap
          rw [if_pos h2]
          exact entIn_map rfl rfl rfl rfl (fun i hi j hj u hu => plainC_rel ((plainH_at hpH k e h1).2 i hi j hj) hall' hu) hb
        · have hold := st.old h1 rfl (w' := w') fun y hy => st'.kept _ (st.dom k y hy).1 (fun h => h)
          show EntIn _ cx.X _ w' e (if nm ≤ k ∧ k < nm + wd then r' k else r k) w'.heap
          rw [if_neg h2]
          exact hold.ext hE
      · rcases hsplit k e he with ⟨h1, h2⟩ | ⟨h1, h2⟩
        · exact .inl ⟨.inl h2.1, h2.2⟩
        · exact .inr ⟨e, h1⟩
      · exact plainV_rel hpV hall' hx
  · obtain ⟨hargs, hq⟩ := cond_some hq
    subst hq
    exact ⟨hK.1, exec_mono hM c _ _ (endH_mono fun x Hf nf h => ⟨h.1, hKK _ _ _ h.2⟩) _ _ _ hK.2⟩
end Go.Proofs.YtjknkfjhcapocaaDoor.AX

/- The program's reader: the closure that finds a context; unicast. -/
namespace Go.Proofs.YtjknkfjhcapocaaDoor.AX
open Go.RowKit
set_option linter.unusedVariables false
set_option linter.unusedSimpArgs false
/-! ### A closure with captured variables: a list of contexts, two numbers -/
def findC (a : List Ctx × Int × Int) : Nat → CV := nth [.rp false 1 (fun _ => .sl false a.1.length eCtx.sz (rowF eCtx a.1)), .rp false 1 (fun _ => .int .i64 a.2.1), .rp false 1 (fun _ => .int .i64 a.2.2)]
theorem rp_of {cx : Cx} {r : Ren} {H' : Hp} {w : World} {k : Nat} {fl : Bool} {e : Ent} {rd : List Nat} {X' : Nat → Prop} {g : CV} {u : Value} (st : St cx r H' w) (he : hget H' k = some e) (hk : k ∈ rd) (hn : 0 < e.n) (hsz : 0 < e.sz)
    (hc : ∀ u, (e.f 0 0).rel r cx.X (wr r H') w u → g.rel (fun _ => none) X' (wrBut r H' rd) w u) (h : (CV.ptr k 0 0 fl).rel r cx.X (wr r H') w u) : (CV.rp false 1 fun _ => g).rel (fun _ => none) X' (wrBut r H' rd) w u := by
  obtain ⟨y, hy, rfl⟩ := h
  refine ⟨⟨y.b, 0 * y.sz + 0, none⟩, rfl, rfl, ?_, (fun h => by cases h), (st.dom k y hy.1).1, fun j hj => ?_⟩
  · rintro ⟨k2, e2, z, q1, q2, q3, q4⟩
    have := st.inj k2 k e2 e z y q1 he q2 hy.1 q3
    exact q4 (by rw [this]; exact hk)
  · obtain rfl : j = 0 := by omega
    obtain ⟨u, hu, hr⟩ := blk_cell st he hy (i := 0) (j := 0) hn hsz
    exact ⟨u, hu, hc u hr⟩
theorem slC_in {cx : Cx} {r : Ren} {H' : Hp} {w : World} {sh : Bool} {n : Nat} {f : Nat → Nat → CV} {X' : Nat → Prop} {rd : List Nat} {u : Value} (hok : ∀ i, i < n → eCtx.ok (f i) = true) (h : (CV.sl sh n eCtx.sz f).rel r cx.X (wr r H') w u) :
    (CV.sl false (toL eCtx n f).length eCtx.sz (rowF eCtx (toL eCtx n f))).rel (fun _ => none) X' (wrBut r H' rd) w u := by
  obtain ⟨a, cap, rfl, h1, h2⟩ := h
  rw [toL_len]
  refine ⟨a, cap, rfl, h1, fun h0 => ?_⟩
  obtain ⟨ad, rfl, hs, ho, hx, hlt, hc⟩ := h2 h0
  refine ⟨ad, rfl, hs, fun ⟨k, e, x, g1, g2, g3, _⟩ => ho ⟨k, e, x, g1, g2, g3⟩, (fun h => by cases h), hlt, fun i hi j hj => ?_⟩
  obtain ⟨u, hu, hr⟩ := hc i hi j hj
  refine ⟨u, hu, ?_⟩
  rw [eCtx.ok_eq _ (hok i hi) j hj] at hr
  have e : rowF eCtx (toL eCtx n f) i j = eCtx.cell (eCtx.rd (f i)) j := by
    unfold rowF toL
    rw [List.getD_eq_getElem?_getD, List.getElem?_map, List.getElem?_range hi]; rfl
  rw [e]
  exact (eCtx.flat _ _) _ _ _ _ _ _ _ _ _ hr
def cFind : Codec (List Ctx × Int × Int) where
  enc a := .e (.c (.fn 61 0 3 (findC a)))
  dec H x := match x with
    | .e (.c (.fn f n m a)) => match a 0, a 1, a 2 with
      | .ptr k0 0 0 _, .ptr k1 0 0 _, .ptr k2 0 0 _ => match hget H k0, hget H k1, hget H k2 with
        | some ⟨_, n0, z0, _, f0⟩, some ⟨_, n1, z1, _, f1⟩, some ⟨_, n2, z2, _, f2⟩ => match f0 0 0, f1 0 0, f2 0 0 with
          | .sl _ ln s g, .int .i64 id, .int .i64 now => bif Nat.beq f 61 && Nat.beq n 0 && Nat.beq m 3 && Nat.beq s eCtx.sz && Nat.blt 0 n0 && Nat.blt 0 z0 && Nat.blt 0 n1 && Nat.blt 0 z1 && Nat.blt 0 n2 && Nat.blt 0 z2 then
              some ((toL eCtx ln g, id, now), some (∀ i, i < ln → eCtx.ok (g i) = true), [k0, k1, k2]) else none
          | _, _, _ => none
        | _, _, _ => none
      | _, _, _ => none
    | _ => none
  sound H H' x a p rd h hp hh := by
    split at h
    · rename_i f n m a0
      split at h
      · rename_i k0 fl0 k1 fl1 k2 fl2 ha0 ha1 ha2
        split at h
        · rename_i t0 n0 z0 v0 f0 t1 n1 z1 v1 f1 t2 n2 z2 v2 f2 he0 he1 he2
          split at h
          · rename_i sh ln s g id now hc0 hc1 hc2
            obtain ⟨hb, h⟩ := cond_some h
            injection h with h h'
            injection h' with h' h''
            subst h h' h''
            simp only [Bool.and_eq_true] at hb
            obtain ⟨⟨⟨⟨⟨⟨⟨⟨⟨b1, b2⟩, b3⟩, b4⟩, b5⟩, b6⟩, b7⟩, b8⟩, b9⟩, b10⟩ := hb
            have b1 := Nat.eq_of_beq_eq_true b1
            have b2 := Nat.eq_of_beq_eq_true b2
            have b3 := Nat.eq_of_beq_eq_true b3
            have b4 := Nat.eq_of_beq_eq_true b4
            subst b1 b2 b3 b4
            have g0 : hget H' k0 = some ⟨t0, n0, z0, v0, f0⟩ := by rw [← hh k0 (by simp)]; exact he0
            have g1 : hget H' k1 = some ⟨t1, n1, z1, v1, f1⟩ := by rw [← hh k1 (by simp)]; exact he1
            have g2 : hget H' k2 = some ⟨t2, n2, z2, v2, f2⟩ := by rw [← hh k2 (by simp)]; exact he2
            rintro cx r w v st ⟨fs, cs, rfl, h1, h2, h3, h4⟩
            refine ⟨fs, cs, rfl, h1, h2, fun k u hu => ?_, fun k u hu => ?_⟩
            · have := (Array.getElem?_eq_some_iff.1 hu).1; omega
            · have hk := (Array.getElem?_eq_some_iff.1 hu).1
              have hr := h4 k u hu
              rw [Nat.zero_add] at hr ⊢
              rcases (show k = 0 ∨ k = 1 ∨ k = 2 by omega) with rfl | rfl | rfl
              · rw [ha0] at hr
                exact rp_of st g0 (by simp) (Nat.le_of_ble_eq_true b5) (Nat.le_of_ble_eq_true b6) (fun u hu => slC_in (sh := sh) hp (by rw [← hc0]; exact hu)) hr
              · rw [ha1] at hr
                exact rp_of st g1 (by simp) (Nat.le_of_ble_eq_true b7) (Nat.le_of_ble_eq_true b8) (fun u hu => (show (CV.int .i64 id).rel r cx.X (wr r H') w u by rw [← hc1]; exact hu)) hr
              · rw [ha2] at hr
                exact rp_of st g2 (by simp) (Nat.le_of_ble_eq_true b9) (Nat.le_of_ble_eq_true b10) (fun u hu => (show (CV.int .i64 now).rel r cx.X (wr r H') w u by rw [← hc2]; exact hu)) hr
          · cases h
        · cases h
      · cases h
    · cases h
/-! ### Pointers that are only read -/
theorem wrBut_sub {r : Ren} {H : Hp} {rd : List Nat} : ∀ b, wrBut r H rd b → wr r H b := fun b ⟨k, e, x, g1, g2, g3, _⟩ => ⟨k, e, x, g1, g2, g3⟩
def cRpI : Codec Int where
  enc a := .e (.c (.rp false 1 fun _ => .int .i64 a))
  dec H x := match x with
    | .e (.c (.rp _ m g)) => match g 0 with
      | .int .i64 v => bif Nat.beq m 1 then some (v, none, []) else none
      | _ => none
    | _ => none
  sound H H' x a p rd h hp hh := by
    split at h
    · rename_i sh m g
      split at h
      · rename_i v hg
        obtain ⟨hb, h5⟩ := cond_some h
        have hb := Nat.eq_of_beq_eq_true hb
        subst hb
        injection h5 with h6 h7
        injection h7 with h7 h8
        subst h6 h7 h8
        rintro cx r w u st ⟨ad, rfl, hs, ho, hx, hlt, hq⟩
        refine ⟨ad, rfl, hs, fun h => ho (wrBut_sub _ h), (fun h => by cases h), hlt, fun j hj => ?_⟩
        obtain rfl : j = 0 := by omega
        obtain ⟨u, hu, hr⟩ := hq 0 hj
        rw [hg] at hr
        exact ⟨u, hu, hr⟩
      · cases h
    · cases h
def cRpL : Codec (List Ctx) where
  enc l := .e (.c (.rp false 1 fun _ => .sl false l.length eCtx.sz (rowF eCtx l)))
  dec H x := match x with
    | .e (.c (.rp _ m g)) => match g 0 with
      | .sl _ n s f => bif Nat.beq m 1 && Nat.beq s eCtx.sz then some (toL eCtx n f, some (∀ i, i < n → eCtx.ok (f i) = true), []) else none
      | _ => none
    | _ => none
  sound H H' x a p rd h hp hh := by
    split at h
    · rename_i sh m g
      split at h
      · rename_i sh2 n s f hg
        obtain ⟨hb, h5⟩ := cond_some h
        rw [Bool.and_eq_true] at hb
        have b1 := Nat.eq_of_beq_eq_true hb.1
        have b2 := Nat.eq_of_beq_eq_true hb.2
        subst b1 b2
        injection h5 with h6 h7
        injection h7 with h7 h8
        subst h6 h7 h8
        rintro cx r w u st ⟨ad, rfl, hs, ho, hx, hlt, hq⟩
        refine ⟨ad, rfl, hs, fun h => ho (wrBut_sub _ h), (fun h => by cases h), hlt, fun j hj => ?_⟩
        obtain rfl : j = 0 := by omega
        obtain ⟨u, hu, hr⟩ := hq 0 hj
        rw [hg] at hr
        exact ⟨u, hu, slC_in (sh := sh2) hp hr⟩
      · cases h
    · cases h
abbrev fndA : AC (List Ctx × Int × Int × Unit) := AC.cons cRpL (AC.cons cRpI (AC.cons cRpI AC.nil))
abbrev decE0 : Entry := pureE (AC.cons (cSl eCtx eCtx_sz) (AC.cons (cI .i64) (AC.cons (cI .i64) AC.nil))) (fun a => a.1.length ≤ 9223372036854775807) (fun a => forDec a.1 a.2.1 a.2.2.1) encCB
def LRd2 : CsL := (62, some decE0) :: (58, some (rdE AC.nil (fun b q _ => RdOk b q) (fun b q _ => startF b q) encR3)) :: (59, some (rdE (AC.cons (cI .i64) AC.nil) (fun b q a => RdOk b q ∧ 96 ≤ a.1 ∧ a.1 ≤ 127) (fun b q a => fieldsD b a.1 q) encRH)) :: LRd0
theorem LRd2_ok : AllOk Tryd.prog LRd2 := ⟨pureE_ok ⟨_, Tryd.func62, rfl, by kernel_rfl⟩ fun a h => forDec_ok a.1 a.2.1 a.2.2.1 h, rdE_ok ⟨_, Tryd.func58, rfl, by kernel_rfl⟩ (fun r => encR3_flat r) fun b q a h => start_ok b q h, rdE_ok ⟨_, Tryd.func59, rfl, by kernel_rfl⟩ (fun r => encRH_flat r) fun b q a h => fieldsR_ok b a.1 q h.1 h.2, LRd0_ok⟩
theorem find_ok (l : List Ctx) (id now : Int) (hl : l.length ≤ 9223372036854775807) : PureOk Tryd.prog 61 (fndA.enc (l, id, now, ())) (encCB (forDec l id now)) := by
  obtain ⟨C, eC⟩ : ∃ C, forDec l id now = C := ⟨_, rfl⟩
  rw [eC]
  refine pure_intro (wd := 1) (Q := mkQ LRd2) (by decide) tysOk (q_of LRd2_ok) mixed Tryd.func61 rfl _ (by show 3 ≤ _; decide) _ ?_
  repeat' (first | (apply And.intro <;> intro hc <;> (first | exact Bool.noConfusion hc | (simp only [decide_eq_true_eq, decide_eq_false_iff_not, Bool.not_eq_true', Bool.not_eq_false', beq_iff_eq, beq_eq_false_iff_ne, bne_iff_ne, bne_eq_false_iff_eq, Bool.true_eq_false, Bool.false_eq_true, ne_eq, not_true_eq_false] at hc <;> first | exact absurd rfl hc | skip) | skip)) | (refine And.intro (by first | exact trivial | decide | omega | (dsimp only; omega) | exact fun _ _ => rfl | exact ⟨by assumption, by first | exact trivial | decide | omega | (dsimp only; omega)⟩) ?_) | (apply And.intro) | (intro s hs; (have q : C = s := (hs.trans ((congrArg (fun l => forDec l id now) (toL_ctx l)).trans eC)).symm; clear hs; subst q)))
  all_goals first
    | (show (toL eCtx l.length _).length ≤ _; rw [toL_len]; exact hl)
    | (refine Done.mk (leF_tup ?_)
       repeat' (first | exact trivial | exact rfl | exact leC_int rfl | exact leC_bool rfl | refine leE_all ?_ | exact leC_bool (by assumption) | apply And.intro))
    | skip
end Go.Proofs.YtjknkfjhcapocaaDoor.AX

/- The program's reader: unicast. (Printed by gen/rduni.py.) -/
namespace Go.Proofs.YtjknkfjhcapocaaDoor.AX
open Go.RowKit
set_option linter.unusedVariables false
set_option linter.unusedSimpArgs false
abbrev fndE : Entry := pureE fndA (fun a => a.1.length ≤ 9223372036854775807) (fun a => forDec a.1 a.2.1 a.2.2.1) encCB
def LRd3 : CsL := (61, some fndE) :: LRd2
theorem LRd3_ok : AllOk Tryd.prog LRd3 := ⟨pureE_ok ⟨_, Tryd.func61, rfl, by kernel_rfl⟩ fun a h => find_ok a.1 a.2.1 a.2.2.1 h, LRd2_ok⟩
theorem findDec_in (id now : Int) : ∀ (l : List Ctx), (findDec id now l).2 = true → (findDec id now l).1 ∈ l := by
  intro l
  induction l with
  | nil => intro h; cases h
  | cons c l ih =>
    intro h
    unfold findDec at h ⊢
    split
    · exact List.mem_cons_self ..
    · rename_i g
      rw [if_neg g] at h
      exact List.mem_cons_of_mem _ (ih h)
theorem dec_valid {l : List Ctx} {id now : Int} (hl : bytesL l) (h : (forDec l id now).2 = true) : vpf (pfxOf (forDec l id now).1) = true ∧ byteOk (forDec l id now).1.ip := by
  unfold forDec at h ⊢
  split at h
  · rename_i g
    rw [if_pos g]
    have hm := findDec_in id now l h
    exact ⟨(valid_lt g.1 hm).2.2.2, hl.b _ hm⟩
  · cases h
theorem num2_v {b : List Int} {q : Int} (hb : BL b) : 0 ≤ (numF b q 2).1.1 ∧ (numF b q 2).1.1 < 65536 := by
  have := num_v (q := q) (n := 2) hb
  exact this
set_option maxHeartbeats 4000000 in
set_option maxRecDepth 20000 in
theorem unid_t0 (b : List Int) (q : Int) (k : Adr) (l : List Ctx) (id now : Int) (hr : RdOk b q) (hl : bytesL l) : MethOk Tryd.prog 63 [cB.enc true, (cI .i64).enc 0, (cE eAdr).enc k, cFind.enc (l, id, now)] (rdN true b q) (encRA (uniD b true 0 k (forDec l id now) q).1) (rdN true b (uniD b true 0 k (forDec l id now) q).2) := by
  obtain ⟨W, hW⟩ : ∃ W, uniD b true 0 k (forDec l id now) q = W := ⟨_, rfl⟩
  have eW : W = (if (forDec l id now).2 = false then ((zeroA, 9), q) else (if 64 < (forDec l id now).1.bits then ((zeroA, 5), q) else (if (ipRF b q).1.2 = 0 then (if mcast ((ipRF b q).1.1) = true then ((zeroA, 5), (ipRF b q).2) else (((ipRF b q).1.1, 0), (ipRF b q).2)) else ((zeroA, (ipRF b q).1.2), (ipRF b q).2)))) := by
    rw [← hW]
    simp (decide := true) only [uniD, uniV, thenD, prefD, if_true, if_false, true_and, and_true, false_and]
  rw [hW]
  clear hW
  have hv := fun h => (dec_valid (id := id) (now := now) hl h).1
  obtain ⟨C, eC⟩ : ∃ C, forDec l id now = C := ⟨_, rfl⟩
  rw [eC] at eW hv
  obtain ⟨I, eI⟩ : ∃ I, iidF k = I := ⟨_, rfl⟩
  obtain ⟨N, eN⟩ : ∃ N, ipRF b q = N := ⟨_, rfl⟩
  rw [eN] at eW
  obtain ⟨Mc, eMc⟩ : ∃ x, mcast N.1.1 = x := ⟨_, rfl⟩
  rw [eMc] at eW
  have f0 : (C.2 = false) → W = ((zeroA, 9), q) := fun h0 => by rw [eW, if_pos h0]
  have f1 : (¬ C.2 = false) → (64 < C.1.bits) → W = ((zeroA, 5), q) := fun h0 h1 => by rw [eW, if_neg h0, if_pos h1]
  have f2 : (¬ C.2 = false) → (¬ 64 < C.1.bits) → (¬ N.1.2 = 0) → W = ((zeroA, N.1.2), N.2) := fun h0 h1 h2 => by rw [eW, if_neg h0, if_neg h1, if_neg h2]
  have f3 : (¬ C.2 = false) → (¬ 64 < C.1.bits) → (N.1.2 = 0) → (Mc = true) → W = ((zeroA, 5), N.2) := fun h0 h1 h2 h3 => by rw [eW, if_neg h0, if_neg h1, if_pos h2, if_pos h3]
  have f4 : (¬ C.2 = false) → (¬ 64 < C.1.bits) → (N.1.2 = 0) → (¬ Mc = true) → W = ((N.1.1, 0), N.2) := fun h0 h1 h2 h3 => by rw [eW, if_neg h0, if_neg h1, if_pos h2, if_neg h3]
  clear eW
  have g1 : True := trivial
  have g2 : True := trivial
  have g3 : True := trivial
  have g4 : True := trivial
  have g5 : True := trivial
  have g6 : True := trivial
  refine meth_intro (wd := 1) (Q := mkQ LRd3) (by decide) tysOk (q_of LRd3_ok) mixed Tryd.func63 rfl _ (by show 4 + 1 ≤ _; decide) (flatF_nff (encRA_flat _)) (rdN_nf) ?_
  repeat' (first | (apply And.intro <;> intro hc <;> (first | exact Bool.noConfusion hc | (exfalso; first | exact absurd hc (by decide) | exact absurd rfl hc | exact absurd hc (by assumption) | exact absurd (by assumption) hc | exact Bool.noConfusion ((by assumption : I.2 = true).symm.trans hc)) | (simp only [decide_eq_true_eq, decide_eq_false_iff_not, Bool.not_eq_true', Bool.not_eq_false', beq_iff_eq, beq_eq_false_iff_ne, bne_iff_ne, bne_eq_false_iff_eq, Bool.true_eq_false, Bool.false_eq_true, ne_eq, not_true_eq_false] at hc <;> first | exact absurd rfl hc | (exfalso; first | exact absurd hc (by decide) | exact absurd rfl hc | exact absurd hc (by assumption) | exact absurd (by assumption) hc | exact Bool.noConfusion ((by assumption : I.2 = true).symm.trans hc)) | skip) | skip)) | (refine And.intro (by first | exact trivial | decide | omega | (dsimp only; omega) | exact fun _ _ => rfl | exact ⟨by assumption, by first | exact trivial | decide | omega | (dsimp only; omega)⟩) ?_) | (apply And.intro) | (refine Exists.intro b (And.intro ⟨rfl, rfl, by first | exact ⟨by assumption, by decide, by decide⟩ | assumption⟩ ?_)) | (intro s hs; (first | (clear g1; have q : I = s := (hs.trans ((congrArg iidF (rd_adr k)).trans eI)).symm; clear hs; subst q) | (clear g2; have q : s = llP := hs; clear hs; subst q) | (clear g3; have q : C = s := (hs.trans ((congrArg (fun l => forDec l id now) (toL_ctx l)).trans eC)).symm; clear hs; subst q) | (clear g4; have q : N = s := (hs.trans eN).symm; clear hs; subst q) | (clear g6; have q : Mc = s := (by (dsimp only at hs; refine (hs.trans ((congrArg mcast (ip_is (a := N.1.1) (fun j hj => ?_))).trans eMc)).symm; (iterate 16 (rcases j with _ | j; exact rfl)); exact absurd hj (by omega))); clear hs; subst q) | skip)))
  all_goals try (first | exact rfl | exact Nat.le_of_ble_eq_true rfl)
  all_goals first
    | (show (toL eCtx l.length _).length ≤ _; rw [toL_len]; have := hl.n; omega)
    | exact fun _ => rfl
    | (rw [f0 (by assumption)]
       exact ⟨leF_tup ⟨leE_agg rfl (fun i hi => by (iterate 16 (rcases i with _ | i; exact leC_int rfl)); exact absurd hi (by omega)), leC_int rfl, trivial⟩, rdN_le rfl⟩)
    | (rw [f1 (fun h => Bool.noConfusion (h.symm.trans (by assumption : C.2 = true))) (by assumption)]
       exact ⟨leF_tup ⟨leE_agg rfl (fun i hi => by (iterate 16 (rcases i with _ | i; exact leC_int rfl)); exact absurd hi (by omega)), leC_int rfl, trivial⟩, rdN_le rfl⟩)
    | (rw [f2 (fun h => Bool.noConfusion (h.symm.trans (by assumption : C.2 = true))) (by assumption) (by assumption)]
       exact ⟨leF_tup ⟨leE_agg rfl (fun i hi => by (iterate 16 (rcases i with _ | i; exact leC_int rfl)); exact absurd hi (by omega)), leC_int rfl, trivial⟩, rdN_le rfl⟩)
    | (rw [f3 (fun h => Bool.noConfusion (h.symm.trans (by assumption : C.2 = true))) (by assumption) (by assumption) (by assumption)]
       exact ⟨leF_tup ⟨leE_agg rfl (fun i hi => by (iterate 16 (rcases i with _ | i; exact leC_int rfl)); exact absurd hi (by omega)), leC_int rfl, trivial⟩, rdN_le rfl⟩)
    | (rw [f4 (fun h => Bool.noConfusion (h.symm.trans (by assumption : C.2 = true))) (by assumption) (by assumption) (fun h => Bool.noConfusion (h.symm.trans (by assumption : Mc = false)))]
       exact ⟨leF_tup ⟨leE_agg rfl (fun i hi => by (iterate 16 (rcases i with _ | i; exact leC_int rfl)); exact absurd hi (by omega)), leC_int rfl, trivial⟩, rdN_le rfl⟩)
    | skip
set_option maxHeartbeats 4000000 in
set_option maxRecDepth 20000 in
theorem unid_t1 (b : List Int) (q : Int) (k : Adr) (l : List Ctx) (id now : Int) (hr : RdOk b q) (hl : bytesL l) : MethOk Tryd.prog 63 [cB.enc true, (cI .i64).enc 1, (cE eAdr).enc k, cFind.enc (l, id, now)] (rdN true b q) (encRA (uniD b true 1 k (forDec l id now) q).1) (rdN true b (uniD b true 1 k (forDec l id now) q).2) := by
  obtain ⟨W, hW⟩ : ∃ W, uniD b true 1 k (forDec l id now) q = W := ⟨_, rfl⟩
  have eW : W = (if (forDec l id now).2 = false then ((zeroA, 9), q) else (if 64 < (forDec l id now).1.bits then ((zeroA, 5), q) else (if (numF b q 8).1.2 = 0 then (if mcast (jn (pfxOf (forDec l id now).1).ip (numF b q 8).1.1) = true then ((zeroA, 5), (numF b q 8).2) else ((jn (pfxOf (forDec l id now).1).ip (numF b q 8).1.1, 0), (numF b q 8).2)) else ((zeroA, (numF b q 8).1.2), (numF b q 8).2)))) := by
    rw [← hW]
    simp (decide := true) only [uniD, uniV, thenD, prefD, if_true, if_false, true_and, and_true, false_and]
    by_cases hN : (numF b q 8).1.2 = 0
    · simp (decide := true) only [hN, if_true, if_false]
    · simp only [hN, if_false]
  rw [hW]
  clear hW
  have hv := fun h => (dec_valid (id := id) (now := now) hl h).1
  obtain ⟨C, eC⟩ : ∃ C, forDec l id now = C := ⟨_, rfl⟩
  rw [eC] at eW hv
  obtain ⟨I, eI⟩ : ∃ I, iidF k = I := ⟨_, rfl⟩
  obtain ⟨N, eN⟩ : ∃ N, numF b q 8 = N := ⟨_, rfl⟩
  rw [eN] at eW
  have eJ : C.2 = true → ¬ 64 < C.1.bits → joinF (pfxOf C.1) N.1.1 = (jn (pfxOf C.1).ip N.1.1, true) := fun h g => if_pos ⟨hv h, Int.not_lt.1 g⟩
  obtain ⟨A, eA'⟩ : ∃ A, jn (pfxOf C.1).ip N.1.1 = A := ⟨_, rfl⟩
  rw [eA'] at eW eJ
  obtain ⟨Mc, eMc⟩ : ∃ x, mcast A = x := ⟨_, rfl⟩
  rw [eMc] at eW
  have f0 : (C.2 = false) → W = ((zeroA, 9), q) := fun h0 => by rw [eW, if_pos h0]
  have f1 : (¬ C.2 = false) → (64 < C.1.bits) → W = ((zeroA, 5), q) := fun h0 h1 => by rw [eW, if_neg h0, if_pos h1]
  have f2 : (¬ C.2 = false) → (¬ 64 < C.1.bits) → (¬ N.1.2 = 0) → W = ((zeroA, N.1.2), N.2) := fun h0 h1 h2 => by rw [eW, if_neg h0, if_neg h1, if_neg h2]
  have f3 : (¬ C.2 = false) → (¬ 64 < C.1.bits) → (N.1.2 = 0) → (Mc = true) → W = ((zeroA, 5), N.2) := fun h0 h1 h2 h3 => by rw [eW, if_neg h0, if_neg h1, if_pos h2, if_pos h3]
  have f4 : (¬ C.2 = false) → (¬ 64 < C.1.bits) → (N.1.2 = 0) → (¬ Mc = true) → W = ((A, 0), N.2) := fun h0 h1 h2 h3 => by rw [eW, if_neg h0, if_neg h1, if_pos h2, if_neg h3]
  clear eW
  have g1 : True := trivial
  have g2 : True := trivial
  have g3 : True := trivial
  have g4 : True := trivial
  have g5 : True := trivial
  have g6 : True := trivial
  refine meth_intro (wd := 1) (Q := mkQ LRd3) (by decide) tysOk (q_of LRd3_ok) mixed Tryd.func63 rfl _ (by show 4 + 1 ≤ _; decide) (flatF_nff (encRA_flat _)) (rdN_nf) ?_
  repeat' (first | (apply And.intro <;> intro hc <;> (first | exact Bool.noConfusion hc | (exfalso; first | exact absurd hc (by decide) | exact absurd rfl hc | exact absurd hc (by assumption) | exact absurd (by assumption) hc | exact Bool.noConfusion ((by assumption : I.2 = true).symm.trans hc)) | (simp only [decide_eq_true_eq, decide_eq_false_iff_not, Bool.not_eq_true', Bool.not_eq_false', beq_iff_eq, beq_eq_false_iff_ne, bne_iff_ne, bne_eq_false_iff_eq, Bool.true_eq_false, Bool.false_eq_true, ne_eq, not_true_eq_false] at hc <;> first | exact absurd rfl hc | (exfalso; first | exact absurd hc (by decide) | exact absurd rfl hc | exact absurd hc (by assumption) | exact absurd (by assumption) hc | exact Bool.noConfusion ((by assumption : I.2 = true).symm.trans hc)) | skip) | skip)) | (refine And.intro (by first | exact trivial | decide | omega | (dsimp only; omega) | exact fun _ _ => rfl | exact ⟨by assumption, by first | exact trivial | decide | omega | (dsimp only; omega)⟩) ?_) | (apply And.intro) | (refine Exists.intro b (And.intro ⟨rfl, rfl, by first | exact ⟨by assumption, by decide, by decide⟩ | assumption⟩ ?_)) | (intro s hs; (first | (clear g1; have q : I = s := (hs.trans ((congrArg iidF (rd_adr k)).trans eI)).symm; clear hs; subst q) | (clear g2; have q : s = llP := hs; clear hs; subst q) | (clear g3; have q : C = s := (hs.trans ((congrArg (fun l => forDec l id now) (toL_ctx l)).trans eC)).symm; clear hs; subst q) | (clear g4; have q : N = s := (hs.trans eN).symm; clear hs; subst q) | (clear g5; have q : s = (A, true) := (by (dsimp only at hs; refine hs.trans ((congrArg (joinF · N.1.1) (pfx_is (p := (pfxOf C.1)) (fun j hj => ?_))).trans (eJ (by assumption) (by assumption))); (iterate 17 (rcases j with _ | j; exact rfl)); exact absurd hj (by omega))); clear hs; subst q) | (clear g6; have q : Mc = s := (by (dsimp only at hs; refine (hs.trans ((congrArg mcast (ip_is (a := A) (fun j hj => ?_))).trans eMc)).symm; (iterate 16 (rcases j with _ | j; exact rfl)); exact absurd hj (by omega))); clear hs; subst q) | skip)))
  all_goals try (first | exact rfl | exact Nat.le_of_ble_eq_true rfl)
  all_goals first
    | (show (toL eCtx l.length _).length ≤ _; rw [toL_len]; have := hl.n; omega)
    | exact fun _ => rfl
    | (rw [f0 (by assumption)]
       exact ⟨leF_tup ⟨leE_agg rfl (fun i hi => by (iterate 16 (rcases i with _ | i; exact leC_int rfl)); exact absurd hi (by omega)), leC_int rfl, trivial⟩, rdN_le rfl⟩)
    | (rw [f1 (fun h => Bool.noConfusion (h.symm.trans (by assumption : C.2 = true))) (by assumption)]
       exact ⟨leF_tup ⟨leE_agg rfl (fun i hi => by (iterate 16 (rcases i with _ | i; exact leC_int rfl)); exact absurd hi (by omega)), leC_int rfl, trivial⟩, rdN_le rfl⟩)
    | (rw [f2 (fun h => Bool.noConfusion (h.symm.trans (by assumption : C.2 = true))) (by assumption) (by assumption)]
       exact ⟨leF_tup ⟨leE_agg rfl (fun i hi => by (iterate 16 (rcases i with _ | i; exact leC_int rfl)); exact absurd hi (by omega)), leC_int rfl, trivial⟩, rdN_le rfl⟩)
    | (rw [f3 (fun h => Bool.noConfusion (h.symm.trans (by assumption : C.2 = true))) (by assumption) (by assumption) (by assumption)]
       exact ⟨leF_tup ⟨leE_agg rfl (fun i hi => by (iterate 16 (rcases i with _ | i; exact leC_int rfl)); exact absurd hi (by omega)), leC_int rfl, trivial⟩, rdN_le rfl⟩)
    | (rw [f4 (fun h => Bool.noConfusion (h.symm.trans (by assumption : C.2 = true))) (by assumption) (by assumption) (fun h => Bool.noConfusion (h.symm.trans (by assumption : Mc = false)))]
       exact ⟨leF_tup ⟨leE_agg rfl (fun i hi => by (iterate 16 (rcases i with _ | i; exact leC_int rfl)); exact absurd hi (by omega)), leC_int rfl, trivial⟩, rdN_le rfl⟩)
    | skip
set_option maxHeartbeats 4000000 in
set_option maxRecDepth 20000 in
theorem unid_t2 (b : List Int) (q : Int) (k : Adr) (l : List Ctx) (id now : Int) (hr : RdOk b q) (hl : bytesL l) : MethOk Tryd.prog 63 [cB.enc true, (cI .i64).enc 2, (cE eAdr).enc k, cFind.enc (l, id, now)] (rdN true b q) (encRA (uniD b true 2 k (forDec l id now) q).1) (rdN true b (uniD b true 2 k (forDec l id now) q).2) := by
  obtain ⟨W, hW⟩ : ∃ W, uniD b true 2 k (forDec l id now) q = W := ⟨_, rfl⟩
  have eW : W = (if (forDec l id now).2 = false then ((zeroA, 9), q) else (if 64 < (forDec l id now).1.bits then ((zeroA, 5), q) else (if (numF b q 2).1.2 = 0 then (if mcast (jn (pfxOf (forDec l id now).1).ip ((numF b q 2).1.1 + 1099478073344)) = true then ((zeroA, 5), (numF b q 2).2) else ((jn (pfxOf (forDec l id now).1).ip ((numF b q 2).1.1 + 1099478073344), 0), (numF b q 2).2)) else ((zeroA, (numF b q 2).1.2), (numF b q 2).2)))) := by
    rw [← hW]
    simp (decide := true) only [uniD, uniV, thenD, prefD, if_true, if_false, true_and, and_true, false_and]
    by_cases hN : (numF b q 2).1.2 = 0
    · simp (decide := true) only [hN, if_true, if_false]
    · simp only [hN, if_false]
  rw [hW]
  clear hW
  have hv := fun h => (dec_valid (id := id) (now := now) hl h).1
  obtain ⟨C, eC⟩ : ∃ C, forDec l id now = C := ⟨_, rfl⟩
  rw [eC] at eW hv
  obtain ⟨I, eI⟩ : ∃ I, iidF k = I := ⟨_, rfl⟩
  have v2 := num2_v (q := q) hr.bl
  obtain ⟨N, eN⟩ : ∃ N, numF b q 2 = N := ⟨_, rfl⟩
  rw [eN] at eW
  rw [eN] at v2
  have w2 : IntKind.u64.wrap (N.1.1 + 1099478073344) = N.1.1 + 1099478073344 := IntWalk.u64_in _ (by omega)
  have eJ : C.2 = true → ¬ 64 < C.1.bits → joinF (pfxOf C.1) (N.1.1 + 1099478073344) = (jn (pfxOf C.1).ip (N.1.1 + 1099478073344), true) := fun h g => if_pos ⟨hv h, Int.not_lt.1 g⟩
  obtain ⟨A, eA'⟩ : ∃ A, jn (pfxOf C.1).ip (N.1.1 + 1099478073344) = A := ⟨_, rfl⟩
  rw [eA'] at eW eJ
  obtain ⟨Mc, eMc⟩ : ∃ x, mcast A = x := ⟨_, rfl⟩
  rw [eMc] at eW
  have f0 : (C.2 = false) → W = ((zeroA, 9), q) := fun h0 => by rw [eW, if_pos h0]
  have f1 : (¬ C.2 = false) → (64 < C.1.bits) → W = ((zeroA, 5), q) := fun h0 h1 => by rw [eW, if_neg h0, if_pos h1]
  have f2 : (¬ C.2 = false) → (¬ 64 < C.1.bits) → (¬ N.1.2 = 0) → W = ((zeroA, N.1.2), N.2) := fun h0 h1 h2 => by rw [eW, if_neg h0, if_neg h1, if_neg h2]
  have f3 : (¬ C.2 = false) → (¬ 64 < C.1.bits) → (N.1.2 = 0) → (Mc = true) → W = ((zeroA, 5), N.2) := fun h0 h1 h2 h3 => by rw [eW, if_neg h0, if_neg h1, if_pos h2, if_pos h3]
  have f4 : (¬ C.2 = false) → (¬ 64 < C.1.bits) → (N.1.2 = 0) → (¬ Mc = true) → W = ((A, 0), N.2) := fun h0 h1 h2 h3 => by rw [eW, if_neg h0, if_neg h1, if_pos h2, if_neg h3]
  clear eW
  have g1 : True := trivial
  have g2 : True := trivial
  have g3 : True := trivial
  have g4 : True := trivial
  have g5 : True := trivial
  have g6 : True := trivial
  refine meth_intro (wd := 1) (Q := mkQ LRd3) (by decide) tysOk (q_of LRd3_ok) mixed Tryd.func63 rfl _ (by show 4 + 1 ≤ _; decide) (flatF_nff (encRA_flat _)) (rdN_nf) ?_
  repeat' (first | (apply And.intro <;> intro hc <;> (first | exact Bool.noConfusion hc | (exfalso; first | exact absurd hc (by decide) | exact absurd rfl hc | exact absurd hc (by assumption) | exact absurd (by assumption) hc | exact Bool.noConfusion ((by assumption : I.2 = true).symm.trans hc)) | (simp only [decide_eq_true_eq, decide_eq_false_iff_not, Bool.not_eq_true', Bool.not_eq_false', beq_iff_eq, beq_eq_false_iff_ne, bne_iff_ne, bne_eq_false_iff_eq, Bool.true_eq_false, Bool.false_eq_true, ne_eq, not_true_eq_false] at hc <;> first | exact absurd rfl hc | (exfalso; first | exact absurd hc (by decide) | exact absurd rfl hc | exact absurd hc (by assumption) | exact absurd (by assumption) hc | exact Bool.noConfusion ((by assumption : I.2 = true).symm.trans hc)) | skip) | skip)) | (refine And.intro (by first | exact trivial | decide | omega | (dsimp only; omega) | exact fun _ _ => rfl | exact ⟨by assumption, by first | exact trivial | decide | omega | (dsimp only; omega)⟩) ?_) | (apply And.intro) | (refine Exists.intro b (And.intro ⟨rfl, rfl, by first | exact ⟨by assumption, by decide, by decide⟩ | assumption⟩ ?_)) | (intro s hs; (first | (clear g1; have q : I = s := (hs.trans ((congrArg iidF (rd_adr k)).trans eI)).symm; clear hs; subst q) | (clear g2; have q : s = llP := hs; clear hs; subst q) | (clear g3; have q : C = s := (hs.trans ((congrArg (fun l => forDec l id now) (toL_ctx l)).trans eC)).symm; clear hs; subst q) | (clear g4; have q : N = s := (hs.trans eN).symm; clear hs; subst q) | (clear g5; have q : s = (A, true) := (by (dsimp only at hs; refine hs.trans ((congrArg (joinF · (IntKind.u64.wrap (N.1.1 + 1099478073344))) (pfx_is (p := (pfxOf C.1)) (fun j hj => ?_))).trans ((congrArg (joinF (pfxOf C.1)) w2).trans (eJ (by assumption) (by assumption)))); (iterate 17 (rcases j with _ | j; exact rfl)); exact absurd hj (by omega))); clear hs; subst q) | (clear g6; have q : Mc = s := (by (dsimp only at hs; refine (hs.trans ((congrArg mcast (ip_is (a := A) (fun j hj => ?_))).trans eMc)).symm; (iterate 16 (rcases j with _ | j; exact rfl)); exact absurd hj (by omega))); clear hs; subst q) | skip)))
  all_goals try (first | exact rfl | exact Nat.le_of_ble_eq_true rfl)
  all_goals first
    | (show (toL eCtx l.length _).length ≤ _; rw [toL_len]; have := hl.n; omega)
    | exact fun _ => rfl
    | (rw [f0 (by assumption)]
       exact ⟨leF_tup ⟨leE_agg rfl (fun i hi => by (iterate 16 (rcases i with _ | i; exact leC_int rfl)); exact absurd hi (by omega)), leC_int rfl, trivial⟩, rdN_le rfl⟩)
    | (rw [f1 (fun h => Bool.noConfusion (h.symm.trans (by assumption : C.2 = true))) (by assumption)]
       exact ⟨leF_tup ⟨leE_agg rfl (fun i hi => by (iterate 16 (rcases i with _ | i; exact leC_int rfl)); exact absurd hi (by omega)), leC_int rfl, trivial⟩, rdN_le rfl⟩)
    | (rw [f2 (fun h => Bool.noConfusion (h.symm.trans (by assumption : C.2 = true))) (by assumption) (by assumption)]
       exact ⟨leF_tup ⟨leE_agg rfl (fun i hi => by (iterate 16 (rcases i with _ | i; exact leC_int rfl)); exact absurd hi (by omega)), leC_int rfl, trivial⟩, rdN_le rfl⟩)
    | (rw [f3 (fun h => Bool.noConfusion (h.symm.trans (by assumption : C.2 = true))) (by assumption) (by assumption) (by assumption)]
       exact ⟨leF_tup ⟨leE_agg rfl (fun i hi => by (iterate 16 (rcases i with _ | i; exact leC_int rfl)); exact absurd hi (by omega)), leC_int rfl, trivial⟩, rdN_le rfl⟩)
    | (rw [f4 (fun h => Bool.noConfusion (h.symm.trans (by assumption : C.2 = true))) (by assumption) (by assumption) (fun h => Bool.noConfusion (h.symm.trans (by assumption : Mc = false)))]
       exact ⟨leF_tup ⟨leE_agg rfl (fun i hi => by (iterate 16 (rcases i with _ | i; exact leC_int rfl)); exact absurd hi (by omega)), leC_int rfl, trivial⟩, rdN_le rfl⟩)
    | skip
set_option maxHeartbeats 4000000 in
set_option maxRecDepth 20000 in
theorem unid_t3 (b : List Int) (q : Int) (k : Adr) (l : List Ctx) (id now : Int) (hr : RdOk b q) (hl : bytesL l) : MethOk Tryd.prog 63 [cB.enc true, (cI .i64).enc 3, (cE eAdr).enc k, cFind.enc (l, id, now)] (rdN true b q) (encRA (uniD b true 3 k (forDec l id now) q).1) (rdN true b (uniD b true 3 k (forDec l id now) q).2) := by
  obtain ⟨W, hW⟩ : ∃ W, uniD b true 3 k (forDec l id now) q = W := ⟨_, rfl⟩
  have eW : W = (if (iidF k).2 = false then ((zeroA, 5), q) else (if (forDec l id now).2 = false then ((zeroA, 9), q) else (if 64 < (forDec l id now).1.bits then ((zeroA, 5), q) else (if mcast (jn (pfxOf (forDec l id now).1).ip (iidF k).1) = true then ((zeroA, 5), q) else ((jn (pfxOf (forDec l id now).1).ip (iidF k).1, 0), q))))) := by
    rw [← hW]
    simp (decide := true) only [uniD, uniV, thenD, prefD, if_true, if_false, true_and, and_true, false_and]
  rw [hW]
  clear hW
  have hv := fun h => (dec_valid (id := id) (now := now) hl h).1
  obtain ⟨C, eC⟩ : ∃ C, forDec l id now = C := ⟨_, rfl⟩
  rw [eC] at eW hv
  obtain ⟨I, eI⟩ : ∃ I, iidF k = I := ⟨_, rfl⟩
  rw [eI] at eW
  have eJ : C.2 = true → ¬ 64 < C.1.bits → joinF (pfxOf C.1) I.1 = (jn (pfxOf C.1).ip I.1, true) := fun h g => if_pos ⟨hv h, Int.not_lt.1 g⟩
  obtain ⟨A, eA'⟩ : ∃ A, jn (pfxOf C.1).ip I.1 = A := ⟨_, rfl⟩
  rw [eA'] at eW eJ
  obtain ⟨Mc, eMc⟩ : ∃ x, mcast A = x := ⟨_, rfl⟩
  rw [eMc] at eW
  have f0 : (I.2 = false) → W = ((zeroA, 5), q) := fun h0 => by rw [eW, if_pos h0]
  have f1 : (¬ I.2 = false) → (C.2 = false) → W = ((zeroA, 9), q) := fun h0 h1 => by rw [eW, if_neg h0, if_pos h1]
  have f2 : (¬ I.2 = false) → (¬ C.2 = false) → (64 < C.1.bits) → W = ((zeroA, 5), q) := fun h0 h1 h2 => by rw [eW, if_neg h0, if_neg h1, if_pos h2]
  have f3 : (¬ I.2 = false) → (¬ C.2 = false) → (¬ 64 < C.1.bits) → (Mc = true) → W = ((zeroA, 5), q) := fun h0 h1 h2 h3 => by rw [eW, if_neg h0, if_neg h1, if_neg h2, if_pos h3]
  have f4 : (¬ I.2 = false) → (¬ C.2 = false) → (¬ 64 < C.1.bits) → (¬ Mc = true) → W = ((A, 0), q) := fun h0 h1 h2 h3 => by rw [eW, if_neg h0, if_neg h1, if_neg h2, if_neg h3]
  clear eW
  have g1 : True := trivial
  have g2 : True := trivial
  have g3 : True := trivial
  have g4 : True := trivial
  have g5 : True := trivial
  have g6 : True := trivial
  refine meth_intro (wd := 1) (Q := mkQ LRd3) (by decide) tysOk (q_of LRd3_ok) mixed Tryd.func63 rfl _ (by show 4 + 1 ≤ _; decide) (flatF_nff (encRA_flat _)) (rdN_nf) ?_
  repeat' (first | (apply And.intro <;> intro hc <;> (first | exact Bool.noConfusion hc | (exfalso; first | exact absurd hc (by decide) | exact absurd rfl hc | exact absurd hc (by assumption) | exact absurd (by assumption) hc | exact Bool.noConfusion ((by assumption : I.2 = true).symm.trans hc)) | (simp only [decide_eq_true_eq, decide_eq_false_iff_not, Bool.not_eq_true', Bool.not_eq_false', beq_iff_eq, beq_eq_false_iff_ne, bne_iff_ne, bne_eq_false_iff_eq, Bool.true_eq_false, Bool.false_eq_true, ne_eq, not_true_eq_false] at hc <;> first | exact absurd rfl hc | (exfalso; first | exact absurd hc (by decide) | exact absurd rfl hc | exact absurd hc (by assumption) | exact absurd (by assumption) hc | exact Bool.noConfusion ((by assumption : I.2 = true).symm.trans hc)) | skip) | skip)) | (refine And.intro (by first | exact trivial | decide | omega | (dsimp only; omega) | exact fun _ _ => rfl | exact ⟨by assumption, by first | exact trivial | decide | omega | (dsimp only; omega)⟩) ?_) | (apply And.intro) | (refine Exists.intro b (And.intro ⟨rfl, rfl, by first | exact ⟨by assumption, by decide, by decide⟩ | assumption⟩ ?_)) | (intro s hs; (first | (clear g1; have q : I = s := (hs.trans ((congrArg iidF (rd_adr k)).trans eI)).symm; clear hs; subst q) | (clear g2; have q : s = llP := hs; clear hs; subst q) | (clear g3; have q : C = s := (hs.trans ((congrArg (fun l => forDec l id now) (toL_ctx l)).trans eC)).symm; clear hs; subst q) | (clear g5; have q : s = (A, true) := (by (dsimp only at hs; refine hs.trans ((congrArg (joinF · I.1) (pfx_is (p := (pfxOf C.1)) (fun j hj => ?_))).trans (eJ (by assumption) (by assumption))); (iterate 17 (rcases j with _ | j; exact rfl)); exact absurd hj (by omega))); clear hs; subst q) | (clear g6; have q : Mc = s := (by (dsimp only at hs; refine (hs.trans ((congrArg mcast (ip_is (a := A) (fun j hj => ?_))).trans eMc)).symm; (iterate 16 (rcases j with _ | j; exact rfl)); exact absurd hj (by omega))); clear hs; subst q) | skip)))
  all_goals try (first | exact rfl | exact Nat.le_of_ble_eq_true rfl)
  all_goals first
    | (show (toL eCtx l.length _).length ≤ _; rw [toL_len]; have := hl.n; omega)
    | exact fun _ => rfl
    | (rw [f0 (by assumption)]
       exact ⟨leF_tup ⟨leE_agg rfl (fun i hi => by (iterate 16 (rcases i with _ | i; exact leC_int rfl)); exact absurd hi (by omega)), leC_int rfl, trivial⟩, rdN_le rfl⟩)
    | (rw [f1 (fun h => Bool.noConfusion (h.symm.trans (by assumption : I.2 = true))) (by assumption)]
       exact ⟨leF_tup ⟨leE_agg rfl (fun i hi => by (iterate 16 (rcases i with _ | i; exact leC_int rfl)); exact absurd hi (by omega)), leC_int rfl, trivial⟩, rdN_le rfl⟩)
    | (rw [f2 (fun h => Bool.noConfusion (h.symm.trans (by assumption : I.2 = true))) (fun h => Bool.noConfusion (h.symm.trans (by assumption : C.2 = true))) (by assumption)]
       exact ⟨leF_tup ⟨leE_agg rfl (fun i hi => by (iterate 16 (rcases i with _ | i; exact leC_int rfl)); exact absurd hi (by omega)), leC_int rfl, trivial⟩, rdN_le rfl⟩)
    | (rw [f3 (fun h => Bool.noConfusion (h.symm.trans (by assumption : I.2 = true))) (fun h => Bool.noConfusion (h.symm.trans (by assumption : C.2 = true))) (by assumption) (by assumption)]
       exact ⟨leF_tup ⟨leE_agg rfl (fun i hi => by (iterate 16 (rcases i with _ | i; exact leC_int rfl)); exact absurd hi (by omega)), leC_int rfl, trivial⟩, rdN_le rfl⟩)
    | (rw [f4 (fun h => Bool.noConfusion (h.symm.trans (by assumption : I.2 = true))) (fun h => Bool.noConfusion (h.symm.trans (by assumption : C.2 = true))) (by assumption) (fun h => Bool.noConfusion (h.symm.trans (by assumption : Mc = false)))]
       exact ⟨leF_tup ⟨leE_agg rfl (fun i hi => by (iterate 16 (rcases i with _ | i; exact leC_int rfl)); exact absurd hi (by omega)), leC_int rfl, trivial⟩, rdN_le rfl⟩)
    | skip
set_option maxHeartbeats 4000000 in
set_option maxRecDepth 20000 in
theorem unid_f0 (b : List Int) (q : Int) (k : Adr) (l : List Ctx) (id now : Int) (hr : RdOk b q) (hl : bytesL l) : MethOk Tryd.prog 63 [cB.enc false, (cI .i64).enc 0, (cE eAdr).enc k, cFind.enc (l, id, now)] (rdN true b q) (encRA (uniD b false 0 k (forDec l id now) q).1) (rdN true b (uniD b false 0 k (forDec l id now) q).2) := by
  obtain ⟨W, hW⟩ : ∃ W, uniD b false 0 k (forDec l id now) q = W := ⟨_, rfl⟩
  have eW : W = (if (ipRF b q).1.2 = 0 then (if mcast ((ipRF b q).1.1) = true then ((zeroA, 5), (ipRF b q).2) else (((ipRF b q).1.1, 0), (ipRF b q).2)) else ((zeroA, (ipRF b q).1.2), (ipRF b q).2)) := by
    rw [← hW]
    simp (decide := true) only [uniD, uniV, thenD, prefD, if_true, if_false, true_and, and_true, false_and]
  rw [hW]
  clear hW
  obtain ⟨I, eI⟩ : ∃ I, iidF k = I := ⟨_, rfl⟩
  obtain ⟨N, eN⟩ : ∃ N, ipRF b q = N := ⟨_, rfl⟩
  rw [eN] at eW
  obtain ⟨Mc, eMc⟩ : ∃ x, mcast N.1.1 = x := ⟨_, rfl⟩
  rw [eMc] at eW
  have f0 : (¬ N.1.2 = 0) → W = ((zeroA, N.1.2), N.2) := fun h0 => by rw [eW, if_neg h0]
  have f1 : (N.1.2 = 0) → (Mc = true) → W = ((zeroA, 5), N.2) := fun h0 h1 => by rw [eW, if_pos h0, if_pos h1]
  have f2 : (N.1.2 = 0) → (¬ Mc = true) → W = ((N.1.1, 0), N.2) := fun h0 h1 => by rw [eW, if_pos h0, if_neg h1]
  clear eW
  have g1 : True := trivial
  have g2 : True := trivial
  have g3 : True := trivial
  have g4 : True := trivial
  have g5 : True := trivial
  have g6 : True := trivial
  refine meth_intro (wd := 1) (Q := mkQ LRd3) (by decide) tysOk (q_of LRd3_ok) mixed Tryd.func63 rfl _ (by show 4 + 1 ≤ _; decide) (flatF_nff (encRA_flat _)) (rdN_nf) ?_
  repeat' (first | (apply And.intro <;> intro hc <;> (first | exact Bool.noConfusion hc | (exfalso; first | exact absurd hc (by decide) | exact absurd rfl hc | exact absurd hc (by assumption) | exact absurd (by assumption) hc | exact Bool.noConfusion ((by assumption : I.2 = true).symm.trans hc)) | (simp only [decide_eq_true_eq, decide_eq_false_iff_not, Bool.not_eq_true', Bool.not_eq_false', beq_iff_eq, beq_eq_false_iff_ne, bne_iff_ne, bne_eq_false_iff_eq, Bool.true_eq_false, Bool.false_eq_true, ne_eq, not_true_eq_false] at hc <;> first | exact absurd rfl hc | (exfalso; first | exact absurd hc (by decide) | exact absurd rfl hc | exact absurd hc (by assumption) | exact absurd (by assumption) hc | exact Bool.noConfusion ((by assumption : I.2 = true).symm.trans hc)) | skip) | skip)) | (refine And.intro (by first | exact trivial | decide | omega | (dsimp only; omega) | exact fun _ _ => rfl | exact ⟨by assumption, by first | exact trivial | decide | omega | (dsimp only; omega)⟩) ?_) | (apply And.intro) | (refine Exists.intro b (And.intro ⟨rfl, rfl, by first | exact ⟨by assumption, by decide, by decide⟩ | assumption⟩ ?_)) | (intro s hs; (first | (clear g1; have q : I = s := (hs.trans ((congrArg iidF (rd_adr k)).trans eI)).symm; clear hs; subst q) | (clear g2; have q : s = llP := hs; clear hs; subst q) | (clear g4; have q : N = s := (hs.trans eN).symm; clear hs; subst q) | (clear g6; have q : Mc = s := (by (dsimp only at hs; refine (hs.trans ((congrArg mcast (ip_is (a := N.1.1) (fun j hj => ?_))).trans eMc)).symm; (iterate 16 (rcases j with _ | j; exact rfl)); exact absurd hj (by omega))); clear hs; subst q) | skip)))
  all_goals try (first | exact rfl | exact Nat.le_of_ble_eq_true rfl)
  all_goals first
    | (show (toL eCtx l.length _).length ≤ _; rw [toL_len]; have := hl.n; omega)
    | exact fun _ => rfl
    | (rw [f0 (by assumption)]
       exact ⟨leF_tup ⟨leE_agg rfl (fun i hi => by (iterate 16 (rcases i with _ | i; exact leC_int rfl)); exact absurd hi (by omega)), leC_int rfl, trivial⟩, rdN_le rfl⟩)
    | (rw [f1 (by assumption) (by assumption)]
       exact ⟨leF_tup ⟨leE_agg rfl (fun i hi => by (iterate 16 (rcases i with _ | i; exact leC_int rfl)); exact absurd hi (by omega)), leC_int rfl, trivial⟩, rdN_le rfl⟩)
    | (rw [f2 (by assumption) (fun h => Bool.noConfusion (h.symm.trans (by assumption : Mc = false)))]
       exact ⟨leF_tup ⟨leE_agg rfl (fun i hi => by (iterate 16 (rcases i with _ | i; exact leC_int rfl)); exact absurd hi (by omega)), leC_int rfl, trivial⟩, rdN_le rfl⟩)
    | skip
set_option maxHeartbeats 4000000 in
set_option maxRecDepth 20000 in
theorem unid_f1 (b : List Int) (q : Int) (k : Adr) (l : List Ctx) (id now : Int) (hr : RdOk b q) (hl : bytesL l) : MethOk Tryd.prog 63 [cB.enc false, (cI .i64).enc 1, (cE eAdr).enc k, cFind.enc (l, id, now)] (rdN true b q) (encRA (uniD b false 1 k (forDec l id now) q).1) (rdN true b (uniD b false 1 k (forDec l id now) q).2) := by
  obtain ⟨W, hW⟩ : ∃ W, uniD b false 1 k (forDec l id now) q = W := ⟨_, rfl⟩
  have eW : W = (if (numF b q 8).1.2 = 0 then (if mcast (jn llP.ip (numF b q 8).1.1) = true then ((zeroA, 5), (numF b q 8).2) else ((jn llP.ip (numF b q 8).1.1, 0), (numF b q 8).2)) else ((zeroA, (numF b q 8).1.2), (numF b q 8).2)) := by
    rw [← hW]
    simp (decide := true) only [uniD, uniV, thenD, prefD, if_true, if_false, true_and, and_true, false_and]
    by_cases hN : (numF b q 8).1.2 = 0
    · simp (decide := true) only [hN, if_true, if_false]
    · simp only [hN, if_false]
  rw [hW]
  clear hW
  obtain ⟨I, eI⟩ : ∃ I, iidF k = I := ⟨_, rfl⟩
  obtain ⟨N, eN⟩ : ∃ N, numF b q 8 = N := ⟨_, rfl⟩
  rw [eN] at eW
  have eJ : joinF llP N.1.1 = (jn llP.ip N.1.1, true) := if_pos ⟨llP_v, by decide⟩
  obtain ⟨A, eA'⟩ : ∃ A, jn llP.ip N.1.1 = A := ⟨_, rfl⟩
  rw [eA'] at eW eJ
  obtain ⟨Mc, eMc⟩ : ∃ x, mcast A = x := ⟨_, rfl⟩
  rw [eMc] at eW
  have f0 : (¬ N.1.2 = 0) → W = ((zeroA, N.1.2), N.2) := fun h0 => by rw [eW, if_neg h0]
  have f1 : (N.1.2 = 0) → (Mc = true) → W = ((zeroA, 5), N.2) := fun h0 h1 => by rw [eW, if_pos h0, if_pos h1]
  have f2 : (N.1.2 = 0) → (¬ Mc = true) → W = ((A, 0), N.2) := fun h0 h1 => by rw [eW, if_pos h0, if_neg h1]
  clear eW
  have g1 : True := trivial
  have g2 : True := trivial
  have g3 : True := trivial
  have g4 : True := trivial
  have g5 : True := trivial
  have g6 : True := trivial
  refine meth_intro (wd := 1) (Q := mkQ LRd3) (by decide) tysOk (q_of LRd3_ok) mixed Tryd.func63 rfl _ (by show 4 + 1 ≤ _; decide) (flatF_nff (encRA_flat _)) (rdN_nf) ?_
  repeat' (first | (apply And.intro <;> intro hc <;> (first | exact Bool.noConfusion hc | (exfalso; first | exact absurd hc (by decide) | exact absurd rfl hc | exact absurd hc (by assumption) | exact absurd (by assumption) hc | exact Bool.noConfusion ((by assumption : I.2 = true).symm.trans hc)) | (simp only [decide_eq_true_eq, decide_eq_false_iff_not, Bool.not_eq_true', Bool.not_eq_false', beq_iff_eq, beq_eq_false_iff_ne, bne_iff_ne, bne_eq_false_iff_eq, Bool.true_eq_false, Bool.false_eq_true, ne_eq, not_true_eq_false] at hc <;> first | exact absurd rfl hc | (exfalso; first | exact absurd hc (by decide) | exact absurd rfl hc | exact absurd hc (by assumption) | exact absurd (by assumption) hc | exact Bool.noConfusion ((by assumption : I.2 = true).symm.trans hc)) | skip) | skip)) | (refine And.intro (by first | exact trivial | decide | omega | (dsimp only; omega) | exact fun _ _ => rfl | exact ⟨by assumption, by first | exact trivial | decide | omega | (dsimp only; omega)⟩) ?_) | (apply And.intro) | (refine Exists.intro b (And.intro ⟨rfl, rfl, by first | exact ⟨by assumption, by decide, by decide⟩ | assumption⟩ ?_)) | (intro s hs; (first | (clear g1; have q : I = s := (hs.trans ((congrArg iidF (rd_adr k)).trans eI)).symm; clear hs; subst q) | (clear g2; have q : s = llP := hs; clear hs; subst q) | (clear g4; have q : N = s := (hs.trans eN).symm; clear hs; subst q) | (clear g5; have q : s = (A, true) := (by (dsimp only at hs; refine hs.trans ((congrArg (joinF · N.1.1) (pfx_is (p := llP) (fun j hj => ?_))).trans eJ); (iterate 17 (rcases j with _ | j; exact rfl)); exact absurd hj (by omega))); clear hs; subst q) | (clear g6; have q : Mc = s := (by (dsimp only at hs; refine (hs.trans ((congrArg mcast (ip_is (a := A) (fun j hj => ?_))).trans eMc)).symm; (iterate 16 (rcases j with _ | j; exact rfl)); exact absurd hj (by omega))); clear hs; subst q) | skip)))
  all_goals try (first | exact rfl | exact Nat.le_of_ble_eq_true rfl)
  all_goals first
    | (show (toL eCtx l.length _).length ≤ _; rw [toL_len]; have := hl.n; omega)
    | exact fun _ => rfl
    | (rw [f0 (by assumption)]
       exact ⟨leF_tup ⟨leE_agg rfl (fun i hi => by (iterate 16 (rcases i with _ | i; exact leC_int rfl)); exact absurd hi (by omega)), leC_int rfl, trivial⟩, rdN_le rfl⟩)
    | (rw [f1 (by assumption) (by assumption)]
       exact ⟨leF_tup ⟨leE_agg rfl (fun i hi => by (iterate 16 (rcases i with _ | i; exact leC_int rfl)); exact absurd hi (by omega)), leC_int rfl, trivial⟩, rdN_le rfl⟩)
    | (rw [f2 (by assumption) (fun h => Bool.noConfusion (h.symm.trans (by assumption : Mc = false)))]
       exact ⟨leF_tup ⟨leE_agg rfl (fun i hi => by (iterate 16 (rcases i with _ | i; exact leC_int rfl)); exact absurd hi (by omega)), leC_int rfl, trivial⟩, rdN_le rfl⟩)
    | skip
set_option maxHeartbeats 4000000 in
set_option maxRecDepth 20000 in
theorem unid_f2 (b : List Int) (q : Int) (k : Adr) (l : List Ctx) (id now : Int) (hr : RdOk b q) (hl : bytesL l) : MethOk Tryd.prog 63 [cB.enc false, (cI .i64).enc 2, (cE eAdr).enc k, cFind.enc (l, id, now)] (rdN true b q) (encRA (uniD b false 2 k (forDec l id now) q).1) (rdN true b (uniD b false 2 k (forDec l id now) q).2) := by
  obtain ⟨W, hW⟩ : ∃ W, uniD b false 2 k (forDec l id now) q = W := ⟨_, rfl⟩
  have eW : W = (if (numF b q 2).1.2 = 0 then (if mcast (jn llP.ip ((numF b q 2).1.1 + 1099478073344)) = true then ((zeroA, 5), (numF b q 2).2) else ((jn llP.ip ((numF b q 2).1.1 + 1099478073344), 0), (numF b q 2).2)) else ((zeroA, (numF b q 2).1.2), (numF b q 2).2)) := by
    rw [← hW]
    simp (decide := true) only [uniD, uniV, thenD, prefD, if_true, if_false, true_and, and_true, false_and]
    by_cases hN : (numF b q 2).1.2 = 0
    · simp (decide := true) only [hN, if_true, if_false]
    · simp only [hN, if_false]
  rw [hW]
  clear hW
  obtain ⟨I, eI⟩ : ∃ I, iidF k = I := ⟨_, rfl⟩
  have v2 := num2_v (q := q) hr.bl
  obtain ⟨N, eN⟩ : ∃ N, numF b q 2 = N := ⟨_, rfl⟩
  rw [eN] at eW
  rw [eN] at v2
  have w2 : IntKind.u64.wrap (N.1.1 + 1099478073344) = N.1.1 + 1099478073344 := IntWalk.u64_in _ (by omega)
  have eJ : joinF llP (N.1.1 + 1099478073344) = (jn llP.ip (N.1.1 + 1099478073344), true) := if_pos ⟨llP_v, by decide⟩
  obtain ⟨A, eA'⟩ : ∃ A, jn llP.ip (N.1.1 + 1099478073344) = A := ⟨_, rfl⟩
  rw [eA'] at eW eJ
  obtain ⟨Mc, eMc⟩ : ∃ x, mcast A = x := ⟨_, rfl⟩
  rw [eMc] at eW
  have f0 : (¬ N.1.2 = 0) → W = ((zeroA, N.1.2), N.2) := fun h0 => by rw [eW, if_neg h0]
  have f1 : (N.1.2 = 0) → (Mc = true) → W = ((zeroA, 5), N.2) := fun h0 h1 => by rw [eW, if_pos h0, if_pos h1]
  have f2 : (N.1.2 = 0) → (¬ Mc = true) → W = ((A, 0), N.2) := fun h0 h1 => by rw [eW, if_pos h0, if_neg h1]
  clear eW
  have g1 : True := trivial
  have g2 : True := trivial
  have g3 : True := trivial
  have g4 : True := trivial
  have g5 : True := trivial
  have g6 : True := trivial
  refine meth_intro (wd := 1) (Q := mkQ LRd3) (by decide) tysOk (q_of LRd3_ok) mixed Tryd.func63 rfl _ (by show 4 + 1 ≤ _; decide) (flatF_nff (encRA_flat _)) (rdN_nf) ?_
  repeat' (first | (apply And.intro <;> intro hc <;> (first | exact Bool.noConfusion hc | (exfalso; first | exact absurd hc (by decide) | exact absurd rfl hc | exact absurd hc (by assumption) | exact absurd (by assumption) hc | exact Bool.noConfusion ((by assumption : I.2 = true).symm.trans hc)) | (simp only [decide_eq_true_eq, decide_eq_false_iff_not, Bool.not_eq_true', Bool.not_eq_false', beq_iff_eq, beq_eq_false_iff_ne, bne_iff_ne, bne_eq_false_iff_eq, Bool.true_eq_false, Bool.false_eq_true, ne_eq, not_true_eq_false] at hc <;> first | exact absurd rfl hc | (exfalso; first | exact absurd hc (by decide) | exact absurd rfl hc | exact absurd hc (by assumption) | exact absurd (by assumption) hc | exact Bool.noConfusion ((by assumption : I.2 = true).symm.trans hc)) | skip) | skip)) | (refine And.intro (by first | exact trivial | decide | omega | (dsimp only; omega) | exact fun _ _ => rfl | exact ⟨by assumption, by first | exact trivial | decide | omega | (dsimp only; omega)⟩) ?_) | (apply And.intro) | (refine Exists.intro b (And.intro ⟨rfl, rfl, by first | exact ⟨by assumption, by decide, by decide⟩ | assumption⟩ ?_)) | (intro s hs; (first | (clear g1; have q : I = s := (hs.trans ((congrArg iidF (rd_adr k)).trans eI)).symm; clear hs; subst q) | (clear g2; have q : s = llP := hs; clear hs; subst q) | (clear g4; have q : N = s := (hs.trans eN).symm; clear hs; subst q) | (clear g5; have q : s = (A, true) := (by (dsimp only at hs; refine hs.trans ((congrArg (joinF · (IntKind.u64.wrap (N.1.1 + 1099478073344))) (pfx_is (p := llP) (fun j hj => ?_))).trans ((congrArg (joinF llP) w2).trans eJ)); (iterate 17 (rcases j with _ | j; exact rfl)); exact absurd hj (by omega))); clear hs; subst q) | (clear g6; have q : Mc = s := (by (dsimp only at hs; refine (hs.trans ((congrArg mcast (ip_is (a := A) (fun j hj => ?_))).trans eMc)).symm; (iterate 16 (rcases j with _ | j; exact rfl)); exact absurd hj (by omega))); clear hs; subst q) | skip)))
  all_goals try (first | exact rfl | exact Nat.le_of_ble_eq_true rfl)
  all_goals first
    | (show (toL eCtx l.length _).length ≤ _; rw [toL_len]; have := hl.n; omega)
    | exact fun _ => rfl
    | (rw [f0 (by assumption)]
       exact ⟨leF_tup ⟨leE_agg rfl (fun i hi => by (iterate 16 (rcases i with _ | i; exact leC_int rfl)); exact absurd hi (by omega)), leC_int rfl, trivial⟩, rdN_le rfl⟩)
    | (rw [f1 (by assumption) (by assumption)]
       exact ⟨leF_tup ⟨leE_agg rfl (fun i hi => by (iterate 16 (rcases i with _ | i; exact leC_int rfl)); exact absurd hi (by omega)), leC_int rfl, trivial⟩, rdN_le rfl⟩)
    | (rw [f2 (by assumption) (fun h => Bool.noConfusion (h.symm.trans (by assumption : Mc = false)))]
       exact ⟨leF_tup ⟨leE_agg rfl (fun i hi => by (iterate 16 (rcases i with _ | i; exact leC_int rfl)); exact absurd hi (by omega)), leC_int rfl, trivial⟩, rdN_le rfl⟩)
    | skip
set_option maxHeartbeats 4000000 in
set_option maxRecDepth 20000 in
theorem unid_f3 (b : List Int) (q : Int) (k : Adr) (l : List Ctx) (id now : Int) (hr : RdOk b q) (hl : bytesL l) : MethOk Tryd.prog 63 [cB.enc false, (cI .i64).enc 3, (cE eAdr).enc k, cFind.enc (l, id, now)] (rdN true b q) (encRA (uniD b false 3 k (forDec l id now) q).1) (rdN true b (uniD b false 3 k (forDec l id now) q).2) := by
  obtain ⟨W, hW⟩ : ∃ W, uniD b false 3 k (forDec l id now) q = W := ⟨_, rfl⟩
  have eW : W = (if (iidF k).2 = false then ((zeroA, 5), q) else (if mcast (jn llP.ip (iidF k).1) = true then ((zeroA, 5), q) else ((jn llP.ip (iidF k).1, 0), q))) := by
    rw [← hW]
    simp (decide := true) only [uniD, uniV, thenD, prefD, if_true, if_false, true_and, and_true, false_and]
  rw [hW]
  clear hW
  obtain ⟨I, eI⟩ : ∃ I, iidF k = I := ⟨_, rfl⟩
  rw [eI] at eW
  have eJ : joinF llP I.1 = (jn llP.ip I.1, true) := if_pos ⟨llP_v, by decide⟩
  obtain ⟨A, eA'⟩ : ∃ A, jn llP.ip I.1 = A := ⟨_, rfl⟩
  rw [eA'] at eW eJ
  obtain ⟨Mc, eMc⟩ : ∃ x, mcast A = x := ⟨_, rfl⟩
  rw [eMc] at eW
  have f0 : (I.2 = false) → W = ((zeroA, 5), q) := fun h0 => by rw [eW, if_pos h0]
  have f1 : (¬ I.2 = false) → (Mc = true) → W = ((zeroA, 5), q) := fun h0 h1 => by rw [eW, if_neg h0, if_pos h1]
  have f2 : (¬ I.2 = false) → (¬ Mc = true) → W = ((A, 0), q) := fun h0 h1 => by rw [eW, if_neg h0, if_neg h1]
  clear eW
  have g1 : True := trivial
  have g2 : True := trivial
  have g3 : True := trivial
  have g4 : True := trivial
  have g5 : True := trivial
  have g6 : True := trivial
  refine meth_intro (wd := 1) (Q := mkQ LRd3) (by decide) tysOk (q_of LRd3_ok) mixed Tryd.func63 rfl _ (by show 4 + 1 ≤ _; decide) (flatF_nff (encRA_flat _)) (rdN_nf) ?_
  repeat' (first | (apply And.intro <;> intro hc <;> (first | exact Bool.noConfusion hc | (exfalso; first | exact absurd hc (by decide) | exact absurd rfl hc | exact absurd hc (by assumption) | exact absurd (by assumption) hc | exact Bool.noConfusion ((by assumption : I.2 = true).symm.trans hc)) | (simp only [decide_eq_true_eq, decide_eq_false_iff_not, Bool.not_eq_true', Bool.not_eq_false', beq_iff_eq, beq_eq_false_iff_ne, bne_iff_ne, bne_eq_false_iff_eq, Bool.true_eq_false, Bool.false_eq_true, ne_eq, not_true_eq_false] at hc <;> first | exact absurd rfl hc | (exfalso; first | exact absurd hc (by decide) | exact absurd rfl hc | exact absurd hc (by assumption) | exact absurd (by assumption) hc | exact Bool.noConfusion ((by assumption : I.2 = true).symm.trans hc)) | skip) | skip)) | (refine And.intro (by first | exact trivial | decide | omega | (dsimp only; omega) | exact fun _ _ => rfl | exact ⟨by assumption, by first | exact trivial | decide | omega | (dsimp only; omega)⟩) ?_) | (apply And.intro) | (refine Exists.intro b (And.intro ⟨rfl, rfl, by first | exact ⟨by assumption, by decide, by decide⟩ | assumption⟩ ?_)) | (intro s hs; (first | (clear g1; have q : I = s := (hs.trans ((congrArg iidF (rd_adr k)).trans eI)).symm; clear hs; subst q) | (clear g2; have q : s = llP := hs; clear hs; subst q) | (clear g5; have q : s = (A, true) := (by (dsimp only at hs; refine hs.trans ((congrArg (joinF · I.1) (pfx_is (p := llP) (fun j hj => ?_))).trans eJ); (iterate 17 (rcases j with _ | j; exact rfl)); exact absurd hj (by omega))); clear hs; subst q) | (clear g6; have q : Mc = s := (by (dsimp only at hs; refine (hs.trans ((congrArg mcast (ip_is (a := A) (fun j hj => ?_))).trans eMc)).symm; (iterate 16 (rcases j with _ | j; exact rfl)); exact absurd hj (by omega))); clear hs; subst q) | skip)))
  all_goals try (first | exact rfl | exact Nat.le_of_ble_eq_true rfl)
  all_goals first
    | (show (toL eCtx l.length _).length ≤ _; rw [toL_len]; have := hl.n; omega)
    | exact fun _ => rfl
    | (rw [f0 (by assumption)]
       exact ⟨leF_tup ⟨leE_agg rfl (fun i hi => by (iterate 16 (rcases i with _ | i; exact leC_int rfl)); exact absurd hi (by omega)), leC_int rfl, trivial⟩, rdN_le rfl⟩)
    | (rw [f1 (fun h => Bool.noConfusion (h.symm.trans (by assumption : I.2 = true))) (by assumption)]
       exact ⟨leF_tup ⟨leE_agg rfl (fun i hi => by (iterate 16 (rcases i with _ | i; exact leC_int rfl)); exact absurd hi (by omega)), leC_int rfl, trivial⟩, rdN_le rfl⟩)
    | (rw [f2 (fun h => Bool.noConfusion (h.symm.trans (by assumption : I.2 = true))) (fun h => Bool.noConfusion (h.symm.trans (by assumption : Mc = false)))]
       exact ⟨leF_tup ⟨leE_agg rfl (fun i hi => by (iterate 16 (rcases i with _ | i; exact leC_int rfl)); exact absurd hi (by omega)), leC_int rfl, trivial⟩, rdN_le rfl⟩)
    | skip
end Go.Proofs.YtjknkfjhcapocaaDoor.AX



/- The program's reader: group. (Printed by gen/rdgrp.py.) -/
namespace Go.Proofs.YtjknkfjhcapocaaDoor.AX
open Go.RowKit
set_option linter.unusedVariables false
set_option linter.unusedSimpArgs false
def grpB (n : Nat) (v : Int) : Fin 16 → Int := fun i => if i.1 = 0 then 255 else if i.1 = 1 then (if n = 1 then 2 else byteM v n 0) else if i.1 + n < 17 ∧ n ≠ 1 ∨ i.1 < 15 ∧ n = 1 then 0 else byteM v n (i.1 + n - 16)
theorem getD_byte {w : List Int} {n k : Nat} (hw : BL w) (hn : w.length = n) (h8 : n ≤ 8) (hk : k < n) : w.getD k default = byteM (beVal w) n k := by
  have e : beM (beVal w) n = w := (beM_eq _ _ h8).trans (beN_beVal n w hw hn)
  conv => lhs; rw [← e]
  unfold beM
  rw [List.getD_eq_getElem?_getD, List.getElem?_map, List.getElem?_range hk]; rfl
theorem grpV_eq {w : List Int} {n : Nat} (hw : BL w) (hn : w.length = n) (h1 : 1 ≤ n) (h8 : n ≤ 8) : grpV n w = grpB n (beVal w) := by
  funext i
  have hi := i.2
  unfold grpV grpB
  by_cases c0 : i.1 = 0
  · rw [if_pos c0, if_pos c0]
  · rw [if_neg c0, if_neg c0]
    by_cases c1 : i.1 = 1
    · rw [if_pos c1, if_pos c1]
      by_cases c2 : n = 1
      · rw [if_pos c2, if_pos c2]
      · rw [if_neg c2, if_neg c2]
        exact getD_byte hw hn h8 (by omega)
    · rw [if_neg c1, if_neg c1]
      by_cases c2 : i.1 + n < 17 ∧ n ≠ 1 ∨ i.1 < 15 ∧ n = 1
      · rw [if_pos c2, if_pos c2]
      · rw [if_neg c2, if_neg c2]
        exact getD_byte hw hn h8 (by omega)
theorem num_w {b : List Int} {q n : Int} (h : (numF b q n).1.2 = 0) : (numF b q n).1.1 = beVal ((b.drop q.toNat).take n.toNat) ∧ ((b.drop q.toNat).take n.toNat).length = n.toNat := by
  unfold numF at h ⊢
  split at h
  · rename_i g
    have hU := uint_true g
    rw [if_pos g]
    refine ⟨?_, by rw [List.length_take, List.length_drop]; omega⟩
    show (uintF b q n).1 = _
    unfold uintF
    rw [if_pos hU]
  · cases h
theorem grp_val {b : List Int} {q n : Int} (hb : BL b) (h : (numF b q n).1.2 = 0) (h1 : 1 ≤ n) (h8 : n ≤ 8) : grpV n.toNat ((b.drop q.toNat).take n.toNat) = grpB n.toNat (numF b q n).1.1 := by
  obtain ⟨e1, e2⟩ := num_w h
  rw [e1]
  exact grpV_eq ((hb.drop _).take _) e2 (by omega) (by omega)
set_option maxRecDepth 20000 in
theorem grpd_0 (b : List Int) (q : Int) (hr : RdOk b q) : MethOk Tryd.prog 64 [(cI .i64).enc 0] (rdN true b q) (encRA (grpD b 0 q).1) (rdN true b (grpD b 0 q).2) := by
  obtain ⟨W, hW⟩ : ∃ W, grpD b 0 q = W := ⟨_, rfl⟩
  have eW : W = (if (ipRF b q).1.2 = 0 then (if mcast (ipRF b q).1.1 = true then (((ipRF b q).1.1, 0), (ipRF b q).2) else (((ipRF b q).1.1, 5), (ipRF b q).2)) else ((zeroA, (ipRF b q).1.2), (ipRF b q).2)) := hW.symm
  have ez : ¬ (ipRF b q).1.2 = 0 → (ipRF b q).1.1 = zeroA := fun h => by
    unfold ipRF at h ⊢
    split
    · rfl
    · rename_i g; rw [if_neg g] at h; exact absurd rfl h
  rw [hW]
  obtain ⟨N, eN⟩ : ∃ N, ipRF b q = N := ⟨_, rfl⟩
  rw [eN] at eW ez
  obtain ⟨Mc, eMc⟩ : ∃ x, mcast N.1.1 = x := ⟨_, rfl⟩
  rw [eMc] at eW
  have f0 : ¬ N.1.2 = 0 → W = ((N.1.1, N.1.2), N.2) := fun h => by rw [eW, if_neg h, ez h]
  have f1 : N.1.2 = 0 → Mc = true → W = ((N.1.1, 0), N.2) := fun h g => by rw [eW, if_pos h, if_pos g]
  have f2 : N.1.2 = 0 → Mc = false → W = ((N.1.1, 5), N.2) := fun h g => by rw [eW, if_pos h, if_neg (by rw [g]; decide)]
  clear eW hW
  have g1 : True := trivial
  refine meth_intro (wd := 1) (Q := mkQ LRd3) (by decide) tysOk (q_of LRd3_ok) mixed Tryd.func64 rfl _ (by show 1 + 1 ≤ _; decide) (flatF_nff (encRA_flat _)) (rdN_nf) ?_
  repeat' (first | (apply And.intro <;> intro hc <;> (first | exact Bool.noConfusion hc | (exfalso; first | exact absurd hc (by decide) | exact absurd rfl hc | exact absurd hc (by assumption) | exact absurd (by assumption) hc) | (simp only [decide_eq_true_eq, decide_eq_false_iff_not, Bool.not_eq_true', Bool.not_eq_false', beq_iff_eq, beq_eq_false_iff_ne, bne_iff_ne, bne_eq_false_iff_eq, Bool.true_eq_false, Bool.false_eq_true, ne_eq, not_true_eq_false] at hc <;> first | exact absurd rfl hc | (exfalso; first | exact absurd hc (by decide) | exact absurd rfl hc | exact absurd hc (by assumption) | exact absurd (by assumption) hc) | skip) | skip)) | (refine And.intro (by first | exact trivial | decide | omega | (dsimp only; omega) | exact fun _ _ => rfl | exact ⟨by assumption, by first | exact trivial | decide | omega | (dsimp only; omega)⟩) ?_) | (apply And.intro) | (refine Exists.intro b (And.intro ⟨rfl, rfl, by first | exact ⟨by assumption, by decide, by decide⟩ | assumption⟩ ?_)) | (intro s hs; (first | (clear g1; have q : N = s := (hs.trans eN).symm; clear hs; subst q) | (have q : Mc = s := (by (dsimp only at hs; refine (hs.trans ((congrArg mcast (ip_is (a := N.1.1) (fun j hj => ?_))).trans eMc)).symm; (iterate 16 (rcases j with _ | j; exact rfl)); exact absurd hj (by omega))); clear hs; subst q) | skip)))
  all_goals try (first | exact rfl | exact Nat.le_of_ble_eq_true rfl)
  all_goals first
    | (rw [f0 (by assumption)]
       exact ⟨leF_tup ⟨leE_agg rfl (fun i hi => by (iterate 16 (rcases i with _ | i; exact leC_int rfl)); exact absurd hi (by omega)), leC_int rfl, trivial⟩, rdN_le rfl⟩)
    | (rw [f1 (by assumption) (by assumption)]
       exact ⟨leF_tup ⟨leE_agg rfl (fun i hi => by (iterate 16 (rcases i with _ | i; exact leC_int rfl)); exact absurd hi (by omega)), leC_int (by assumption), trivial⟩, rdN_le rfl⟩)
    | (rw [f2 (by assumption) (by assumption)]
       exact ⟨leF_tup ⟨leE_agg rfl (fun i hi => by (iterate 16 (rcases i with _ | i; exact leC_int rfl)); exact absurd hi (by omega)), leC_int rfl, trivial⟩, rdN_le rfl⟩)
    | skip
set_option maxRecDepth 20000 in
theorem grpd_1 (b : List Int) (q : Int) (hr : RdOk b q) : MethOk Tryd.prog 64 [(cI .i64).enc 1] (rdN true b q) (encRA (grpD b 1 q).1) (rdN true b (grpD b 1 q).2) := by
  obtain ⟨W, hW⟩ : ∃ W, grpD b 1 q = W := ⟨_, rfl⟩
  have eW : W = (if (numF b q 6).1.2 = 0 then ((grpV 6 ((b.drop q.toNat).take 6), 0), (numF b q 6).2) else ((zeroA, (numF b q 6).1.2), (numF b q 6).2)) := hW.symm
  have eG := grp_val (q := q) (n := 6) hr.bl
  rw [hW]
  have f0 : ¬ (numF b q 6).1.2 = 0 → W = ((zeroA, (numF b q 6).1.2), (numF b q 6).2) := fun h => by rw [eW, if_neg h]
  have f1 : (numF b q 6).1.2 = 0 → W = ((grpB 6 (numF b q 6).1.1, 0), (numF b q 6).2) := fun h => by
    rw [eW, if_pos h]
    exact congrArg (fun x => ((x, 0), (numF b q 6).2)) (eG h (by decide) (by decide))
  clear eW hW eG
  obtain ⟨N, eN⟩ : ∃ N, numF b q 6 = N := ⟨_, rfl⟩
  rw [eN] at f0 f1
  have g1 : True := trivial
  refine meth_intro (wd := 1) (Q := mkQ LRd3) (by decide) tysOk (q_of LRd3_ok) mixed Tryd.func64 rfl _ (by show 1 + 1 ≤ _; decide) (flatF_nff (encRA_flat _)) (rdN_nf) ?_
  repeat' (first | (apply And.intro <;> intro hc <;> (first | exact Bool.noConfusion hc | (exfalso; first | exact absurd hc (by decide) | exact absurd rfl hc | exact absurd hc (by assumption) | exact absurd (by assumption) hc) | (simp only [decide_eq_true_eq, decide_eq_false_iff_not, Bool.not_eq_true', Bool.not_eq_false', beq_iff_eq, beq_eq_false_iff_ne, bne_iff_ne, bne_eq_false_iff_eq, Bool.true_eq_false, Bool.false_eq_true, ne_eq, not_true_eq_false] at hc <;> first | exact absurd rfl hc | (exfalso; first | exact absurd hc (by decide) | exact absurd rfl hc | exact absurd hc (by assumption) | exact absurd (by assumption) hc) | skip) | skip)) | (refine And.intro (by first | exact trivial | decide | omega | (dsimp only; omega) | exact fun _ _ => rfl | exact ⟨by assumption, by first | exact trivial | decide | omega | (dsimp only; omega)⟩) ?_) | (apply And.intro) | (refine Exists.intro b (And.intro ⟨rfl, rfl, by first | exact ⟨by assumption, by decide, by decide⟩ | assumption⟩ ?_)) | (intro s hs; (first | (clear g1; have q : N = s := (hs.trans eN).symm; clear hs; subst q) | skip)))
  all_goals try (first | exact rfl | exact Nat.le_of_ble_eq_true rfl)
  · rw [f0 (by assumption)]
    exact ⟨leF_tup ⟨leE_agg rfl (fun i hi => by (iterate 16 (rcases i with _ | i; exact leC_int rfl)); exact absurd hi (by omega)), leC_int rfl, trivial⟩, rdN_le rfl⟩
  · refine loop_intro (mono_of LRd3_ok) (fun s : {i : Nat // i ≤ 5} => (⟨[(4, one (.ptr 1 0 0 false)), (10, one (.int .u64 N.1.1)), (12, one (.ptr 23 0 0 false)), (56, one (.int .i64 5)), (57, one (.int .i64 (s.1 : Int)))],
      [(0, some (rdN true b N.2)), (1, some ⟨37, 1, 16, true, fun _ _ => .top⟩), (23, some ⟨37, 1, 16, true, fun _ j => .int .u8 (bif Nat.beq j 0 then 255 else bif Nat.beq j 1 then IntKind.u8.wrap (shrI .u64 N.1.1 (IntKind.i64.wrap (8 * 5))) else bif Nat.ble (16 - s.1) j then IntKind.u8.wrap (shrI .u64 N.1.1 (IntKind.i64.wrap (8 * ((15 - j : Nat) : Int)))) else 0)⟩)], 24⟩ : Hd)) (fun s => 5 - s.1) (fun _ => rfl) ?_ ⟨0, by omega⟩ [] ?_
    · rintro ⟨i, hi⟩
      rcases i with _ | i
      · repeat' (first | (apply And.intro <;> intro hc <;> (first | exact Bool.noConfusion hc | (exfalso; first | exact absurd hc (by decide) | exact hc (by decide)) | (simp only [decide_eq_true_eq, decide_eq_false_iff_not, Bool.not_eq_true', Bool.not_eq_false', beq_iff_eq, beq_eq_false_iff_ne, bne_iff_ne, bne_eq_false_iff_eq, Bool.true_eq_false, Bool.false_eq_true, ne_eq, not_true_eq_false] at hc <;> first | exact absurd rfl hc | (exfalso; first | exact absurd hc (by decide) | exact hc (by decide)) | skip) | skip)) | (refine And.intro (by first | exact trivial | decide | omega | (dsimp only; omega) | exact fun _ _ => rfl | exact ⟨by assumption, by first | exact trivial | decide | omega | (dsimp only; omega)⟩) ?_) | (apply And.intro) | (intro s hs; skip))
        all_goals try (first | (dsimp only; decide) | exact Nat.le_of_ble_eq_true rfl | exact rfl)
        all_goals (refine ⟨⟨1, by omega⟩, [], by dsimp only; omega, rfl, ?_, ?_⟩)
        all_goals skip
        · repeat' (first | exact trivial | exact rfl | exact leF_ptr rfl | exact leF_int rfl | exact leF_bool rfl | exact leF_cl (cl_slB _ _) | exact leF_cl (cl_slR _ _) | exact leF_cl (cl_ll _ _) | exact leF_c (leC_os rfl rfl) | refine leF_int ?_ | refine leF_bool ?_ | exact leN_varA (fun _ _ => (Elem.flat _ _ _).le) | exact leN_varA (fun _ _ => leC_top) | apply And.intro)
        · repeat' (first | exact trivial | exact rfl | exact leF_ptr rfl | exact leF_int rfl | exact leF_bool rfl | exact leF_cl (cl_slB _ _) | exact leF_cl (cl_slR _ _) | exact leF_cl (cl_ll _ _) | exact leF_c (leC_os rfl rfl) | refine leF_int ?_ | refine leF_bool ?_ | exact leN_varA (fun _ _ => (Elem.flat _ _ _).le) | exact leN_varA (fun _ _ => leC_top) | apply And.intro)
          all_goals first
            | exact rdN_le rfl
            | (refine leN_var ?_; repeat' (first | exact trivial | exact rfl | exact leC_int rfl | exact leC_bool rfl | refine leE_all ?_ | exact leC_bool (by assumption) | apply And.intro))
      rcases i with _ | i
      · repeat' (first | (apply And.intro <;> intro hc <;> (first | exact Bool.noConfusion hc | (exfalso; first | exact absurd hc (by decide) | exact hc (by decide)) | (simp only [decide_eq_true_eq, decide_eq_false_iff_not, Bool.not_eq_true', Bool.not_eq_false', beq_iff_eq, beq_eq_false_iff_ne, bne_iff_ne, bne_eq_false_iff_eq, Bool.true_eq_false, Bool.false_eq_true, ne_eq, not_true_eq_false] at hc <;> first | exact absurd rfl hc | (exfalso; first | exact absurd hc (by decide) | exact hc (by decide)) | skip) | skip)) | (refine And.intro (by first | exact trivial | decide | omega | (dsimp only; omega) | exact fun _ _ => rfl | exact ⟨by assumption, by first | exact trivial | decide | omega | (dsimp only; omega)⟩) ?_) | (apply And.intro) | (intro s hs; skip))
        all_goals try (first | (dsimp only; decide) | exact Nat.le_of_ble_eq_true rfl | exact rfl)
        all_goals (refine ⟨⟨2, by omega⟩, [], by dsimp only; omega, rfl, ?_, ?_⟩)
        all_goals skip
        · repeat' (first | exact trivial | exact rfl | exact leF_ptr rfl | exact leF_int rfl | exact leF_bool rfl | exact leF_cl (cl_slB _ _) | exact leF_cl (cl_slR _ _) | exact leF_cl (cl_ll _ _) | exact leF_c (leC_os rfl rfl) | refine leF_int ?_ | refine leF_bool ?_ | exact leN_varA (fun _ _ => (Elem.flat _ _ _).le) | exact leN_varA (fun _ _ => leC_top) | apply And.intro)
        · repeat' (first | exact trivial | exact rfl | exact leF_ptr rfl | exact leF_int rfl | exact leF_bool rfl | exact leF_cl (cl_slB _ _) | exact leF_cl (cl_slR _ _) | exact leF_cl (cl_ll _ _) | exact leF_c (leC_os rfl rfl) | refine leF_int ?_ | refine leF_bool ?_ | exact leN_varA (fun _ _ => (Elem.flat _ _ _).le) | exact leN_varA (fun _ _ => leC_top) | apply And.intro)
          all_goals first
            | exact rdN_le rfl
            | (refine leN_var ?_; repeat' (first | exact trivial | exact rfl | exact leC_int rfl | exact leC_bool rfl | refine leE_all ?_ | exact leC_bool (by assumption) | apply And.intro))
      rcases i with _ | i
      · repeat' (first | (apply And.intro <;> intro hc <;> (first | exact Bool.noConfusion hc | (exfalso; first | exact absurd hc (by decide) | exact hc (by decide)) | (simp only [decide_eq_true_eq, decide_eq_false_iff_not, Bool.not_eq_true', Bool.not_eq_false', beq_iff_eq, beq_eq_false_iff_ne, bne_iff_ne, bne_eq_false_iff_eq, Bool.true_eq_false, Bool.false_eq_true, ne_eq, not_true_eq_false] at hc <;> first | exact absurd rfl hc | (exfalso; first | exact absurd hc (by decide) | exact hc (by decide)) | skip) | skip)) | (refine And.intro (by first | exact trivial | decide | omega | (dsimp only; omega) | exact fun _ _ => rfl | exact ⟨by assumption, by first | exact trivial | decide | omega | (dsimp only; omega)⟩) ?_) | (apply And.intro) | (intro s hs; skip))
        all_goals try (first | (dsimp only; decide) | exact Nat.le_of_ble_eq_true rfl | exact rfl)
        all_goals (refine ⟨⟨3, by omega⟩, [], by dsimp only; omega, rfl, ?_, ?_⟩)
        all_goals skip
        · repeat' (first | exact trivial | exact rfl | exact leF_ptr rfl | exact leF_int rfl | exact leF_bool rfl | exact leF_cl (cl_slB _ _) | exact leF_cl (cl_slR _ _) | exact leF_cl (cl_ll _ _) | exact leF_c (leC_os rfl rfl) | refine leF_int ?_ | refine leF_bool ?_ | exact leN_varA (fun _ _ => (Elem.flat _ _ _).le) | exact leN_varA (fun _ _ => leC_top) | apply And.intro)
        · repeat' (first | exact trivial | exact rfl | exact leF_ptr rfl | exact leF_int rfl | exact leF_bool rfl | exact leF_cl (cl_slB _ _) | exact leF_cl (cl_slR _ _) | exact leF_cl (cl_ll _ _) | exact leF_c (leC_os rfl rfl) | refine leF_int ?_ | refine leF_bool ?_ | exact leN_varA (fun _ _ => (Elem.flat _ _ _).le) | exact leN_varA (fun _ _ => leC_top) | apply And.intro)
          all_goals first
            | exact rdN_le rfl
            | (refine leN_var ?_; repeat' (first | exact trivial | exact rfl | exact leC_int rfl | exact leC_bool rfl | refine leE_all ?_ | exact leC_bool (by assumption) | apply And.intro))
      rcases i with _ | i
      · repeat' (first | (apply And.intro <;> intro hc <;> (first | exact Bool.noConfusion hc | (exfalso; first | exact absurd hc (by decide) | exact hc (by decide)) | (simp only [decide_eq_true_eq, decide_eq_false_iff_not, Bool.not_eq_true', Bool.not_eq_false', beq_iff_eq, beq_eq_false_iff_ne, bne_iff_ne, bne_eq_false_iff_eq, Bool.true_eq_false, Bool.false_eq_true, ne_eq, not_true_eq_false] at hc <;> first | exact absurd rfl hc | (exfalso; first | exact absurd hc (by decide) | exact hc (by decide)) | skip) | skip)) | (refine And.intro (by first | exact trivial | decide | omega | (dsimp only; omega) | exact fun _ _ => rfl | exact ⟨by assumption, by first | exact trivial | decide | omega | (dsimp only; omega)⟩) ?_) | (apply And.intro) | (intro s hs; skip))
        all_goals try (first | (dsimp only; decide) | exact Nat.le_of_ble_eq_true rfl | exact rfl)
        all_goals (refine ⟨⟨4, by omega⟩, [], by dsimp only; omega, rfl, ?_, ?_⟩)
        all_goals skip
        · repeat' (first | exact trivial | exact rfl | exact leF_ptr rfl | exact leF_int rfl | exact leF_bool rfl | exact leF_cl (cl_slB _ _) | exact leF_cl (cl_slR _ _) | exact leF_cl (cl_ll _ _) | exact leF_c (leC_os rfl rfl) | refine leF_int ?_ | refine leF_bool ?_ | exact leN_varA (fun _ _ => (Elem.flat _ _ _).le) | exact leN_varA (fun _ _ => leC_top) | apply And.intro)
        · repeat' (first | exact trivial | exact rfl | exact leF_ptr rfl | exact leF_int rfl | exact leF_bool rfl | exact leF_cl (cl_slB _ _) | exact leF_cl (cl_slR _ _) | exact leF_cl (cl_ll _ _) | exact leF_c (leC_os rfl rfl) | refine leF_int ?_ | refine leF_bool ?_ | exact leN_varA (fun _ _ => (Elem.flat _ _ _).le) | exact leN_varA (fun _ _ => leC_top) | apply And.intro)
          all_goals first
            | exact rdN_le rfl
            | (refine leN_var ?_; repeat' (first | exact trivial | exact rfl | exact leC_int rfl | exact leC_bool rfl | refine leE_all ?_ | exact leC_bool (by assumption) | apply And.intro))
      rcases i with _ | i
      · repeat' (first | (apply And.intro <;> intro hc <;> (first | exact Bool.noConfusion hc | (exfalso; first | exact absurd hc (by decide) | exact hc (by decide)) | (simp only [decide_eq_true_eq, decide_eq_false_iff_not, Bool.not_eq_true', Bool.not_eq_false', beq_iff_eq, beq_eq_false_iff_ne, bne_iff_ne, bne_eq_false_iff_eq, Bool.true_eq_false, Bool.false_eq_true, ne_eq, not_true_eq_false] at hc <;> first | exact absurd rfl hc | (exfalso; first | exact absurd hc (by decide) | exact hc (by decide)) | skip) | skip)) | (refine And.intro (by first | exact trivial | decide | omega | (dsimp only; omega) | exact fun _ _ => rfl | exact ⟨by assumption, by first | exact trivial | decide | omega | (dsimp only; omega)⟩) ?_) | (apply And.intro) | (intro s hs; skip))
        all_goals try (first | (dsimp only; decide) | exact Nat.le_of_ble_eq_true rfl | exact rfl)
        all_goals (refine ⟨⟨5, by omega⟩, [], by dsimp only; omega, rfl, ?_, ?_⟩)
        all_goals skip
        · repeat' (first | exact trivial | exact rfl | exact leF_ptr rfl | exact leF_int rfl | exact leF_bool rfl | exact leF_cl (cl_slB _ _) | exact leF_cl (cl_slR _ _) | exact leF_cl (cl_ll _ _) | exact leF_c (leC_os rfl rfl) | refine leF_int ?_ | refine leF_bool ?_ | exact leN_varA (fun _ _ => (Elem.flat _ _ _).le) | exact leN_varA (fun _ _ => leC_top) | apply And.intro)
        · repeat' (first | exact trivial | exact rfl | exact leF_ptr rfl | exact leF_int rfl | exact leF_bool rfl | exact leF_cl (cl_slB _ _) | exact leF_cl (cl_slR _ _) | exact leF_cl (cl_ll _ _) | exact leF_c (leC_os rfl rfl) | refine leF_int ?_ | refine leF_bool ?_ | exact leN_varA (fun _ _ => (Elem.flat _ _ _).le) | exact leN_varA (fun _ _ => leC_top) | apply And.intro)
          all_goals first
            | exact rdN_le rfl
            | (refine leN_var ?_; repeat' (first | exact trivial | exact rfl | exact leC_int rfl | exact leC_bool rfl | refine leE_all ?_ | exact leC_bool (by assumption) | apply And.intro))
      rcases i with _ | i
      · repeat' (first | (apply And.intro <;> intro hc <;> (first | exact Bool.noConfusion hc | (exfalso; first | exact absurd hc (by decide) | exact hc (by decide)) | (simp only [decide_eq_true_eq, decide_eq_false_iff_not, Bool.not_eq_true', Bool.not_eq_false', beq_iff_eq, beq_eq_false_iff_ne, bne_iff_ne, bne_eq_false_iff_eq, Bool.true_eq_false, Bool.false_eq_true, ne_eq, not_true_eq_false] at hc <;> first | exact absurd rfl hc | (exfalso; first | exact absurd hc (by decide) | exact hc (by decide)) | skip) | skip)) | (refine And.intro (by first | exact trivial | decide | omega | (dsimp only; omega) | exact fun _ _ => rfl | exact ⟨by assumption, by first | exact trivial | decide | omega | (dsimp only; omega)⟩) ?_) | (apply And.intro) | (intro s hs; skip))
        rw [f1 (by assumption)]
        exact ⟨leF_tup ⟨leE_agg rfl (fun i hi => by (iterate 16 (rcases i with _ | i; exact leC_int rfl)); exact absurd hi (by omega)), leC_int rfl, trivial⟩, rdN_le rfl⟩
      · exact absurd hi (by omega)
    · refine ⟨rfl, ?_, ?_⟩
      · repeat' (first | exact trivial | exact rfl | exact leF_ptr rfl | exact leF_int rfl | exact leF_bool rfl | exact leF_cl (cl_slB _ _) | exact leF_cl (cl_slR _ _) | exact leF_cl (cl_ll _ _) | exact leF_c (leC_os rfl rfl) | refine leF_int ?_ | refine leF_bool ?_ | exact leN_varA (fun _ _ => (Elem.flat _ _ _).le) | exact leN_varA (fun _ _ => leC_top) | apply And.intro)
      · repeat' (first | exact trivial | exact rfl | exact leF_ptr rfl | exact leF_int rfl | exact leF_bool rfl | exact leF_cl (cl_slB _ _) | exact leF_cl (cl_slR _ _) | exact leF_cl (cl_ll _ _) | exact leF_c (leC_os rfl rfl) | refine leF_int ?_ | refine leF_bool ?_ | exact leN_varA (fun _ _ => (Elem.flat _ _ _).le) | exact leN_varA (fun _ _ => leC_top) | apply And.intro)
        all_goals first
          | exact rdN_le rfl
          | (refine leN_var ?_; repeat' (first | exact trivial | exact rfl | exact leC_int rfl | exact leC_bool rfl | refine leE_all ?_ | exact leC_bool (by assumption) | apply And.intro))
set_option maxRecDepth 20000 in
theorem grpd_2 (b : List Int) (q : Int) (hr : RdOk b q) : MethOk Tryd.prog 64 [(cI .i64).enc 2] (rdN true b q) (encRA (grpD b 2 q).1) (rdN true b (grpD b 2 q).2) := by
  obtain ⟨W, hW⟩ : ∃ W, grpD b 2 q = W := ⟨_, rfl⟩
  have eW : W = (if (numF b q 4).1.2 = 0 then ((grpV 4 ((b.drop q.toNat).take 4), 0), (numF b q 4).2) else ((zeroA, (numF b q 4).1.2), (numF b q 4).2)) := hW.symm
  have eG := grp_val (q := q) (n := 4) hr.bl
  rw [hW]
  have f0 : ¬ (numF b q 4).1.2 = 0 → W = ((zeroA, (numF b q 4).1.2), (numF b q 4).2) := fun h => by rw [eW, if_neg h]
  have f1 : (numF b q 4).1.2 = 0 → W = ((grpB 4 (numF b q 4).1.1, 0), (numF b q 4).2) := fun h => by
    rw [eW, if_pos h]
    exact congrArg (fun x => ((x, 0), (numF b q 4).2)) (eG h (by decide) (by decide))
  clear eW hW eG
  obtain ⟨N, eN⟩ : ∃ N, numF b q 4 = N := ⟨_, rfl⟩
  rw [eN] at f0 f1
  have g1 : True := trivial
  refine meth_intro (wd := 1) (Q := mkQ LRd3) (by decide) tysOk (q_of LRd3_ok) mixed Tryd.func64 rfl _ (by show 1 + 1 ≤ _; decide) (flatF_nff (encRA_flat _)) (rdN_nf) ?_
  repeat' (first | (apply And.intro <;> intro hc <;> (first | exact Bool.noConfusion hc | (exfalso; first | exact absurd hc (by decide) | exact absurd rfl hc | exact absurd hc (by assumption) | exact absurd (by assumption) hc) | (simp only [decide_eq_true_eq, decide_eq_false_iff_not, Bool.not_eq_true', Bool.not_eq_false', beq_iff_eq, beq_eq_false_iff_ne, bne_iff_ne, bne_eq_false_iff_eq, Bool.true_eq_false, Bool.false_eq_true, ne_eq, not_true_eq_false] at hc <;> first | exact absurd rfl hc | (exfalso; first | exact absurd hc (by decide) | exact absurd rfl hc | exact absurd hc (by assumption) | exact absurd (by assumption) hc) | skip) | skip)) | (refine And.intro (by first | exact trivial | decide | omega | (dsimp only; omega) | exact fun _ _ => rfl | exact ⟨by assumption, by first | exact trivial | decide | omega | (dsimp only; omega)⟩) ?_) | (apply And.intro) | (refine Exists.intro b (And.intro ⟨rfl, rfl, by first | exact ⟨by assumption, by decide, by decide⟩ | assumption⟩ ?_)) | (intro s hs; (first | (clear g1; have q : N = s := (hs.trans eN).symm; clear hs; subst q) | skip)))
  all_goals try (first | exact rfl | exact Nat.le_of_ble_eq_true rfl)
  · rw [f0 (by assumption)]
    exact ⟨leF_tup ⟨leE_agg rfl (fun i hi => by (iterate 16 (rcases i with _ | i; exact leC_int rfl)); exact absurd hi (by omega)), leC_int rfl, trivial⟩, rdN_le rfl⟩
  · refine loop_intro (mono_of LRd3_ok) (fun s : {i : Nat // i ≤ 3} => (⟨[(4, one (.ptr 1 0 0 false)), (10, one (.int .u64 N.1.1)), (12, one (.ptr 23 0 0 false)), (56, one (.int .i64 3)), (57, one (.int .i64 (s.1 : Int)))],
      [(0, some (rdN true b N.2)), (1, some ⟨37, 1, 16, true, fun _ _ => .top⟩), (23, some ⟨37, 1, 16, true, fun _ j => .int .u8 (bif Nat.beq j 0 then 255 else bif Nat.beq j 1 then IntKind.u8.wrap (shrI .u64 N.1.1 (IntKind.i64.wrap (8 * 3))) else bif Nat.ble (16 - s.1) j then IntKind.u8.wrap (shrI .u64 N.1.1 (IntKind.i64.wrap (8 * ((15 - j : Nat) : Int)))) else 0)⟩)], 24⟩ : Hd)) (fun s => 3 - s.1) (fun _ => rfl) ?_ ⟨0, by omega⟩ [] ?_
    · rintro ⟨i, hi⟩
      rcases i with _ | i
      · repeat' (first | (apply And.intro <;> intro hc <;> (first | exact Bool.noConfusion hc | (exfalso; first | exact absurd hc (by decide) | exact hc (by decide)) | (simp only [decide_eq_true_eq, decide_eq_false_iff_not, Bool.not_eq_true', Bool.not_eq_false', beq_iff_eq, beq_eq_false_iff_ne, bne_iff_ne, bne_eq_false_iff_eq, Bool.true_eq_false, Bool.false_eq_true, ne_eq, not_true_eq_false] at hc <;> first | exact absurd rfl hc | (exfalso; first | exact absurd hc (by decide) | exact hc (by decide)) | skip) | skip)) | (refine And.intro (by first | exact trivial | decide | omega | (dsimp only; omega) | exact fun _ _ => rfl | exact ⟨by assumption, by first | exact trivial | decide | omega | (dsimp only; omega)⟩) ?_) | (apply And.intro) | (intro s hs; skip))
        all_goals try (first | (dsimp only; decide) | exact Nat.le_of_ble_eq_true rfl | exact rfl)
        all_goals (refine ⟨⟨1, by omega⟩, [], by dsimp only; omega, rfl, ?_, ?_⟩)
        all_goals skip
        · repeat' (first | exact trivial | exact rfl | exact leF_ptr rfl | exact leF_int rfl | exact leF_bool rfl | exact leF_cl (cl_slB _ _) | exact leF_cl (cl_slR _ _) | exact leF_cl (cl_ll _ _) | exact leF_c (leC_os rfl rfl) | refine leF_int ?_ | refine leF_bool ?_ | exact leN_varA (fun _ _ => (Elem.flat _ _ _).le) | exact leN_varA (fun _ _ => leC_top) | apply And.intro)
        · repeat' (first | exact trivial | exact rfl | exact leF_ptr rfl | exact leF_int rfl | exact leF_bool rfl | exact leF_cl (cl_slB _ _) | exact leF_cl (cl_slR _ _) | exact leF_cl (cl_ll _ _) | exact leF_c (leC_os rfl rfl) | refine leF_int ?_ | refine leF_bool ?_ | exact leN_varA (fun _ _ => (Elem.flat _ _ _).le) | exact leN_varA (fun _ _ => leC_top) | apply And.intro)
          all_goals first
            | exact rdN_le rfl
            | (refine leN_var ?_; repeat' (first | exact trivial | exact rfl | exact leC_int rfl | exact leC_bool rfl | refine leE_all ?_ | exact leC_bool (by assumption) | apply And.intro))
      rcases i with _ | i
      · repeat' (first | (apply And.intro <;> intro hc <;> (first | exact Bool.noConfusion hc | (exfalso; first | exact absurd hc (by decide) | exact hc (by decide)) | (simp only [decide_eq_true_eq, decide_eq_false_iff_not, Bool.not_eq_true', Bool.not_eq_false', beq_iff_eq, beq_eq_false_iff_ne, bne_iff_ne, bne_eq_false_iff_eq, Bool.true_eq_false, Bool.false_eq_true, ne_eq, not_true_eq_false] at hc <;> first | exact absurd rfl hc | (exfalso; first | exact absurd hc (by decide) | exact hc (by decide)) | skip) | skip)) | (refine And.intro (by first | exact trivial | decide | omega | (dsimp only; omega) | exact fun _ _ => rfl | exact ⟨by assumption, by first | exact trivial | decide | omega | (dsimp only; omega)⟩) ?_) | (apply And.intro) | (intro s hs; skip))
        all_goals try (first | (dsimp only; decide) | exact Nat.le_of_ble_eq_true rfl | exact rfl)
        all_goals (refine ⟨⟨2, by omega⟩, [], by dsimp only; omega, rfl, ?_, ?_⟩)
        all_goals skip
        · repeat' (first | exact trivial | exact rfl | exact leF_ptr rfl | exact leF_int rfl | exact leF_bool rfl | exact leF_cl (cl_slB _ _) | exact leF_cl (cl_slR _ _) | exact leF_cl (cl_ll _ _) | exact leF_c (leC_os rfl rfl) | refine leF_int ?_ | refine leF_bool ?_ | exact leN_varA (fun _ _ => (Elem.flat _ _ _).le) | exact leN_varA (fun _ _ => leC_top) | apply And.intro)
        · repeat' (first | exact trivial | exact rfl | exact leF_ptr rfl | exact leF_int rfl | exact leF_bool rfl | exact leF_cl (cl_slB _ _) | exact leF_cl (cl_slR _ _) | exact leF_cl (cl_ll _ _) | exact leF_c (leC_os rfl rfl) | refine leF_int ?_ | refine leF_bool ?_ | exact leN_varA (fun _ _ => (Elem.flat _ _ _).le) | exact leN_varA (fun _ _ => leC_top) | apply And.intro)
          all_goals first
            | exact rdN_le rfl
            | (refine leN_var ?_; repeat' (first | exact trivial | exact rfl | exact leC_int rfl | exact leC_bool rfl | refine leE_all ?_ | exact leC_bool (by assumption) | apply And.intro))
      rcases i with _ | i
      · repeat' (first | (apply And.intro <;> intro hc <;> (first | exact Bool.noConfusion hc | (exfalso; first | exact absurd hc (by decide) | exact hc (by decide)) | (simp only [decide_eq_true_eq, decide_eq_false_iff_not, Bool.not_eq_true', Bool.not_eq_false', beq_iff_eq, beq_eq_false_iff_ne, bne_iff_ne, bne_eq_false_iff_eq, Bool.true_eq_false, Bool.false_eq_true, ne_eq, not_true_eq_false] at hc <;> first | exact absurd rfl hc | (exfalso; first | exact absurd hc (by decide) | exact hc (by decide)) | skip) | skip)) | (refine And.intro (by first | exact trivial | decide | omega | (dsimp only; omega) | exact fun _ _ => rfl | exact ⟨by assumption, by first | exact trivial | decide | omega | (dsimp only; omega)⟩) ?_) | (apply And.intro) | (intro s hs; skip))
        all_goals try (first | (dsimp only; decide) | exact Nat.le_of_ble_eq_true rfl | exact rfl)
        all_goals (refine ⟨⟨3, by omega⟩, [], by dsimp only; omega, rfl, ?_, ?_⟩)
        all_goals skip
        · repeat' (first | exact trivial | exact rfl | exact leF_ptr rfl | exact leF_int rfl | exact leF_bool rfl | exact leF_cl (cl_slB _ _) | exact leF_cl (cl_slR _ _) | exact leF_cl (cl_ll _ _) | exact leF_c (leC_os rfl rfl) | refine leF_int ?_ | refine leF_bool ?_ | exact leN_varA (fun _ _ => (Elem.flat _ _ _).le) | exact leN_varA (fun _ _ => leC_top) | apply And.intro)
        · repeat' (first | exact trivial | exact rfl | exact leF_ptr rfl | exact leF_int rfl | exact leF_bool rfl | exact leF_cl (cl_slB _ _) | exact leF_cl (cl_slR _ _) | exact leF_cl (cl_ll _ _) | exact leF_c (leC_os rfl rfl) | refine leF_int ?_ | refine leF_bool ?_ | exact leN_varA (fun _ _ => (Elem.flat _ _ _).le) | exact leN_varA (fun _ _ => leC_top) | apply And.intro)
          all_goals first
            | exact rdN_le rfl
            | (refine leN_var ?_; repeat' (first | exact trivial | exact rfl | exact leC_int rfl | exact leC_bool rfl | refine leE_all ?_ | exact leC_bool (by assumption) | apply And.intro))
      rcases i with _ | i
      · repeat' (first | (apply And.intro <;> intro hc <;> (first | exact Bool.noConfusion hc | (exfalso; first | exact absurd hc (by decide) | exact hc (by decide)) | (simp only [decide_eq_true_eq, decide_eq_false_iff_not, Bool.not_eq_true', Bool.not_eq_false', beq_iff_eq, beq_eq_false_iff_ne, bne_iff_ne, bne_eq_false_iff_eq, Bool.true_eq_false, Bool.false_eq_true, ne_eq, not_true_eq_false] at hc <;> first | exact absurd rfl hc | (exfalso; first | exact absurd hc (by decide) | exact hc (by decide)) | skip) | skip)) | (refine And.intro (by first | exact trivial | decide | omega | (dsimp only; omega) | exact fun _ _ => rfl | exact ⟨by assumption, by first | exact trivial | decide | omega | (dsimp only; omega)⟩) ?_) | (apply And.intro) | (intro s hs; skip))
        rw [f1 (by assumption)]
        exact ⟨leF_tup ⟨leE_agg rfl (fun i hi => by (iterate 16 (rcases i with _ | i; exact leC_int rfl)); exact absurd hi (by omega)), leC_int rfl, trivial⟩, rdN_le rfl⟩
      · exact absurd hi (by omega)
    · refine ⟨rfl, ?_, ?_⟩
      · repeat' (first | exact trivial | exact rfl | exact leF_ptr rfl | exact leF_int rfl | exact leF_bool rfl | exact leF_cl (cl_slB _ _) | exact leF_cl (cl_slR _ _) | exact leF_cl (cl_ll _ _) | exact leF_c (leC_os rfl rfl) | refine leF_int ?_ | refine leF_bool ?_ | exact leN_varA (fun _ _ => (Elem.flat _ _ _).le) | exact leN_varA (fun _ _ => leC_top) | apply And.intro)
      · repeat' (first | exact trivial | exact rfl | exact leF_ptr rfl | exact leF_int rfl | exact leF_bool rfl | exact leF_cl (cl_slB _ _) | exact leF_cl (cl_slR _ _) | exact leF_cl (cl_ll _ _) | exact leF_c (leC_os rfl rfl) | refine leF_int ?_ | refine leF_bool ?_ | exact leN_varA (fun _ _ => (Elem.flat _ _ _).le) | exact leN_varA (fun _ _ => leC_top) | apply And.intro)
        all_goals first
          | exact rdN_le rfl
          | (refine leN_var ?_; repeat' (first | exact trivial | exact rfl | exact leC_int rfl | exact leC_bool rfl | refine leE_all ?_ | exact leC_bool (by assumption) | apply And.intro))
set_option maxRecDepth 20000 in
theorem grpd_3 (b : List Int) (q : Int) (hr : RdOk b q) : MethOk Tryd.prog 64 [(cI .i64).enc 3] (rdN true b q) (encRA (grpD b 3 q).1) (rdN true b (grpD b 3 q).2) := by
  obtain ⟨W, hW⟩ : ∃ W, grpD b 3 q = W := ⟨_, rfl⟩
  have eW : W = (if (numF b q 1).1.2 = 0 then ((grpV 1 ((b.drop q.toNat).take 1), 0), (numF b q 1).2) else ((zeroA, (numF b q 1).1.2), (numF b q 1).2)) := hW.symm
  have eG := grp_val (q := q) (n := 1) hr.bl
  rw [hW]
  have f0 : ¬ (numF b q 1).1.2 = 0 → W = ((zeroA, (numF b q 1).1.2), (numF b q 1).2) := fun h => by rw [eW, if_neg h]
  have f1 : (numF b q 1).1.2 = 0 → W = ((grpB 1 (numF b q 1).1.1, 0), (numF b q 1).2) := fun h => by
    rw [eW, if_pos h]
    exact congrArg (fun x => ((x, 0), (numF b q 1).2)) (eG h (by decide) (by decide))
  clear eW hW eG
  obtain ⟨N, eN⟩ : ∃ N, numF b q 1 = N := ⟨_, rfl⟩
  rw [eN] at f0 f1
  have g1 : True := trivial
  refine meth_intro (wd := 1) (Q := mkQ LRd3) (by decide) tysOk (q_of LRd3_ok) mixed Tryd.func64 rfl _ (by show 1 + 1 ≤ _; decide) (flatF_nff (encRA_flat _)) (rdN_nf) ?_
  repeat' (first | (apply And.intro <;> intro hc <;> (first | exact Bool.noConfusion hc | (exfalso; first | exact absurd hc (by decide) | exact absurd rfl hc | exact absurd hc (by assumption) | exact absurd (by assumption) hc) | (simp only [decide_eq_true_eq, decide_eq_false_iff_not, Bool.not_eq_true', Bool.not_eq_false', beq_iff_eq, beq_eq_false_iff_ne, bne_iff_ne, bne_eq_false_iff_eq, Bool.true_eq_false, Bool.false_eq_true, ne_eq, not_true_eq_false] at hc <;> first | exact absurd rfl hc | (exfalso; first | exact absurd hc (by decide) | exact absurd rfl hc | exact absurd hc (by assumption) | exact absurd (by assumption) hc) | skip) | skip)) | (refine And.intro (by first | exact trivial | decide | omega | (dsimp only; omega) | exact fun _ _ => rfl | exact ⟨by assumption, by first | exact trivial | decide | omega | (dsimp only; omega)⟩) ?_) | (apply And.intro) | (refine Exists.intro b (And.intro ⟨rfl, rfl, by first | exact ⟨by assumption, by decide, by decide⟩ | assumption⟩ ?_)) | (intro s hs; (first | (clear g1; have q : N = s := (hs.trans eN).symm; clear hs; subst q) | skip)))
  all_goals try (first | exact rfl | exact Nat.le_of_ble_eq_true rfl)
  · rw [f0 (by assumption)]
    exact ⟨leF_tup ⟨leE_agg rfl (fun i hi => by (iterate 16 (rcases i with _ | i; exact leC_int rfl)); exact absurd hi (by omega)), leC_int rfl, trivial⟩, rdN_le rfl⟩
  · refine loop_intro (mono_of LRd3_ok) (fun s : {i : Nat // i ≤ 1} => (⟨[(4, one (.ptr 1 0 0 false)), (10, one (.int .u64 N.1.1)), (12, one (.ptr 23 0 0 false)), (56, one (.int .i64 1)), (57, one (.int .i64 (s.1 : Int)))],
      [(0, some (rdN true b N.2)), (1, some ⟨37, 1, 16, true, fun _ _ => .top⟩), (23, some ⟨37, 1, 16, true, fun _ j => .int .u8 (bif Nat.beq j 0 then 255 else bif Nat.beq j 1 then 2 else bif Nat.ble (16 - s.1) j then IntKind.u8.wrap (shrI .u64 N.1.1 (IntKind.i64.wrap (8 * ((15 - j : Nat) : Int)))) else 0)⟩)], 24⟩ : Hd)) (fun s => 1 - s.1) (fun _ => rfl) ?_ ⟨0, by omega⟩ [] ?_
    · rintro ⟨i, hi⟩
      rcases i with _ | i
      · repeat' (first | (apply And.intro <;> intro hc <;> (first | exact Bool.noConfusion hc | (exfalso; first | exact absurd hc (by decide) | exact hc (by decide)) | (simp only [decide_eq_true_eq, decide_eq_false_iff_not, Bool.not_eq_true', Bool.not_eq_false', beq_iff_eq, beq_eq_false_iff_ne, bne_iff_ne, bne_eq_false_iff_eq, Bool.true_eq_false, Bool.false_eq_true, ne_eq, not_true_eq_false] at hc <;> first | exact absurd rfl hc | (exfalso; first | exact absurd hc (by decide) | exact hc (by decide)) | skip) | skip)) | (refine And.intro (by first | exact trivial | decide | omega | (dsimp only; omega) | exact fun _ _ => rfl | exact ⟨by assumption, by first | exact trivial | decide | omega | (dsimp only; omega)⟩) ?_) | (apply And.intro) | (intro s hs; skip))
        all_goals try (first | (dsimp only; decide) | exact Nat.le_of_ble_eq_true rfl | exact rfl)
        all_goals (refine ⟨⟨1, by omega⟩, [], by dsimp only; omega, rfl, ?_, ?_⟩)
        all_goals skip
        · repeat' (first | exact trivial | exact rfl | exact leF_ptr rfl | exact leF_int rfl | exact leF_bool rfl | exact leF_cl (cl_slB _ _) | exact leF_cl (cl_slR _ _) | exact leF_cl (cl_ll _ _) | exact leF_c (leC_os rfl rfl) | refine leF_int ?_ | refine leF_bool ?_ | exact leN_varA (fun _ _ => (Elem.flat _ _ _).le) | exact leN_varA (fun _ _ => leC_top) | apply And.intro)
        · repeat' (first | exact trivial | exact rfl | exact leF_ptr rfl | exact leF_int rfl | exact leF_bool rfl | exact leF_cl (cl_slB _ _) | exact leF_cl (cl_slR _ _) | exact leF_cl (cl_ll _ _) | exact leF_c (leC_os rfl rfl) | refine leF_int ?_ | refine leF_bool ?_ | exact leN_varA (fun _ _ => (Elem.flat _ _ _).le) | exact leN_varA (fun _ _ => leC_top) | apply And.intro)
          all_goals first
            | exact rdN_le rfl
            | (refine leN_var ?_; repeat' (first | exact trivial | exact rfl | exact leC_int rfl | exact leC_bool rfl | refine leE_all ?_ | exact leC_bool (by assumption) | apply And.intro))
      rcases i with _ | i
      · repeat' (first | (apply And.intro <;> intro hc <;> (first | exact Bool.noConfusion hc | (exfalso; first | exact absurd hc (by decide) | exact hc (by decide)) | (simp only [decide_eq_true_eq, decide_eq_false_iff_not, Bool.not_eq_true', Bool.not_eq_false', beq_iff_eq, beq_eq_false_iff_ne, bne_iff_ne, bne_eq_false_iff_eq, Bool.true_eq_false, Bool.false_eq_true, ne_eq, not_true_eq_false] at hc <;> first | exact absurd rfl hc | (exfalso; first | exact absurd hc (by decide) | exact hc (by decide)) | skip) | skip)) | (refine And.intro (by first | exact trivial | decide | omega | (dsimp only; omega) | exact fun _ _ => rfl | exact ⟨by assumption, by first | exact trivial | decide | omega | (dsimp only; omega)⟩) ?_) | (apply And.intro) | (intro s hs; skip))
        rw [f1 (by assumption)]
        exact ⟨leF_tup ⟨leE_agg rfl (fun i hi => by (iterate 16 (rcases i with _ | i; exact leC_int rfl)); exact absurd hi (by omega)), leC_int rfl, trivial⟩, rdN_le rfl⟩
      · exact absurd hi (by omega)
    · refine ⟨rfl, ?_, ?_⟩
      · repeat' (first | exact trivial | exact rfl | exact leF_ptr rfl | exact leF_int rfl | exact leF_bool rfl | exact leF_cl (cl_slB _ _) | exact leF_cl (cl_slR _ _) | exact leF_cl (cl_ll _ _) | exact leF_c (leC_os rfl rfl) | refine leF_int ?_ | refine leF_bool ?_ | exact leN_varA (fun _ _ => (Elem.flat _ _ _).le) | exact leN_varA (fun _ _ => leC_top) | apply And.intro)
      · repeat' (first | exact trivial | exact rfl | exact leF_ptr rfl | exact leF_int rfl | exact leF_bool rfl | exact leF_cl (cl_slB _ _) | exact leF_cl (cl_slR _ _) | exact leF_cl (cl_ll _ _) | exact leF_c (leC_os rfl rfl) | refine leF_int ?_ | refine leF_bool ?_ | exact leN_varA (fun _ _ => (Elem.flat _ _ _).le) | exact leN_varA (fun _ _ => leC_top) | apply And.intro)
        all_goals first
          | exact rdN_le rfl
          | (refine leN_var ?_; repeat' (first | exact trivial | exact rfl | exact leC_int rfl | exact leC_bool rfl | refine leE_all ?_ | exact leC_bool (by assumption) | apply And.intro))
end Go.Proofs.YtjknkfjhcapocaaDoor.AX

/- Layer 14 by AX2: Decode of the program. (Printed by gen/rddec.py.) -/
namespace Go.Proofs.YtjknkfjhcapocaaDoor.AX
open Go.RowKit
set_option linter.unusedVariables false
set_option linter.unusedSimpArgs false
theorem uniR_ok (b : List Int) (q : Int) (ctx : Bool) (m : Int) (k : Adr) (l : List Ctx) (id now : Int) (hr : RdOk b q) (hl : bytesL l) (hm : 0 ≤ m ∧ m ≤ 3) : MethOk Tryd.prog 63 [cB.enc ctx, (cI .i64).enc m, (cE eAdr).enc k, cFind.enc (l, id, now)] (rdN true b q) (encRA (uniD b ctx m k (forDec l id now) q).1) (rdN true b (uniD b ctx m k (forDec l id now) q).2) := by
  have h : m = 0 ∨ m = 1 ∨ m = 2 ∨ m = 3 := by omega
  cases ctx with
  | true =>
    rcases h with rfl | rfl | rfl | rfl
    · exact unid_t0 b q k l id now hr hl
    · exact unid_t1 b q k l id now hr hl
    · exact unid_t2 b q k l id now hr hl
    · exact unid_t3 b q k l id now hr hl
  | false =>
    rcases h with rfl | rfl | rfl | rfl
    · exact unid_f0 b q k l id now hr hl
    · exact unid_f1 b q k l id now hr hl
    · exact unid_f2 b q k l id now hr hl
    · exact unid_f3 b q k l id now hr hl
theorem grpR_ok (b : List Int) (q m : Int) (hr : RdOk b q) (hm : 0 ≤ m ∧ m ≤ 3) : MethOk Tryd.prog 64 [(cI .i64).enc m] (rdN true b q) (encRA (grpD b m q).1) (rdN true b (grpD b m q).2) := by
  have h : m = 0 ∨ m = 1 ∨ m = 2 ∨ m = 3 := by omega
  rcases h with rfl | rfl | rfl | rfl
  · exact grpd_0 b q hr
  · exact grpd_1 b q hr
  · exact grpd_2 b q hr
  · exact grpd_3 b q hr
abbrev uniRA : AC (Bool × Int × Adr × (List Ctx × Int × Int) × Unit) := AC.cons cB (AC.cons (cI .i64) (AC.cons (cE eAdr) (AC.cons cFind AC.nil)))
abbrev uniRE : Entry := rdE uniRA (fun b q a => RdOk b q ∧ bytesL a.2.2.2.1.1 ∧ 0 ≤ a.2.1 ∧ a.2.1 ≤ 3) (fun b q a => uniD b a.1 a.2.1 a.2.2.1 (forDec a.2.2.2.1.1 a.2.2.2.1.2.1 a.2.2.2.1.2.2) q) encRA
abbrev grpRE : Entry := rdE (AC.cons (cI .i64) AC.nil) (fun b q a => RdOk b q ∧ 0 ≤ a.1 ∧ a.1 ≤ 3) (fun b q a => grpD b a.1 q) encRA
def mkfE : Entry := inl0E T (mkQ LRd3) 1 Tryd.f60.ntmps Tryd.f60.results.toList (Tryd.f60.body.getD Code.ret)
theorem mkfE_ok : EntOk Tryd.prog 60 mkfE := inl0E_ok (by decide) tysOk (q_of LRd3_ok) (mono_of LRd3_ok) mixed Tryd.func60 rfl rfl
/-! ### Places and ranges -/
theorem thenD_r {α β : Type} {b : List Int} {x : RD α} {z : β} {f : α → Int → RD β} (hx : RdOk b x.2) (hf : ∀ v q, RdOk b q → RdOk b (f v q).2) : RdOk b (thenD x z f).2 := by
  unfold thenD
  split
  · exact hf _ _ hx
  · exact hx
theorem ite_r {α : Type} {b : List Int} {p : Prop} [Decidable p] {x y : RD α} (hx : RdOk b x.2) (hy : RdOk b y.2) : RdOk b (if p then x else y).2 := by
  split
  · exact hx
  · exact hy
theorem ip_r {b : List Int} {q : Int} (h : RdOk b q) : RdOk b (ipRF b q).2 := by
  have h1 := h.lo
  have h2 := h.hi
  unfold ipRF
  split
  · exact h
  · exact ⟨h.bl, h.len, by dsimp only; omega, by dsimp only; omega⟩
theorem fieldsD_r {b : List Int} {x q : Int} (h : RdOk b q) : RdOk b (fieldsD b x q).2 := by
  unfold fieldsD
  refine thenD_r (ite_r (num_ok h) h) fun c q h => thenD_r (ite_r (num_ok h) h) fun fl q h => ite_r h (thenD_r (ite_r (num_ok h) h) fun nx q h => ite_r h (thenD_r (ite_r (num_ok h) h) fun hp q h => h))
theorem thenD_p {α β : Type} {P : β → Prop} {x : RD α} {z : β} {f : α → Int → RD β} (hz : P z) (hf : ∀ v q, P (f v q).1.1) : P (thenD x z f).1.1 := by
  unfold thenD
  split
  · exact hf _ _
  · exact hz
theorem ite_p {α : Type} {P : α → Prop} {c : Prop} [Decidable c] {x y : RD α} (hx : P x.1.1) (hy : P y.1.1) : P (if c then x else y).1.1 := by
  split
  · exact hx
  · exact hy
theorem fieldsD_src (b : List Int) (x q : Int) : (fieldsD b x q).1.1.src = zeroA :=
  thenD_p (P := fun h : Hdr => h.src = zeroA) rfl fun c q => thenD_p (P := fun h : Hdr => h.src = zeroA) rfl fun fl q => ite_p (P := fun h : Hdr => h.src = zeroA) rfl (thenD_p (P := fun h : Hdr => h.src = zeroA) rfl fun nx q => ite_p (P := fun h : Hdr => h.src = zeroA) rfl (thenD_p (P := fun h : Hdr => h.src = zeroA) rfl fun hp q => rfl))
theorem uniD_r {b : List Int} {ctx : Bool} {m q : Int} {k : Adr} {C : Ctx × Bool} (h : RdOk b q) : RdOk b (uniD b ctx m k C q).2 := by
  unfold uniD uniV
  exact ite_r h (ite_r h (ite_r h (thenD_r (ite_r (ip_r h) (ite_r (thenD_r (num_ok h) fun v q h => h) (ite_r (thenD_r (num_ok h) fun v q h => h) h))) fun a q h => ite_r h h)))
theorem grpD_r {b : List Int} {m q : Int} (h : RdOk b q) : RdOk b (grpD b m q).2 := by
  unfold grpD
  exact ite_r (thenD_r (ip_r h) fun a q h => ite_r h h) (thenD_r (num_ok h) fun v q h => h)
theorem startF_r {b : List Int} {q : Int} (h : RdOk b q) : RdOk b (startF b q).2 := by
  unfold startF
  exact thenD_r (num_ok h) fun x q h => ite_r h (thenD_r (num_ok h) fun y q h => ite_r h (ite_r (thenD_r (num_ok h) fun i q h => h) h))
structure StR (s : I3) : Prop where
  x : 96 ≤ s.1 ∧ s.1 ≤ 127
  y : 0 ≤ s.2.1 ∧ s.2.1 < 256
  ids : 0 ≤ s.2.2 ∧ s.2.2 < 256
  bad : badY s.2.1 = false
theorem startF_v {b : List Int} {q : Int} (hb : BL b) (h : (startF b q).1.2 = 0) : StR (startF b q).1.1 := by
  unfold startF thenD at h ⊢
  have v1 := num1_v (q := q) hb
  have v2 := num1_v (q := (numF b q 1).2) hb
  have v3 := num1_v (q := (numF b (numF b q 1).2 1).2) hb
  dsimp only at h ⊢
  split at h
  · rename_i c1
    rw [if_pos c1]
    split at h
    · exact absurd (show (5 : Int) = 0 from h) (by decide)
    · rename_i c2
      rw [if_neg c2]
      split at h
      · rename_i c3
        rw [if_pos c3]
        split at h
        · exact absurd (show (5 : Int) = 0 from h) (by decide)
        · rename_i c4
          rw [if_neg c4]
          have c4' : badY (numF b (numF b q 1).2 1).1.1 = false := by
            cases hc : badY (numF b (numF b q 1).2 1).1.1 with
            | false => rfl
            | true => exact absurd hc c4
          split at h
          · rename_i c5
            rw [if_pos c5]
            split at h
            · rename_i c6
              rw [if_pos c6]
              exact ⟨by dsimp only; omega, v2, v3, c4'⟩
            · rename_i c6
              exact absurd h c6
          · rename_i c5
            rw [if_neg c5]
            exact ⟨by dsimp only; omega, v2, ⟨Int.le_refl 0, (by decide : (0 : Int) < 256)⟩, c4'⟩
      · rename_i c3
        exact absurd h c3
  · rename_i c1
    exact absurd h c1
theorem raw_bits : ∀ y : Fin 256, (bits .and .i64 (y.1 : Int) 64 != 0) = bitAt y.1 64 ∧ (bits .and .i64 (y.1 : Int) 4 != 0) = bitAt y.1 4 ∧ (bits .and .i64 (y.1 : Int) 8 != 0) = bitAt y.1 8 ∧ bits .and .i64 (shrI .i64 (y.1 : Int) 4) 3 = y.1 / 16 % 4 ∧ bits .and .i64 (y.1 : Int) 3 = y.1 % 4 ∧ shrI .i64 (y.1 : Int) 4 = y.1 / 16 ∧ bits .and .i64 (y.1 : Int) 15 = y.1 % 16 := by decide +kernel
theorem raw_of {y : Int} (h : 0 ≤ y ∧ y < 256) : (bits .and .i64 y 64 != 0) = bitAt y 64 ∧ (bits .and .i64 y 4 != 0) = bitAt y 4 ∧ (bits .and .i64 y 8 != 0) = bitAt y 8 ∧ bits .and .i64 (shrI .i64 y 4) 3 = y / 16 % 4 ∧ bits .and .i64 y 3 = y % 4 ∧ shrI .i64 y 4 = y / 16 ∧ bits .and .i64 y 15 = y % 16 := by
  obtain ⟨m, rfl⟩ : ∃ m : Nat, y = m := ⟨y.toNat, by omega⟩
  exact raw_bits ⟨m, by omega⟩
abbrev encDec (r : (Pkt × Int) × Int) : FV := .tup [tailR eHd eB r.1.1, .c (.int .i64 r.1.2), .c (.int .i64 r.2)]
/-! ### The stages -/
section
variable {b : List Int} {f t : Adr} {l : List Ctx} {now : Int}
theorem decI_0 {Ck : Int} (hC : checkF f t l now = Ck) (h : ¬ Ck = 0) : decI b f t l now = (((zeroH, []), 0), Ck) := by
  subst hC
  exact if_pos h
theorem decI_e {R : RD Hdr} {e : Int} (h : checkF f t l now = 0) (hR : readD b f t l now = R) (hee : R.1.2 = e) (he : ¬ e = 0) : decI b f t l now = (((zeroH, []), 0), e) := by
  subst hR
  subst hee
  unfold decI
  rw [if_neg (fun x => x h), if_neg he]
theorem decI_v {H : Hdr} {q : Int} (h : checkF f t l now = 0) (hR : readD b f t l now = ((H, 0), q)) : decI b f t l now = (((H, []), q), 0) := by
  unfold decI
  rw [if_neg (fun x => x h), hR]
  exact if_pos rfl
theorem read_1 {S : RD I3} (hS : startF b 0 = S) (h : ¬ S.1.2 = 0) : readD b f t l now = ((zeroH, S.1.2), S.2) := by
  subst hS
  exact if_neg h
theorem read_2 {S : RD I3} {F : RD Hdr} (hS : startF b 0 = S) (hF : fieldsD b S.1.1.1 S.2 = F) (h : S.1.2 = 0) (h2 : ¬ F.1.2 = 0) : readD b f t l now = ((zeroH, F.1.2), F.2) := by
  subst hS
  subst hF
  exact (if_pos h).trans (if_neg h2)
theorem read_3 {S : RD I3} {F : RD Hdr} {X : RD (Fin 16 → Int)} (hS : startF b 0 = S) (hF : fieldsD b S.1.1.1 S.2 = F) (hX : srcD b S.1.1.2.1 S.1.1.2.2 f l now F.2 = X) (h : S.1.2 = 0) (h2 : F.1.2 = 0) (h3 : ¬ X.1.2 = 0) : readD b f t l now = ((zeroH, X.1.2), X.2) := by
  subst hS
  subst hF
  subst hX
  exact (if_pos h).trans ((if_pos h2).trans (if_neg h3))
theorem read_4 {S : RD I3} {F : RD Hdr} {X Y : RD (Fin 16 → Int)} (hS : startF b 0 = S) (hF : fieldsD b S.1.1.1 S.2 = F) (hX : srcD b S.1.1.2.1 S.1.1.2.2 f l now F.2 = X) (hY : dstD b S.1.1.2.1 S.1.1.2.2 t l now X.2 = Y) (h : S.1.2 = 0) (h2 : F.1.2 = 0) (h3 : X.1.2 = 0) (h4 : ¬ Y.1.2 = 0) : readD b f t l now = ((zeroH, Y.1.2), Y.2) := by
  subst hS
  subst hF
  subst hX
  subst hY
  exact (if_pos h).trans ((if_pos h2).trans ((if_pos h3).trans (if_neg h4)))
theorem read_5 {S : RD I3} {F : RD Hdr} {X Y : RD (Fin 16 → Int)} (hS : startF b 0 = S) (hF : fieldsD b S.1.1.1 S.2 = F) (hX : srcD b S.1.1.2.1 S.1.1.2.2 f l now F.2 = X) (hY : dstD b S.1.1.2.1 S.1.1.2.2 t l now X.2 = Y) (h : S.1.2 = 0) (h2 : F.1.2 = 0) (h3 : X.1.2 = 0) (h4 : Y.1.2 = 0) : readD b f t l now = (({ F.1.1 with src := X.1.1, dst := Y.1.1 }, 0), Y.2) := by
  subst hS
  subst hF
  subst hX
  subst hY
  exact (if_pos h).trans ((if_pos h2).trans ((if_pos h3).trans (if_pos h4)))
end
end Go.Proofs.YtjknkfjhcapocaaDoor.AX

/- Reading step by step: the invariant of the reference's reader. -/
namespace Go.Proofs.YtjknkfjhcapocaaDoor.AX
open Go.RowKit
set_option linter.unusedVariables false
set_option linter.unusedSimpArgs false
/-- The whole reading R: as long as there is no error, it is what is left to read; else its error is e. -/
structure J (R : RD Hdr) (e : Int) (rest : RD Hdr) : Prop where
  ok : e = 0 → R = rest
  err : e ≠ 0 → R.1.2 = e
section
variable {R : RD Hdr} {b : List Int} {e q : Int}
end
/-! ### The reading, stage by stage -/
section
variable (b : List Int) (f t : Adr) (l : List Ctx) (now : Int)
def K2 (y ids : Int) (h : Hdr) (q : Int) : RD Hdr := thenD (dstD b y ids t l now q) zeroH fun dst q => (({ h with dst := dst }, 0), q)
def K1 (y ids : Int) (h : Hdr) (q : Int) : RD Hdr := thenD (srcD b y ids f l now q) zeroH fun src q => K2 b t l now y ids { h with src := src } q
def KH (x y ids c fl nx q : Int) : RD Hdr := thenD (if x % 4 = 0 then numF b q 1 else ((hopV (x % 4), 0), q)) zeroH fun hp q => K1 b f t l now y ids ⟨c, fl, nx, hp, zeroA, zeroA, 0, 0⟩ q
def KN (x y ids c fl q : Int) : RD Hdr := thenD (if x / 4 % 2 = 0 then numF b q 1 else ((17, 0), q)) zeroH fun nx q => if x / 4 % 2 = 0 ∧ nx = 17 then ((zeroH, 5), q) else KH b f t l now x y ids c fl nx q
def KL (x y ids c fl q : Int) : RD Hdr := if 1048575 < fl then ((zeroH, 5), q) else KN b f t l now x y ids c fl q
def K0 (x y ids q : Int) : RD Hdr :=
  thenD (if x / 8 % 4 = 0 ∨ x / 8 % 4 = 2 then numF b q 1 else ((0, 0), q)) zeroH fun c q =>
  thenD (if x / 8 % 4 = 0 ∨ x / 8 % 4 = 1 then numF b q 3 else ((0, 0), q)) zeroH fun fl q => KL b f t l now x y ids c fl q
def KI (x y q : Int) : RD Hdr := if 128 ≤ y then thenD (numF b q 1) zeroH fun i q => K0 b f t l now x y i q else K0 b f t l now x y 0 q
end
end Go.Proofs.YtjknkfjhcapocaaDoor.AX



/- The reference of layer 14: Decode. (Printed by gen/redec.py.) -/
namespace Go.Proofs.YtjknkfjhcapocaaDoor.AX
open Go.RowKit
set_option linter.unusedVariables false
set_option linter.unusedSimpArgs false
section
variable (b : List Int) (f t : Adr) (l : List Ctx) (now : Int)
structure RS1 where
  x : Int
  q : Int
  e : Int
  hr : RdOk b q
  hx : 0 ≤ x ∧ x < 256
  j : J (readD b f t l now) e (thenD (numF b q 1) zeroH fun y q => if badY y = true then ((zeroH, 5), q) else KI b f t l now x y q)
structure RS2 where
  x : Int
  y : Int
  q : Int
  e : Int
  hr : RdOk b q
  hx : 0 ≤ x ∧ x < 256
  hy : 0 ≤ y ∧ y < 256
  j : J (readD b f t l now) e (KI b f t l now x y q)
structure RS3 where
  x : Int
  y : Int
  ids : Int
  q : Int
  e : Int
  hr : RdOk b q
  hx : 0 ≤ x ∧ x < 256
  hy : 0 ≤ y ∧ y < 256
  hi : 0 ≤ ids ∧ ids < 256
  j : J (readD b f t l now) e (K0 b f t l now x y ids q)
structure RS4 where
  x : Int
  y : Int
  ids : Int
  c : Int
  fl : Int
  q : Int
  e : Int
  hr : RdOk b q
  hx : 0 ≤ x ∧ x < 256
  hy : 0 ≤ y ∧ y < 256
  hi : 0 ≤ ids ∧ ids < 256
  hf : 0 ≤ fl ∧ fl < 16777216
  j : J (readD b f t l now) e (KL b f t l now x y ids c fl q)
structure RS5 where
  x : Int
  y : Int
  ids : Int
  c : Int
  fl : Int
  nx : Int
  q : Int
  e : Int
  hr : RdOk b q
  hx : 0 ≤ x ∧ x < 256
  hy : 0 ≤ y ∧ y < 256
  hi : 0 ≤ ids ∧ ids < 256
  j : J (readD b f t l now) e (KH b f t l now x y ids c fl nx q)
structure RS6 where
  y : Int
  ids : Int
  h : Hdr
  q : Int
  e : Int
  hr : RdOk b q
  hy : 0 ≤ y ∧ y < 256
  hi : 0 ≤ ids ∧ ids < 256
  hs : h.src = zeroA
  hd : h.dst = zeroA
  j : J (readD b f t l now) e (K1 b f t l now y ids h q)
structure RS7 where
  y : Int
  ids : Int
  h : Hdr
  q : Int
  e : Int
  hr : RdOk b q
  hy : 0 ≤ y ∧ y < 256
  hi : 0 ≤ ids ∧ ids < 256
  hd : h.dst = zeroA
  j : J (readD b f t l now) e (K2 b t l now y ids h q)
structure RS8 where
  y : Int
  h : Hdr
  q : Int
  e : Int
  hr : RdOk b q
  hy : 0 ≤ y ∧ y < 256
  j : J (readD b f t l now) (failS e (mcast h.dst != bitAt y 8) 5) ((h, 0), q)
end
end Go.Proofs.YtjknkfjhcapocaaDoor.AX

/- Layer 13 by AX2: encode and Encode of the reference. -/
namespace Go.Proofs.YtjknkfjhcapocaaDoor.AX
open Go.RowKit
set_option linter.unusedVariables false
set_option linter.unusedSimpArgs false
def LRp3 : CsL := LRp2
theorem LRp3_ok : AllOk Tryd.prog LRp3 := LRp2_ok
def LRp4 : CsL := LRp3
theorem LRp4_ok : AllOk Tryd.prog LRp4 := LRp3_ok
end Go.Proofs.YtjknkfjhcapocaaDoor.AX

/- Layer 13 by AX2: parse, Decode, Forward, Same of the reference. -/
namespace Go.Proofs.YtjknkfjhcapocaaDoor.AX
open Go.RowKit
set_option linter.unusedVariables false
set_option linter.unusedSimpArgs false
def LRp5 : CsL := LRp4
theorem LRp5_ok : AllOk Tryd.prog LRp5 := LRp4_ok
end Go.Proofs.YtjknkfjhcapocaaDoor.AX

/- Layer 13 by AX2: Decode, Forward, Same of the reference. -/
namespace Go.Proofs.YtjknkfjhcapocaaDoor.AX
open Go.RowKit
set_option linter.unusedVariables false
set_option linter.unusedSimpArgs false
def LRp6 : CsL := LRp5
theorem LRp6_ok : AllOk Tryd.prog LRp6 := LRp5_ok
end Go.Proofs.YtjknkfjhcapocaaDoor.AX

/- Layer 13 by AX2: Forward, Same of the reference. -/
namespace Go.Proofs.YtjknkfjhcapocaaDoor.AX
open Go.RowKit
set_option linter.unusedVariables false
set_option linter.unusedSimpArgs false
def LRp7 : CsL := LRp6
theorem LRp7_ok : AllOk Tryd.prog LRp7 := LRp6_ok
theorem eqFrom_self {f : Nat → CV} : ∀ (n off : Nat), (∀ i, i < n → eqCell (f (off + i)) (f (off + i)) = true) → eqFrom f f n off = true := fun n off h => eqFrom_iff.2 h
theorem ip_self (a : Fin 16 → Int) (g : Nat → CV) (h : ∀ j, j < 16 → g j = .int .u8 (vget a j)) : eqFrom g g 16 0 = true := eqFrom_self 16 0 fun i hi => by
  rw [Nat.zero_add, h i hi]
  show (vget a i == vget a i) = true
  exact beq_self_eq_true _
set_option maxHeartbeats 8000000 in
set_option maxRecDepth 20000 in
theorem rsame_ok (p : Pkt) (hl : p.2.length ≤ 140737488355328) : PureOk Tryd.prog 18 [cPk.enc p, cPk.enc p] (cB.enc true) := by
  refine pure_intro (wd := 1) (Q := mkQ LRp7) (by decide) tysOk (q_of LRp7_ok) mixed Tryd.func18 rfl _ (by show 2 ≤ _; decide) _ ?_
  repeat' (first | (apply And.intro <;> intro hc <;> (first | exact Bool.noConfusion hc | (exfalso; first | exact absurd rfl hc | exact absurd (beq_self_eq_true _) (by rw [hc]; decide) | exact Bool.noConfusion ((ip_self p.1.src _ fun j hj => tailC_src (by omega) hj).symm.trans hc) | exact Bool.noConfusion ((ip_self p.1.dst _ fun j hj => tailC_dst (by omega) hj).symm.trans hc)) | (simp only [decide_eq_true_eq, decide_eq_false_iff_not, Bool.not_eq_true', Bool.not_eq_false', beq_iff_eq, beq_eq_false_iff_ne, bne_iff_ne, bne_eq_false_iff_eq, Bool.true_eq_false, Bool.false_eq_true, ne_eq, not_true_eq_false] at hc <;> first | exact absurd rfl hc | (exfalso; first | exact absurd rfl hc | exact absurd (beq_self_eq_true _) (by rw [hc]; decide) | exact Bool.noConfusion ((ip_self p.1.src _ fun j hj => tailC_src (by omega) hj).symm.trans hc) | exact Bool.noConfusion ((ip_self p.1.dst _ fun j hj => tailC_dst (by omega) hj).symm.trans hc)) | skip) | skip)) | (refine And.intro (by first | exact trivial | decide | omega | (dsimp only; omega) | exact fun _ _ => rfl | exact ⟨by assumption, by first | exact trivial | decide | omega | (dsimp only; omega)⟩) ?_) | (apply And.intro) | (intro s hs; skip))
  · exact fun _ => rfl
  · exact fun _ => rfl
  · dsimp only; rw [toL_b]; omega
  · have q : s = true := by
      rw [hs]
      dsimp only
      exact decide_eq_true rfl
    exact Done.mk (leF_bool q)
/-- Same, asked only where the packets are equal. -/
abbrev rsameE : Entry := pureE (AC.cons cPk (AC.cons cPk AC.nil)) (fun a => a.1 = a.2.1 ∧ a.1.2.length ≤ 140737488355328) (fun a => true) cB.enc
def LRp : CsL := (18, some rsameE) :: LRp7
theorem LRp_ok : AllOk Tryd.prog LRp := ⟨pureE_ok ⟨_, Tryd.func18, rfl, by kernel_rfl⟩ fun a h => by
  obtain ⟨p, q, u⟩ := a
  obtain ⟨h1, h2⟩ := h
  have h1 : p = q := h1
  subst h1
  exact rsame_ok p h2, LRp7_ok⟩
end Go.Proofs.YtjknkfjhcapocaaDoor.AX

/- What the maker Packet draws from a tape. -/
namespace Go.Proofs.YtjknkfjhcapocaaDoor.AX
open Go.RowKit
set_option linter.unusedVariables false
set_option linter.unusedSimpArgs false
theorem fin_mk {n : Nat} {l : List Int} {H : Hp} {g : Nat → CV} {m : Nat} (cls flow nxt hops : Int) (src dst : Fin 16 → Int) (sp dp : Int) (pay : List Int) (q : Int) (hm : m = 39)
    (hc : ∀ j, j < 38 → LeC ⟨H, [(0, some (tapeN n (rI l) q))], [], 1, true⟩ (g j) (eHd.cell ⟨cls, flow, nxt, hops, src, dst, sp, dp⟩ j))
    (hl : LeC ⟨H, [(0, some (tapeN n (rI l) q))], [], 1, true⟩ (g 38) (slR eB pay))
    (hE : WkE ⟨H, [(0, some (tapeN n (rI l) q))], [], 1, true⟩ (tapeN n (rI l) q) (some 0)) (hT : TapeOk n (rI l) q) (hP : PkM (⟨cls, flow, nxt, hops, src, dst, sp, dp⟩, pay)) :
    ∃ r : Pkt × Int, (PkM r.1 ∧ TapeOk n (rI l) r.2) ∧ FinM (.e (tailR eHd eB r.1)) (tapeN n (rI l) r.2) (.e (.agg m g)) H :=
  ⟨((⟨cls, flow, nxt, hops, src, dst, sp, dp⟩, pay), q), ⟨hP, hT⟩, ⟨leF_e (leE_tail hm hc hl), hE⟩⟩
theorem sz_r (p : Pkt) (h : p.2.length = 0) : sizeP p = 40 ∨ sizeP p = 48 := by
  unfold sizeP
  split <;> omega
theorem sz_eq (p : Pkt) (h : p.2.length = 0) : sizeP p = if p.1.nxt = 17 then 48 else 40 := by
  unfold sizeP
  rw [h]
  exact Int.add_zero _
theorem flow_r {s : Int} (h : 0 ≤ s ∧ s < 1048576) : 0 ≤ IntKind.u32.wrap s ∧ IntKind.u32.wrap s < 1048576 := by
  rw [IntWalk.u32_in s (by omega)]; exact h
theorem nff_tail {p : Pkt} : NFF (.e (tailR eHd eB p)) := nfE_tail
theorem fill_sz {nxt : Int} {zl : List Int} {z1 z0 : Int} {p : Pkt} (hz1 : z1 = sizeP p) (hp : p.2.length = 0) (hn : p.1.nxt = nxt) (h0 : 0 ≤ z0 ∧ z0 < 2) (h : BL zl ∧ (zl.length : Int) = IntKind.i64.wrap (IntKind.i64.wrap (1280 - z1) - z0)) : (if nxt = 17 then (48 : Int) else 40) + zl.length ≤ 1280 := by
  rw [sz_eq p hp, hn] at hz1
  have e1 : z1 = 40 ∨ z1 = 48 := by rw [hz1]; split <;> omega
  have w1 : IntKind.i64.wrap (1280 - z1) = 1280 - z1 := IntWalk.i64_in _ (by omega)
  have w2 : IntKind.i64.wrap (1280 - z1 - z0) = 1280 - z1 - z0 := IntWalk.i64_in _ (by omega)
  have h2 := h.2
  rw [w1, w2] at h2
  rw [← hz1]; omega
theorem byte_sz {nxt : Int} {zl : List Int} (h : BL zl ∧ (zl.length : Int) ≤ 12) : (if nxt = 17 then (48 : Int) else 40) + zl.length ≤ 1280 := by
  have := h.2
  split <;> omega
theorem mc_no {a' : Fin 16 → Int} {s : Bool} (hs : s = mcast a') (hc : s = false) : vget a' 0 ≠ 255 := by
  rw [hs] at hc
  unfold mcast at hc
  exact of_decide_eq_false hc
theorem zz256 : (0 : Int) ≤ 0 ∧ (0 : Int) < 256 := by decide
theorem zzf : (0 : Int) ≤ 0 ∧ (0 : Int) < 1048576 := by decide
theorem zz16 : (0 : Int) ≤ 0 ∧ (0 : Int) < 65536 := by decide
set_option maxHeartbeats 16000000 in
set_option maxRecDepth 20000 in
theorem packet_ok (n : Nat) (l : List Int) (q : Int) (a1 a2 : Adr) (ht : TapeOk n (rI l) q) :
    ∃ (r : Pkt) (q' : Int), PkM r ∧ TapeOk n (rI l) q' ∧ MethOk Tryd.prog 11 [(cE eAdr).enc a1, (cE eAdr).enc a2] (tapeN n (rI l) q) (.e (tailR eHd eB r)) (tapeN n (rI l) q') := by
  refine tape_intro (S := PkM) (enc := fun r => .e (tailR eHd eB r)) (wd := 1) (Q := mkQ LM) (by decide) tysOk (q_of LM_ok) mixed Tryd.func11 rfl _ (by show 2 + 1 ≤ _; decide) (fun _ => nff_tail) ?_
  repeat' (first | (apply And.intro <;> intro hc <;> (first | exact Bool.noConfusion hc | (simp only [decide_eq_true_eq, decide_eq_false_iff_not, Bool.not_eq_true', Bool.not_eq_false', beq_iff_eq, beq_eq_false_iff_ne, bne_iff_ne, bne_eq_false_iff_eq, Bool.true_eq_false, Bool.false_eq_true] at hc) | skip)) | (refine And.intro (by first | exact trivial | decide | omega | (dsimp only; omega) | exact fun _ _ => rfl | exact ⟨by assumption, by first | exact trivial | decide | omega | (dsimp only; omega)⟩) ?_) | (apply And.intro) | (intro s hs))
  all_goals first
    | exact Nat.le_trans (Nat.le_of_eq (toL_len _ _ _)) (Nat.zero_le _)
    | (rename_i s1 hs1 s0 hs0
       have e1 : s1 = 40 ∨ s1 = 48 := by rw [hs1]; exact sz_r _ rfl
       have e0 : 0 ≤ s0 ∧ s0 < 2 := hs0
       have w1 : IntKind.i64.wrap (1280 - s1) = 1280 - s1 := IntWalk.i64_in _ (by omega)
       have w2 : IntKind.i64.wrap (1280 - s1 - s0) = 1280 - s1 - s0 := IntWalk.i64_in _ (by omega)
       first
         | (show 0 ≤ IntKind.i64.wrap (IntKind.i64.wrap (1280 - s1) - s0); rw [w1, w2]; omega)
         | (show IntKind.i64.wrap (IntKind.i64.wrap (1280 - s1) - s0) ≤ 2000; rw [w1, w2]; omega))
    | skip
  all_goals first
    | (apply fin_mk (src := setV _ 0 32)
       · rfl
       · intro j hj
         iterate 38 (rcases j with _ | j; exact leC_int rfl)
         exact absurd hj (by omega)
       · exact leC_sl (fun _ => rfl) rfl rfl fun i _ j _ => leC_int rfl
       · exact tapeN_le
       · assumption
       · apply pkM_mk
         · first | exact u8r _ | exact zz256
         · first | exact flow_r (by assumption) | exact zzf
         · exact pick5 0 _ _ _ _ _ (by omega) _
         · exact pick5 0 _ _ _ _ _ (by omega) _
         · exact setV_ok (by assumption) (by omega)
         · assumption
         · first | assumption | exact zz16
         · first | assumption | exact zz16
         · exact (show BL _ ∧ _ from by assumption).1
         · show (32 : Int) ≠ 255; decide
         · first
             | exact byte_sz (by assumption)
             | (refine fill_sz (by assumption) ?_ ?_ (by assumption) (by assumption)
                · exact toL_len _ _ _
                · rfl)
         · first | exact .inl (by assumption) | exact .inr ⟨rfl, rfl⟩)
    | (apply fin_mk
       · rfl
       · intro j hj
         iterate 38 (rcases j with _ | j; exact leC_int rfl)
         exact absurd hj (by omega)
       · exact leC_sl (fun _ => rfl) rfl rfl fun i _ j _ => leC_int rfl
       · exact tapeN_le
       · assumption
       · apply pkM_mk
         · first | exact u8r _ | exact zz256
         · first | exact flow_r (by assumption) | exact zzf
         · exact pick5 0 _ _ _ _ _ (by omega) _
         · exact pick5 0 _ _ _ _ _ (by omega) _
         · assumption
         · assumption
         · first | assumption | exact zz16
         · first | assumption | exact zz16
         · exact (show BL _ ∧ _ from by assumption).1
         · (have hmc := mc_no (by assumption) (by assumption); exact hmc)
         · first
             | exact byte_sz (by assumption)
             | (refine fill_sz (by assumption) ?_ ?_ (by assumption) (by assumption)
                · exact toL_len _ _ _
                · rfl)
         · first | exact .inl (by assumption) | exact .inr ⟨rfl, rfl⟩)
    | skip
end Go.Proofs.YtjknkfjhcapocaaDoor.AX

/- The laws about packets: made, known, all contracts. -/
namespace Go.Proofs.YtjknkfjhcapocaaDoor.AX
open Go.RowKit
set_option linter.unusedVariables false
set_option linter.unusedSimpArgs false
abbrev packE : Entry := tapeE (AC.cons (cE eAdr) (AC.cons (cE eAdr) AC.nil)) (fun _ => True) (fun a (r : Pkt) => PkM r) (fun r => .e (tailR eHd eB r))
def LMp : CsL := (11, some packE) :: LM0
theorem LMp_ok : AllOk Tryd.prog LMp := ⟨tapeE_ok ⟨_, Tryd.func11, rfl, by kernel_rfl⟩ fun n l q a ht hp => packet_ok n l q a.1 a.2.1 ht, LM0_ok⟩
end Go.Proofs.YtjknkfjhcapocaaDoor.AX

/- Cells that hold bytes; laws of encoded headers. -/
namespace Go.Proofs.YtjknkfjhcapocaaDoor.AX
open Go.RowKit
set_option linter.unusedVariables false
set_option linter.unusedSimpArgs false
/-- n cells hold bytes. -/
structure IsB (F : Nat → Nat → CV) (n : Nat) : Prop where
  at_ : ∀ k, k < n → ∃ x, F k 0 = .int .u8 x ∧ 0 ≤ x ∧ x < 256
theorem bl_app {a c : List Int} (h1 : BL a) (h2 : BL c) : BL (a ++ c) := ⟨fun x hx => (List.mem_append.1 hx).elim (h1.m x) (h2.m x)⟩
theorem bl_1 {x : Int} (h : 0 ≤ x ∧ x < 256) : BL [x] := ⟨fun y hy => by rw [List.mem_singleton.1 hy]; exact h⟩
theorem bl_if {c : Prop} [Decidable c] {a d : List Int} (h1 : BL a) (h2 : BL d) : BL (if c then a else d) := by
  split
  · exact h1
  · exact h2
theorem beB_bl (v n : Int) : BL (beB v n) := by
  unfold beB
  split
  · exact beN_BL _ _
  · exact BL.nil
theorem iids_bl (y : Int) (k : Adr) : BL (iidsF y k).2 := by
  unfold iidsF
  split
  · exact BL.nil
  · split
    · exact beB_bl y 2
    · exact beB_bl y 8
theorem uni_bl {a : Fin 16 → Int} (ha : byteOk a) (k : Adr) (s : Bool) (l : List Ctx) (now : Int) : BL (uniF a k s l now).2 := by
  unfold uniF
  split
  · exact BL.nil
  · split
    · exact iids_bl _ _
    · split
      · exact iids_bl _ _
      · exact ipBL ha
theorem grp_bl {a : Fin 16 → Int} (ha : byteOk a) : BL (grpF a).2 := by
  have hv : ∀ i, 0 ≤ vget a i ∧ vget a i < 256 := fun i => ha.v i
  unfold grpF
  split
  · exact bl_1 (hv _)
  · split
    · exact ⟨fun x hx => by
        simp only [List.mem_cons, List.not_mem_nil, or_false] at hx
        rcases hx with rfl | rfl | rfl | rfl <;> exact hv _⟩
    · split
      · exact ⟨fun x hx => by
          simp only [List.mem_cons, List.not_mem_nil, or_false] at hx
          rcases hx with rfl | rfl | rfl | rfl | rfl | rfl <;> exact hv _⟩
      · exact ipBL ha
theorem sec_r {s d : Fm} (hs : FmW s) (hd : FmW d) (m : Bool) : 0 ≤ secF s d m ∧ secF s d m < 256 := by
  have h1 := hs.mode
  have h2 := hd.mode
  unfold secF
  have b1 := bitV_r (decide (16 * s.id + d.id ≠ 0)) 128 (by decide)
  have b2 := bitV_r s.ctx 64 (by decide)
  have b3 := bitV_r m 8 (by decide)
  have b4 := bitV_r d.ctx 4 (by decide)
  omega
theorem inl_bl {p : Pkt} (hp : PkW p) : BL (inlF p) := by
  unfold inlF
  refine bl_app (bl_app ?_ (bl_if BL.nil (bl_1 hp.nxt))) (bl_if (bl_1 hp.hops) BL.nil)
  unfold flowF
  split
  · exact bl_app (bl_1 hp.cls) (beB_bl _ _)
  · split
    · exact bl_app BL.nil (beB_bl _ _)
    · split
      · exact bl_1 hp.cls
      · exact BL.nil
theorem dst_w (p : Pkt) (t : Adr) (l : List Ctx) (now : Int) : FmW (dstF p t l now).1 := by
  unfold dstF
  split
  · exact grp_w _
  · exact uni_w _ _ _ _ _
theorem encI_bl {p : Pkt} (hp : PkW p) (f t : Adr) (l : List Ctx) (now : Int) : BL (encI p f t l now).1 := by
  have hb1 : byteOk p.1.src := ⟨fun q => by have := hp.src q.1; rw [vget_lt _ q.2] at this; exact this⟩
  have hb2 : byteOk p.1.dst := ⟨fun q => by have := hp.dst q.1; rw [vget_lt _ q.2] at this; exact this⟩
  unfold encI
  split
  · exact BL.nil
  · split
    · exact BL.nil
    · dsimp only
      unfold joinH
      have hw1 := uni_w p.1.src f true l now
      have hw2 := dst_w p t l now
      refine bl_app (bl_app (bl_app (bl_app ?_ (bl_if (bl_1 ?_) BL.nil)) (inl_bl hp)) (uni_bl hb1 _ _ _ _)) ?_
      · have h1 := first_r p
        have h2 := sec_r hw1 hw2 (mcast p.1.dst)
        exact ⟨fun x hx => by
          simp only [List.mem_cons, List.not_mem_nil, or_false] at hx
          rcases hx with rfl | rfl
          · omega
          · exact h2⟩
      · have h1 := hw1.id
        have h2 := hw2.id
        omega
      · unfold dstF
        split
        · exact grp_bl hb2
        · exact uni_bl hb2 _ _ _ _
theorem encI_len (p : Pkt) (f t : Adr) (l : List Ctx) (now : Int) : (encI p f t l now).1.length ≤ 41 := by
  have h1 := uni_len p.1.src f true l now
  have h2 := dst_len p t l now
  have h3 := inl_len p
  unfold encI
  split
  · exact Nat.zero_le _
  · split
    · exact Nat.zero_le _
    · dsimp only
      rw [join_len]
      split <;> omega
end Go.Proofs.YtjknkfjhcapocaaDoor.AX

/- A header that was encoded is read back: plain laws. -/
namespace Go.Proofs.YtjknkfjhcapocaaDoor.AX
open Go.RowKit
set_option linter.unusedVariables false
set_option linter.unusedSimpArgs false
theorem num_at {C w post : List Int} {q n : Int} (h0 : 0 ≤ q) (h : C.drop q.toNat = w ++ post) (hn : (w.length : Int) = n) (h1 : 1 ≤ n ∧ n ≤ 8) : numF C q n = ((beVal w, 0), q + n) ∧ C.drop (q + n).toNat = post := by
  have hl : C.length - q.toNat = w.length + post.length := by rw [← List.length_drop, h, List.length_append]
  have hu : uintF C q n = (beVal w, true) := by
    unfold uintF
    rw [if_pos (by omega), h, show n.toNat = w.length by omega, List.take_left']
    rfl
  refine ⟨?_, ?_⟩
  · unfold numF
    rw [hu]
    exact if_pos rfl
  · rw [show (q + n).toNat = q.toNat + w.length by omega, ← List.drop_drop, h, List.drop_left']
    rfl
theorem ip_back {C post : List Int} {a : Fin 16 → Int} {q : Int} (h0 : 0 ≤ q) (h : C.drop q.toNat = ipL a ++ post) : ipRF C q = ((a, 0), q + 16) ∧ C.drop (q + 16).toNat = post := by
  have hl : C.length - q.toNat = 16 + post.length := by rw [← List.length_drop, h, List.length_append, ipL_len]
  refine ⟨?_, ?_⟩
  · unfold ipRF
    rw [if_neg (by omega)]
    congr 2
    funext i
    have hi := i.2
    show C.getD (q.toNat + i.1) default = a i
    have e : C.getD (q.toNat + i.1) default = (C.drop q.toNat).getD i.1 default := (getD_dropI _ _ _).symm
    rw [e, h, List.getD_eq_getElem?_getD, List.getElem?_append_left (by rw [ipL_len]; exact hi), ← List.getD_eq_getElem?_getD, ipL_get a hi]
    exact vget_lt _ hi
  · rw [show (q + 16).toNat = q.toNat + (ipL a).length by rw [ipL_len]; omega, ← List.drop_drop, h, List.drop_left']
    rfl
theorem sec_bits {s d : Fm} (hs : FmW s) (hd : FmW d) (m : Bool) : bitAt (secF s d m) 64 = s.ctx ∧ secF s d m / 16 % 4 = s.mode ∧ bitAt (secF s d m) 8 = m ∧ bitAt (secF s d m) 4 = d.ctx ∧ secF s d m % 4 = d.mode ∧ (128 ≤ secF s d m ↔ 16 * s.id + d.id ≠ 0) := by
  have h1 := hs.mode
  have h2 := hd.mode
  have key : ∀ (i c m e : Bool) (x y : Int), 0 ≤ x ∧ x ≤ 3 → 0 ≤ y ∧ y ≤ 3 → ∀ z, z = bitV i 128 + bitV c 64 + 16 * x + bitV m 8 + bitV e 4 + y → bitAt z 64 = c ∧ z / 16 % 4 = x ∧ bitAt z 8 = m ∧ bitAt z 4 = e ∧ z % 4 = y ∧ (128 ≤ z ↔ i = true) := by
    intro i c m e x y hx hy z hz
    unfold bitAt
    cases i <;> cases c <;> cases m <;> cases e <;> simp only [bitV, if_true, if_false, Bool.false_eq_true] at hz <;>
      refine ⟨?_, by omega, ?_, ?_, by omega, ?_⟩ <;> first
        | exact decide_eq_true (by omega)
        | exact decide_eq_false (by omega)
        | exact ⟨fun _ => rfl, fun _ => by omega⟩
        | exact ⟨fun h => absurd h (by omega), fun h => Bool.noConfusion h⟩
  obtain ⟨a1, a2, a3, a4, a5, a6⟩ := key (decide (16 * s.id + d.id ≠ 0)) s.ctx m d.ctx s.mode d.mode h1 h2 _ rfl
  exact ⟨a1, a2, a3, a4, a5, a6.trans decide_eq_true_iff⟩
theorem beVal_1 (x : Int) : beVal [x] = x := by
  have := beVal_snoc [] x
  rw [List.nil_append] at this
  rw [this]
  show beVal [] * 256 + x = x
  rw [show beVal [] = 0 from rfl]
  omega
theorem start_back {C inl : List Int} {x y ids : Int} (hx : 96 ≤ x ∧ x ≤ 127) (hb : badY y = false) (hy : 128 ≤ y ↔ ids ≠ 0) (h : C = [x, y] ++ (if ids ≠ 0 then [ids] else []) ++ inl) :
    ∃ k, 0 ≤ k ∧ startF C 0 = (((x, y, ids), 0), k) ∧ C.drop k.toNat = inl := by
  have d0 : C.drop (0 : Int).toNat = [x] ++ ([y] ++ ((if ids ≠ 0 then [ids] else []) ++ inl)) := by rw [h]; simp
  obtain ⟨a1, a2⟩ := num_at (n := 1) (Int.le_refl 0) d0 rfl (by decide)
  obtain ⟨b1, b2⟩ := num_at (n := 1) (by decide) a2 rfl (by decide)
  unfold startF
  rw [a1, thenD_ok, beVal_1, if_neg (by omega), b1, thenD_ok, beVal_1, if_neg (by rw [hb]; decide)]
  by_cases hi : ids = 0
  · rw [if_neg (by rw [hy]; exact fun g => g hi)]
    subst hi
    exact ⟨_, by decide, rfl, by simpa using b2⟩
  · rw [if_pos (hy.2 hi)]
    rw [if_pos hi] at b2
    obtain ⟨c1, c2⟩ := num_at (n := 1) (by decide) b2 rfl (by decide)
    rw [c1, thenD_ok, beVal_1]
    exact ⟨_, by decide, rfl, c2⟩
theorem hop_back (h : Int) : (hopF h = 0 ∧ True) ∨ ((hopF h = 1 ∨ hopF h = 2 ∨ hopF h = 3) ∧ hopV (hopF h) = h) := by
  unfold hopF
  split
  · rename_i g; exact .inr ⟨.inl rfl, by rw [g]; rfl⟩
  · split
    · rename_i g; exact .inr ⟨.inr (.inl rfl), by rw [g]; rfl⟩
    · split
      · rename_i g; exact .inr ⟨.inr (.inr rfl), by rw [g]; rfl⟩
      · exact .inl ⟨rfl, trivial⟩
theorem beB3 {v : Int} (h : 0 ≤ v ∧ v < 16777216) : (beB v 3).length = 3 ∧ beVal (beB v 3) = v := by
  have e : beB v 3 = beN v 3 := by unfold beB; rw [if_pos (by decide)]; rfl
  rw [e]
  exact ⟨beN_len v 3, beVal_beN 3 v h.1 h.2⟩
/-- What is read behind class and flow. -/
def fldG (C : List Int) (x c fl q : Int) : RD Hdr := if 1048575 < fl then ((zeroH, 5), q) else
  thenD (if x / 4 % 2 = 0 then numF C q 1 else ((17, 0), q)) zeroH fun nx q => if x / 4 % 2 = 0 ∧ nx = 17 then ((zeroH, 5), q) else
  thenD (if x % 4 = 0 then numF C q 1 else ((hopV (x % 4), 0), q)) zeroH fun hp q => ((⟨c, fl, nx, hp, zeroA, zeroA, 0, 0⟩, 0), q)
theorem flow_back {p : Pkt} (hp : PkW p) (hf : p.1.flow ≤ 1048575) {C post : List Int} {k x : Int} (hx : x / 8 % 4 = (flowF p).1) (h0 : 0 ≤ k) (h : C.drop k.toNat = (flowF p).2 ++ post) :
    ∃ k1, 0 ≤ k1 ∧ fieldsD C x k = fldG C x p.1.cls p.1.flow k1 ∧ C.drop k1.toNat = post := by
  obtain ⟨l3, v3⟩ := beB3 (v := p.1.flow) ⟨hp.flow.1, by omega⟩
  have e : fieldsD C x k = thenD (if x / 8 % 4 = 0 ∨ x / 8 % 4 = 2 then numF C k 1 else ((0, 0), k)) zeroH fun c q => thenD (if x / 8 % 4 = 0 ∨ x / 8 % 4 = 1 then numF C q 3 else ((0, 0), q)) zeroH fun fl q => fldG C x c fl q := rfl
  rw [e, hx]
  unfold flowF at h ⊢
  by_cases c1 : p.1.cls ≠ 0 ∧ p.1.flow ≠ 0
  · rw [if_pos c1] at h ⊢
    rw [List.append_assoc] at h
    obtain ⟨a1, a2⟩ := num_at (n := 1) h0 h rfl (by decide)
    obtain ⟨b1, b2⟩ := num_at (n := 3) (by omega) a2 (by rw [l3]; rfl) (by decide)
    rw [if_pos (.inl rfl), a1, thenD_ok, if_pos (.inl rfl), b1, thenD_ok, beVal_1, v3]
    exact ⟨_, by omega, rfl, b2⟩
  · rw [if_neg c1] at h ⊢
    by_cases c2 : p.1.flow ≠ 0
    · have hc : p.1.cls = 0 := by
        by_cases g : p.1.cls = 0
        · exact g
        · exact absurd ⟨g, c2⟩ c1
      rw [if_pos c2] at h ⊢
      obtain ⟨b1, b2⟩ := num_at (n := 3) (w := beB p.1.flow 3) h0 h (by rw [l3]; rfl) (by decide)
      rw [if_neg (show ¬ ((1 : Int) = 0 ∨ (1 : Int) = 2) by decide), thenD_ok, if_pos (.inr rfl), b1, thenD_ok, v3, hc]
      exact ⟨_, by omega, rfl, b2⟩
    · have hfl : p.1.flow = 0 := by
        by_cases g : p.1.flow = 0
        · exact g
        · exact absurd g c2
      rw [if_neg c2] at h ⊢
      by_cases c3 : p.1.cls ≠ 0
      · rw [if_pos c3] at h ⊢
        obtain ⟨a1, a2⟩ := num_at (n := 1) h0 h rfl (by decide)
        rw [if_pos (.inr rfl), a1, thenD_ok, if_neg (show ¬ ((2 : Int) = 0 ∨ (2 : Int) = 1) by decide), thenD_ok, beVal_1, hfl]
        exact ⟨_, by omega, rfl, a2⟩
      · have hc : p.1.cls = 0 := by
          by_cases g : p.1.cls = 0
          · exact g
          · exact absurd g c3
        rw [if_neg c3] at h ⊢
        rw [if_neg (show ¬ ((3 : Int) = 0 ∨ (3 : Int) = 2) by decide), thenD_ok, if_neg (show ¬ ((3 : Int) = 0 ∨ (3 : Int) = 1) by decide), thenD_ok, hfl, hc]
        exact ⟨_, h0, rfl, h⟩
theorem flow_rng (p : Pkt) : 0 ≤ (flowF p).1 ∧ (flowF p).1 ≤ 3 := by
  unfold flowF
  split
  · exact ⟨(by decide : (0 : Int) ≤ 0), (by decide : (0 : Int) ≤ 3)⟩
  · split
    · exact ⟨(by decide : (0 : Int) ≤ 1), (by decide : (1 : Int) ≤ 3)⟩
    · split
      · exact ⟨(by decide : (0 : Int) ≤ 2), (by decide : (2 : Int) ≤ 3)⟩
      · exact ⟨(by decide : (0 : Int) ≤ 3), (by decide : (3 : Int) ≤ 3)⟩
theorem fields_back {p : Pkt} (hp : PkW p) (hf : p.1.flow ≤ 1048575) {C post : List Int} {k : Int} (h0 : 0 ≤ k) (h : C.drop k.toNat = inlF p ++ post) :
    ∃ k', 0 ≤ k' ∧ fieldsD C (firstF p) k = ((⟨p.1.cls, p.1.flow, p.1.nxt, p.1.hops, zeroA, zeroA, 0, 0⟩, 0), k') ∧ C.drop k'.toNat = post := by
  have hF := flow_rng p
  have hH : 0 ≤ hopF p.1.hops ∧ hopF p.1.hops ≤ 3 := by
    rcases hop_back p.1.hops with ⟨g, _⟩ | ⟨g | g | g, _⟩ <;> omega
  obtain ⟨x, ex⟩ : ∃ x, firstF p = x := ⟨_, rfl⟩
  have hx : x = 96 + 8 * (flowF p).1 + bitV (decide (p.1.nxt = 17)) 4 + hopF p.1.hops := by rw [← ex]; rfl
  have hb := bitV_r (decide (p.1.nxt = 17)) 4 (by decide)
  rw [ex]
  unfold inlF at h
  rw [List.append_assoc, List.append_assoc] at h
  obtain ⟨k1, g0, g1, g2⟩ := flow_back hp hf (x := x) (by omega) h0 h
  rw [g1]
  unfold fldG
  rw [if_neg (by omega)]
  -- the next header
  have s2 : ∃ k2, 0 ≤ k2 ∧ (thenD (if x / 4 % 2 = 0 then numF C k1 1 else ((17, 0), k1)) zeroH fun nx q => if x / 4 % 2 = 0 ∧ nx = 17 then ((zeroH, 5), q) else
      thenD (if x % 4 = 0 then numF C q 1 else ((hopV (x % 4), 0), q)) zeroH fun hp q => ((⟨p.1.cls, p.1.flow, nx, hp, zeroA, zeroA, 0, 0⟩, 0), q)) =
      (thenD (if x % 4 = 0 then numF C k2 1 else ((hopV (x % 4), 0), k2)) zeroH fun hp q => ((⟨p.1.cls, p.1.flow, p.1.nxt, hp, zeroA, zeroA, 0, 0⟩, 0), q)) ∧ C.drop k2.toNat = (if hopF p.1.hops = 0 then [p.1.hops] else []) ++ post := by
    by_cases hn : p.1.nxt = 17
    · rw [if_pos hn] at g2
      rw [decide_eq_true hn] at hx
      have hx4 : x / 4 % 2 = 1 := by
        have : bitV true 4 = 4 := rfl
        omega
      rw [hx4, if_neg (show ¬ (1 : Int) = 0 by decide), thenD_ok, if_neg (fun g => absurd g.1 (by decide)), hn]
      exact ⟨_, g0, rfl, g2⟩
    · rw [if_neg hn] at g2
      rw [decide_eq_false hn] at hx
      have hx4 : x / 4 % 2 = 0 := by
        have : bitV false 4 = 0 := rfl
        omega
      obtain ⟨a1, a2⟩ := num_at (n := 1) g0 g2 rfl (by decide)
      rw [hx4, if_pos rfl, a1, thenD_ok, beVal_1, if_neg (fun g => hn g.2)]
      exact ⟨_, by omega, rfl, a2⟩
  obtain ⟨k2, n0, n1, n2⟩ := s2
  rw [n1]
  have hx3 : x % 4 = hopF p.1.hops := by
    cases hd : decide (p.1.nxt = 17) with
    | true => rw [hd] at hx; have : bitV true 4 = 4 := rfl; omega
    | false => rw [hd] at hx; have : bitV false 4 = 0 := rfl; omega
  rw [hx3]
  rcases hop_back p.1.hops with ⟨g, _⟩ | ⟨g, g'⟩
  · rw [if_pos g] at n2
    obtain ⟨a1, a2⟩ := num_at (n := 1) n0 n2 rfl (by decide)
    rw [if_pos g, a1, thenD_ok, beVal_1]
    exact ⟨_, by omega, rfl, a2⟩
  · have hne : ¬ hopF p.1.hops = 0 := by omega
    rw [if_neg hne] at n2
    rw [if_neg hne, thenD_ok, g']
    exact ⟨_, n0, rfl, n2⟩
theorem nat_andNot {n : Nat} (h : n < 18446744073709551616) : n &&& 18446744073709486080 = n / 65536 * 65536 := by
  apply Nat.eq_of_testBit_eq
  intro j
  rw [Nat.testBit_and, show (18446744073709486080 : Nat) = (2 ^ 48 - 1) * 2 ^ 16 from rfl, Nat.testBit_mul_two_pow, Nat.testBit_two_pow_sub_one, show (65536 : Nat) = 2 ^ 16 from rfl, Nat.testBit_mul_two_pow, Nat.testBit_div_two_pow]
  by_cases h16 : 16 ≤ j
  · rw [show j - 16 + 16 = j by omega]
    by_cases h64 : j < 64
    · simp [h16, show j - 16 < 48 by omega]
    · have : n.testBit j = false := Nat.testBit_lt_two_pow (Nat.lt_of_lt_of_le (show n < 2 ^ 64 from h) (Nat.pow_le_pow_right (n := 2) (by decide) (show 64 ≤ j by omega)))
      rw [this]
      simp
  · simp [h16]
theorem andNot_16 {y : Int} (h : 0 ≤ y ∧ y < 18446744073709551616) : bits .andNot .u64 y 65535 = y / 65536 * 65536 := by
  obtain ⟨n, rfl⟩ : ∃ n : Nat, y = n := ⟨y.toNat, by omega⟩
  have hn : n < 18446744073709551616 := by omega
  have e : (BitVec.ofInt 64 (n : Int) &&& ~~~ (BitVec.ofInt 64 65535)).toNat = n / 65536 * 65536 := by
    rw [BitVec.toNat_and, BitVec.toNat_not, show (BitVec.ofInt 64 65535).toNat = 65535 from rfl, ← nat_andNot hn]
    congr 1
    rw [BitVec.ofInt_natCast, BitVec.toNat_ofNat]
    exact Nat.mod_eq_of_lt hn
  show IntKind.u64.wrap (((BitVec.ofInt 64 (n : Int) &&& ~~~ (BitVec.ofInt 64 65535)).toNat : Nat) : Int) = _
  rw [e]
  refine (IntWalk.u64_in _ ?_).trans ?_
  · omega
  · omega
theorem beBk2 {v : Int} (h : 0 ≤ v ∧ v < 18446744073709551616) : (beB v 2).length = 2 ∧ beVal (beB v 2) = v % 65536 := by
  have e : beB v 2 = beN (v % 65536) 2 := by
    unfold beB
    rw [if_pos (by decide)]
    show [v / 256 ^ 1 % 256, v / 256 ^ 0 % 256] = [v % 65536 / 256 ^ 1 % 256, v % 65536 / 256 ^ 0 % 256]
    rw [Int.pow_zero, show (256 : Int) ^ 1 = 256 from rfl]
    congr 1
    · omega
    · congr 1
      omega
  rw [e]
  exact ⟨beN_len _ 2, beVal_beN 2 _ (by omega) (by show v % 65536 < 65536; omega)⟩
theorem beB8' {v : Int} (h : 0 ≤ v ∧ v < 18446744073709551616) : (beB v 8).length = 8 ∧ beVal (beB v 8) = v := by
  rw [beB8]
  exact ⟨beN_len v 8, beVal_beN 8 v h.1 h.2⟩
theorem iids_back {C post : List Int} {q lo : Int} {k : Adr} {P : Pfx} (hlo : 0 ≤ lo ∧ lo < 18446744073709551616) (h0 : 0 ≤ q) (h : C.drop q.toNat = (iidsF lo k).2 ++ post) :
    ((iidsF lo k).1 ≠ 0) ∧ ((iidsF lo k).1 = 3 → (iidF k).2 = true) ∧ ∃ q', 0 ≤ q' ∧ uniV C (iidsF lo k).1 k P q = ((jn P.ip lo, 0), q') ∧ C.drop q'.toNat = post := by
  unfold iidsF at h ⊢
  by_cases c1 : iidF k = (lo, true)
  · rw [if_pos c1] at h ⊢
    refine ⟨(by decide : (3 : Int) ≠ 0), fun _ => congrArg Prod.snd c1, q, h0, ?_, h⟩
    unfold uniV
    rw [if_neg (show ¬ (3 : Int) = 0 by decide), if_neg (show ¬ (3 : Int) = 1 by decide), if_neg (show ¬ (3 : Int) = 2 by decide), c1]
  · rw [if_neg c1] at h ⊢
    by_cases c2 : bits .andNot .u64 lo 65535 = 1099478073344
    · rw [if_pos c2] at h ⊢
      obtain ⟨l2, v2⟩ := beBk2 hlo
      obtain ⟨a1, a2⟩ := num_at (n := 2) h0 h (by rw [l2]; rfl) (by decide)
      rw [andNot_16 hlo] at c2
      refine ⟨(by decide : (2 : Int) ≠ 0), fun h => absurd h (by decide : ¬ (2 : Int) = 3), q + 2, by omega, ?_, a2⟩
      unfold uniV
      rw [if_neg (show ¬ (2 : Int) = 0 by decide), if_neg (show ¬ (2 : Int) = 1 by decide), if_pos rfl, a1, thenD_ok, v2, show lo % 65536 + 1099478073344 = lo by omega]
    · rw [if_neg c2] at h ⊢
      obtain ⟨l8, v8⟩ := beB8' hlo
      obtain ⟨a1, a2⟩ := num_at (n := 8) h0 h (by rw [l8]; rfl) (by decide)
      refine ⟨(by decide : (1 : Int) ≠ 0), fun h => absurd h (by decide : ¬ (1 : Int) = 3), q + 8, by omega, ?_, a2⟩
      unfold uniV
      rw [if_neg (show ¬ (1 : Int) = 0 by decide), if_pos rfl, a1, thenD_ok, v8]
theorem dec_of_com {l : List Ctx} {a : Fin 16 → Int} {now now' : Int} (hn : vt now' = true) (hle : now' ≤ now + 32) (h : (forCom l a now).2 = true) : forDec l (forCom l a now).1.id now' = ((forCom l a now).1, true) := by
  obtain ⟨h1, h2, h3, h4⟩ := forCom_in h
  have hv := valid_lt h1 h3
  unfold mt compr at h4
  simp only [Bool.and_eq_true, decide_eq_true_eq] at h4
  have ht := hv.2.1
  unfold vt at ht
  simp only [Bool.and_eq_true, decide_eq_true_eq] at ht
  have hd : decom (forCom l a now).1 now' = true := by
    unfold decom
    rw [IntWalk.i64_in _ (by omega)]
    exact decide_eq_true (by omega)
  unfold forDec
  rw [if_pos ⟨h1, hn⟩]
  exact find_mem hd h1 h3
theorem uni_back {C post : List Int} {a : Fin 16 → Int} {k : Adr} {src : Bool} {l : List Ctx} {now now' q : Int} (ha : byteOk a) (hm : mcast a = false) (hl : bytesL l) (hn : vt now' = true) (hle : now' ≤ now + 32) (h0 : 0 ≤ q)
    (hz : ¬ (src = true ∧ ipEq a zeroA = true)) (h : C.drop q.toNat = (uniF a k src l now).2 ++ post) :
    (((uniF a k src l now).1.ctx = true → (uniF a k src l now).1.mode ≠ 0) ∧ ∃ q', 0 ≤ q' ∧ uniD C (uniF a k src l now).1.ctx (uniF a k src l now).1.mode k (forDec l (uniF a k src l now).1.id now') q = ((a, 0), q') ∧ C.drop q'.toNat = post) := by
  have hlo := lo_lt ha
  have fin : ∀ x : RD (Fin 16 → Int), ∀ q', x = ((a, 0), q') → thenD x zeroA (fun a q => if mcast a = true then ((zeroA, 5), q) else ((a, 0), q)) = ((a, 0), q') := fun x q' e => by
    rw [e, thenD_ok, if_neg (by rw [hm]; decide)]
  by_cases c1 : hiF a = 18338657682652659712
  · rw [uni_1 hz c1] at h ⊢
    obtain ⟨i1, i2, q', i3, i4, i5⟩ := iids_back (k := k) (P := llP) hlo h0 h
    refine ⟨fun g => Bool.noConfusion g, q', i3, ?_, i5⟩
    unfold uniD
    rw [if_neg (fun g => by have := i2 g.1; rw [this] at g; exact Bool.noConfusion g.2), if_neg (fun g => Bool.noConfusion g.1), if_neg (fun g => Bool.noConfusion g.1)]
    refine fin _ _ (i4.trans ?_)
    rw [(jn_iff llP_b ha).2 (llP_hi.trans c1.symm)]
  · cases hc : coverF a l now with
    | true =>
      rw [uni_2 hz c1 hc] at h ⊢
      have hcv := hc
      unfold coverF at hcv
      simp only [Bool.and_eq_true, decide_eq_true_eq] at hcv
      obtain ⟨⟨c2, c3⟩, c4⟩ := hcv
      obtain ⟨h1, h2, h3, h4⟩ := forCom_in c2
      have hb := hl.b _ h3
      have hd := dec_of_com hn hle c2
      dsimp only at h ⊢
      rw [hd]
      obtain ⟨i1, i2, q', i3, i4, i5⟩ := iids_back (k := k) (P := pfxOf (forCom l a now).1) hlo h0 h
      refine ⟨fun _ => i1, q', i3, ?_, i5⟩
      unfold uniD
      rw [if_neg (fun g => by have := i2 g.1; rw [this] at g; exact Bool.noConfusion g.2), if_neg (fun g => Bool.noConfusion g.2), if_neg (fun g => by have := g.2; dsimp only at this; omega)]
      refine fin _ _ (i4.trans ?_)
      rw [(jn_iff (show byteOk (pfxOf (forCom l a now).1).ip from hb) ha).2 c4]
    | false =>
      rw [uni_3 hz c1 hc] at h ⊢
      obtain ⟨b1, b2⟩ := ip_back h0 h
      refine ⟨fun g => Bool.noConfusion g, q + 16, by omega, ?_, b2⟩
      unfold uniD
      rw [if_neg (fun g => absurd g.1 (by decide : ¬ (0 : Int) = 3)), if_neg (fun g => Bool.noConfusion g.1), if_neg (fun g => Bool.noConfusion g.1)]
      exact fin _ _ b1
theorem grp_back {C post : List Int} {a : Fin 16 → Int} {q : Int} (ha : byteOk a) (hm : mcast a = true) (h0 : 0 ≤ q) (h : C.drop q.toNat = (grpF a).2 ++ post) :
    ∃ q', 0 ≤ q' ∧ grpD C (grpF a).1.mode q = ((a, 0), q') ∧ C.drop q'.toNat = post := by
  have hm0 : vget a 0 = 255 := of_decide_eq_true hm
  have take : ∀ w : List Int, C.drop q.toNat = w ++ post → ∀ n : Nat, w.length = n → (C.drop q.toNat).take n = w := fun w hw n hn => by rw [hw, ← hn]; exact List.take_left' rfl
  unfold grpF at h ⊢
  by_cases c1 : vget a 1 = 2 ∧ zr a 2 15 = true
  · rw [if_pos c1] at h ⊢
    obtain ⟨a1, a2⟩ := num_at (n := 1) h0 h rfl (by decide)
    refine ⟨q + 1, by omega, ?_, a2⟩
    unfold grpD
    rw [if_neg (show ¬ (3 : Int) = 0 by decide)]
    show thenD (numF C q 1) zeroA (fun v q' => ((grpV 1 ((C.drop q.toNat).take 1), 0), q')) = _
    rw [a1, thenD_ok, take _ h 1 rfl]
    congr 2
    refine ip_fun fun i hi => ?_
    have hz := zr_at c1.2
    rcases i with _ | _ | i
    · exact hm0.symm
    · exact c1.1.symm
    · by_cases h15 : i + 2 < 15
      · rw [hz (i + 2) (by omega) h15 hi, vget_lt _ hi]
        unfold grpV
        rw [if_neg (show ¬ i + 1 + 1 = 0 by omega), if_neg (show ¬ i + 1 + 1 = 1 by omega), if_pos (.inr ⟨h15, rfl⟩)]
      · have : i = 13 := by omega
        subst this
        rfl
  · rw [if_neg c1] at h ⊢
    by_cases c2 : zr a 2 13 = true
    · rw [if_pos c2] at h ⊢
      obtain ⟨a1, a2⟩ := num_at (n := 4) h0 h rfl (by decide)
      refine ⟨q + 4, by omega, ?_, a2⟩
      unfold grpD
      rw [if_neg (show ¬ (2 : Int) = 0 by decide)]
      show thenD (numF C q 4) zeroA (fun v q' => ((grpV 4 ((C.drop q.toNat).take 4), 0), q')) = _
      rw [a1, thenD_ok, take _ h 4 rfl]
      congr 2
      refine ip_fun fun i hi => ?_
      have hz := zr_at c2
      rcases i with _ | _ | i
      · exact hm0.symm
      · rfl
      · by_cases h13 : i + 2 < 13
        · rw [hz (i + 2) (by omega) h13 hi, vget_lt _ hi]
          unfold grpV
          rw [if_neg (show ¬ i + 1 + 1 = 0 by omega), if_neg (show ¬ i + 1 + 1 = 1 by omega), if_pos (.inl ⟨by dsimp only; omega, by decide⟩)]
        · rcases (show i = 11 ∨ i = 12 ∨ i = 13 by omega) with rfl | rfl | rfl <;> rfl
    · rw [if_neg c2] at h ⊢
      by_cases c3 : zr a 2 11 = true
      · rw [if_pos c3] at h ⊢
        obtain ⟨a1, a2⟩ := num_at (n := 6) h0 h rfl (by decide)
        refine ⟨q + 6, by omega, ?_, a2⟩
        unfold grpD
        rw [if_neg (show ¬ (1 : Int) = 0 by decide)]
        show thenD (numF C q 6) zeroA (fun v q' => ((grpV 6 ((C.drop q.toNat).take 6), 0), q')) = _
        rw [a1, thenD_ok, take _ h 6 rfl]
        congr 2
        refine ip_fun fun i hi => ?_
        have hz := zr_at c3
        rcases i with _ | _ | i
        · exact hm0.symm
        · rfl
        · by_cases h11 : i + 2 < 11
          · rw [hz (i + 2) (by omega) h11 hi, vget_lt _ hi]
            unfold grpV
            rw [if_neg (show ¬ i + 1 + 1 = 0 by omega), if_neg (show ¬ i + 1 + 1 = 1 by omega), if_pos (.inl ⟨by dsimp only; omega, by decide⟩)]
          · rcases (show i = 9 ∨ i = 10 ∨ i = 11 ∨ i = 12 ∨ i = 13 by omega) with rfl | rfl | rfl | rfl | rfl <;> rfl
      · rw [if_neg c3] at h ⊢
        obtain ⟨b1, b2⟩ := ip_back h0 h
        refine ⟨q + 16, by omega, ?_, b2⟩
        unfold grpD
        rw [if_pos rfl, b1, thenD_ok, if_pos hm]
end Go.Proofs.YtjknkfjhcapocaaDoor.AX

/- A header that was encoded is read back. -/
namespace Go.Proofs.YtjknkfjhcapocaaDoor.AX
open Go.RowKit
set_option linter.unusedVariables false
set_option linter.unusedSimpArgs false
theorem readD_r {b : List Int} {f t : Adr} {l : List Ctx} {now : Int} (h : RdOk b 0) : RdOk b (readD b f t l now).2 := by
  unfold readD
  refine thenD_r (startF_r h) fun s q h => thenD_r (fieldsD_r h) fun hh q h => thenD_r ?_ fun src q h => thenD_r ?_ fun d q h => h
  · unfold srcD
    exact ite_r (uniD_r h) h
  · unfold dstD
    exact ite_r (grpD_r h) (uniD_r h)
theorem decI_back {p : Pkt} (hp : PkW p) (hv : validP p = true) {f t : Adr} (hf : adrValid f = true) (ht : adrValid t = true) {l : List Ctx} (hl : bytesL l) (hlv : validT l = true) {now now' : Int} (hn : vt now = true) (hn' : vt now' = true) (hle : now' ≤ now + 32) {rest : List Int} (hr : BL rest) (hrl : rest.length ≤ 140737488351232) :
    decI ((encI p f t l now).1 ++ rest) f t l now' = ((({ p.1 with sp := 0, dp := 0 }, []), ((encI p f t l now).1.length : Int)), 0) := by
  have hbl := encI_bl hp f t l now
  have hlen := encI_len p f t l now
  have hE := encI_ok hv hf ht hlv hn
  have hcv : p.1.flow ≤ 1048575 ∧ mcast p.1.src = false := by
    unfold validP at hv
    simp only [Bool.and_eq_true, decide_eq_true_eq, Bool.not_eq_true'] at hv
    exact ⟨hv.1.1.1, hv.1.1.2⟩
  have hb1 : byteOk p.1.src := ⟨fun q => by have := hp.src q.1; rw [vget_lt _ q.2] at this; exact this⟩
  have hb2 : byteOk p.1.dst := ⟨fun q => by have := hp.dst q.1; rw [vget_lt _ q.2] at this; exact this⟩
  have wU := uni_w p.1.src f true l now
  have wD := dst_w p t l now
  obtain ⟨c, ec⟩ : ∃ c, (encI p f t l now).1 = c := ⟨_, rfl⟩
  have hc : c = joinH p (uniF p.1.src f true l now) (dstF p t l now) := by rw [← ec, hE]
  rw [ec] at hbl hlen ⊢
  obtain ⟨C, eC⟩ : ∃ C, c ++ rest = C := ⟨_, rfl⟩
  have r0 : RdOk C 0 := ⟨by rw [← eC]; exact bl_app hbl hr, by rw [← eC, List.length_append]; omega, Int.le_refl 0, Int.natCast_nonneg _⟩
  have hcon : checkF f t l now' = 0 := by unfold checkF; rw [if_pos ⟨hf, ht, hlv⟩, if_pos hn']
  obtain ⟨s1, s2, s3, s4, s5, s6⟩ := sec_bits wU wD (mcast p.1.dst)
  obtain ⟨y, ey⟩ : ∃ y, secF (uniF p.1.src f true l now).1 (dstF p t l now).1 (mcast p.1.dst) = y := ⟨_, rfl⟩
  rw [ey] at s1 s2 s3 s4 s5 s6
  obtain ⟨ids, ei⟩ : ∃ i, 16 * (uniF p.1.src f true l now).1.id + (dstF p t l now).1.id = i := ⟨_, rfl⟩
  rw [ei] at s6
  have hd0 : C.drop (0 : Int).toNat = C := rfl
  have hC : C = [firstF p, y] ++ (if ids ≠ 0 then [ids] else []) ++ (inlF p ++ ((uniF p.1.src f true l now).2 ++ ((dstF p t l now).2 ++ rest))) := by
    rw [← eC, hc]
    unfold joinH
    rw [ey, ei]
    simp only [List.append_assoc]
  have hx := first_r p
  -- the destination's facts
  have hmode : (dstF p t l now).1.ctx = true → mcast p.1.dst = false ∧ (dstF p t l now).1.mode ≠ 0 := fun g => by
    unfold dstF at g ⊢
    cases hm : mcast p.1.dst with
    | true =>
      rw [hm, if_pos rfl] at g
      unfold grpF at g
      split at g
      · cases g
      · split at g
        · cases g
        · split at g <;> cases g
    | false =>
      rw [hm, if_neg (by decide)] at g
      refine ⟨rfl, ?_⟩
      rw [if_neg (by decide)]
      have := uni_back (C := (uniF p.1.dst t false l now).2 ++ []) (post := []) (q := 0) (now' := now') (k := t) (src := false) (a := p.1.dst) hb2 hm hl hn' hle (Int.le_refl 0) (fun h => Bool.noConfusion h.1) rfl
      exact this.1 g
  have hbad : badY y = false := by
    unfold badY
    rw [s4, s3, s5]
    cases hg : (dstF p t l now).1.ctx with
    | false => rfl
    | true =>
      obtain ⟨g1, g2⟩ := hmode hg
      rw [g1, decide_eq_false g2]; rfl
  obtain ⟨k1, p1, q1, d1⟩ := start_back (C := C) (x := firstF p) (y := y) (ids := ids) (by omega) hbad s6 hC
  obtain ⟨k2, p2, q2, d2⟩ := fields_back hp hcv.1 p1 d1
  have hidU : ids / 16 = (uniF p.1.src f true l now).1.id ∧ ids % 16 = (dstF p t l now).1.id := by
    have := wU.id
    have := wD.id
    omega
  -- the source
  have hsrc : ∃ k3, 0 ≤ k3 ∧ srcD C y ids f l now' k2 = ((p.1.src, 0), k3) ∧ C.drop k3.toNat = (dstF p t l now).2 ++ rest := by
    unfold srcD
    rw [s1, s2, hidU.1]
    by_cases hz : true = true ∧ ipEq p.1.src zeroA = true
    · rw [uni_0 hz] at d2 ⊢
      rw [if_neg (fun g => g.elim (fun g => Bool.noConfusion g) (fun g => g rfl))]
      refine ⟨k2, p2, ?_, d2⟩
      rw [show p.1.src = zeroA from ipEq_iff.1 hz.2]
    · obtain ⟨u1, k3, u2, u3, u4⟩ := uni_back (now' := now') hb1 hcv.2 hl hn' hle p2 hz d2
      have hcond : (uniF p.1.src f true l now).1.ctx = false ∨ (uniF p.1.src f true l now).1.mode ≠ 0 := by
        cases hg : (uniF p.1.src f true l now).1.ctx with
        | false => exact .inl rfl
        | true => exact .inr (u1 hg)
      rw [if_pos hcond]
      exact ⟨k3, u2, u3, u4⟩
  obtain ⟨k3, p3, q3, d3⟩ := hsrc
  -- the destination
  have hdst : ∃ k4, 0 ≤ k4 ∧ dstD C y ids t l now' k3 = ((p.1.dst, 0), k4) ∧ C.drop k4.toNat = rest := by
    unfold dstD
    rw [s3, s4, s5, hidU.2]
    unfold dstF at d3 ⊢
    cases hm : mcast p.1.dst with
    | true =>
      rw [hm, if_pos rfl] at d3
      rw [if_pos rfl, if_pos rfl]
      exact grp_back hb2 hm p3 d3
    | false =>
      rw [hm, if_neg (by decide)] at d3
      rw [if_neg (by decide), if_neg (by decide)]
      exact (uni_back (now' := now') hb2 hm hl hn' hle p3 (fun h => Bool.noConfusion h.1) d3).2
  obtain ⟨k4, p4, q4, d4⟩ := hdst
  have hR : readD C f t l now' = (({ p.1 with sp := 0, dp := 0 }, 0), k4) := by
    unfold readD
    rw [q1, thenD_ok]
    dsimp only
    rw [q2, thenD_ok, q3, thenD_ok, q4, thenD_ok]
  have hk : k4 = c.length := by
    have h1 := readD_r (f := f) (t := t) (l := l) (now := now') r0
    rw [hR] at h1
    have h2 : k4 ≤ C.length := h1.hi
    have h3 : C.length - k4.toNat = rest.length := by rw [← List.length_drop, d4]
    rw [← eC, List.length_append] at h2 h3
    omega
  rw [eC, decI_v hcon hR, hk]
end Go.Proofs.YtjknkfjhcapocaaDoor.AX

/- PacketNotices, by AX2: the law returns true. -/
namespace Go.Proofs.YtjknkfjhcapocaaDoor.AX
open Go.RowKit
set_option linter.unusedVariables false
set_option linter.unusedSimpArgs false
theorem totI_cons (A B : List Int) {x : Int} (hx : 0 ≤ x ∧ x < 256) : ∃ z : Nat, (totI (A ++ x :: B) : Int) = z + x * (if A.length % 2 = 0 then 256 else 1) ∧ ∀ y, 0 ≤ y ∧ y < 256 → (totI (A ++ y :: B) : Int) = z + y * (if A.length % 2 = 0 then 256 else 1) := by
  have key : ∀ y : Int, 0 ≤ y ∧ y < 256 → (totI (A ++ y :: B) : Int) = ((tot true (toU A) + tot (!side true (toU A)) (toU B) : Nat) : Int) + y * (if A.length % 2 = 0 then 256 else 1) := fun y hy => by
    unfold totI
    rw [toU_app, tot_append, show toU (y :: B) = UInt8.ofNat y.toNat :: toU B from rfl]
    have h1 := u8n hy
    have h2 := side_toU A
    by_cases he : A.length % 2 = 0
    · rw [h2, decide_eq_true he, if_pos he]
      simp only [tot, Bool.not_true, if_true]
      omega
    · rw [h2, decide_eq_false he, if_neg he]
      simp only [tot, Bool.not_false]
      simp
      omega
  exact ⟨_, key x hx, key⟩
/-- Two byte strings that differ in one byte. -/
structure Dif (X Y : List Int) (x y : Int) : Prop where
  d : ∃ A B, X = A ++ x :: B ∧ Y = A ++ y :: B
theorem Dif.left {X Y Z : List Int} {x y : Int} (h : Dif X Y x y) : Dif (Z ++ X) (Z ++ Y) x y := by
  obtain ⟨A, B, rfl, rfl⟩ := h.d
  exact ⟨Z ++ A, B, by simp, by simp⟩
theorem Dif.right {X Y Z : List Int} {x y : Int} (h : Dif X Y x y) : Dif (X ++ Z) (Y ++ Z) x y := by
  obtain ⟨A, B, rfl, rfl⟩ := h.d
  exact ⟨A, B ++ Z, by simp, by simp⟩
theorem Dif.set {X : List Int} {i : Nat} {y : Int} (h : i < X.length) : Dif X (X.set i y) (X.getD i default) y := by
  refine ⟨X.take i, X.drop (i + 1), ?_, ?_⟩
  · rw [← drop_at h, List.take_append_drop]
  · rw [List.set_eq_take_append_cons_drop, if_pos h]
def s0 (t : Nat) : Int := if (65535 - (foldN t : Int)) = 0 then 65535 else 65535 - (foldN t : Int)
theorem sum0_s0 (X : List Int) : sum0 X = s0 (totI X) := rfl
theorem s0_inj {a b : Nat} (ha : 0 < a) (hb : 0 < b) (h : s0 a = s0 b) : (a : Int) % 65535 = (b : Int) % 65535 := by
  have fa : foldN a = (a - 1) % 65535 + 1 := by unfold foldN; rw [if_neg (by omega)]
  have fb : foldN b = (b - 1) % 65535 + 1 := by unfold foldN; rw [if_neg (by omega)]
  unfold s0 at h
  rw [fa, fb] at h
  split at h <;> split at h <;> omega
theorem sum0_ne {X Y : List Int} {x y : Int} (h : Dif X Y x y) (hx : 0 ≤ x ∧ x < 256) (hy : 0 ≤ y ∧ y < 256) (hne : x ≠ y) (pX : 0 < totI X) (pY : 0 < totI Y) : sum0 X ≠ sum0 Y := by
  obtain ⟨A, B, rfl, rfl⟩ := h.d
  obtain ⟨z, e1, e2⟩ := totI_cons A B hx
  have e2 := e2 y hy
  rw [sum0_s0, sum0_s0]
  intro h
  have h := s0_inj pX pY h
  by_cases he : A.length % 2 = 0
  · rw [if_pos he] at e1 e2
    omega
  · rw [if_neg he] at e1 e2
    omega
theorem cover_pos (b : List Int) : 0 < totI (coverB b) := by
  obtain ⟨z, e1, _⟩ := totI_cons ((b.drop 8).take 32 ++ (beB ((b.length : Int) - 40) 4 ++ [0, 0, 0])) ((b.drop 40).take 6 ++ ([0, 0] ++ (b.drop 48))) (x := 17) (by decide)
  have e : coverB b = ((b.drop 8).take 32 ++ (beB ((b.length : Int) - 40) 4 ++ [0, 0, 0])) ++ 17 :: ((b.drop 40).take 6 ++ ([0, 0] ++ (b.drop 48))) := by
    unfold coverB
    simp
  rw [e]
  split at e1 <;> omega
theorem flipF : ∀ (x : Fin 256) (k : Fin 8), bits .xor .u8 (x.1 : Int) (shlI .u8 1 (k.1 : Int)) ≠ x.1 := by decide +kernel
theorem flip_ne {x k : Int} (hx : 0 ≤ x ∧ x < 256) (hk : 0 ≤ k ∧ k < 8) : x ≠ bits .xor .u8 x (shlI .u8 1 k) := by
  have h := flipF ⟨x.toNat, by omega⟩ ⟨k.toNat, by omega⟩
  dsimp only at h
  rw [Int.toNat_of_nonneg hx.1, Int.toNat_of_nonneg hk.1] at h
  exact fun e => h e.symm
theorem isRow_set {G : Nat → Nat → CV} {L : List Int} {i : Nat} {x : Int} {g : Nat → CV} (h : IsRow G L) (hg : g 0 = .int .u8 x) : IsRow (updE false G i g) (L.set i x) := ⟨fun k hk => by
  rw [List.length_set] at hk
  show selC (Nat.beq k i) (g 0) (G k 0) = _
  rw [selC_eq, hg, h.at_ k hk]
  by_cases e : k = i
  · subst e
    rw [beq_of rfl, cond_true, List.getD_eq_getElem?_getD, List.getElem?_set_self hk]; rfl
  · rw [beq_ne e, cond_false, List.getD_eq_getElem?_getD, List.getD_eq_getElem?_getD, List.getElem?_set_ne (by omega)]⟩
theorem toL_set {L : List Int} {i : Nat} {y : Int} {g : Nat → CV} (hg : g 0 = .int .u8 y) : (toL eB L.length fun k j => updE false (rowF eB L) i g (0 + k) j) = L.set i y :=
  toL_is (List.length_set ..).symm (isRow_0 (isRow_set (isRow_row L) hg))
theorem toL_set_BL {L : List Int} {i : Nat} {y : Int} {g : Nat → CV} (hb : BL L) (hg : g 0 = .int .u8 y) (hy : 0 ≤ y ∧ y < 256) : BL (toL eB L.length fun k j => updE false (rowF eB L) i g (0 + k) j) := by
  rw [toL_set hg]; exact bl_set hb hy
end Go.Proofs.YtjknkfjhcapocaaDoor.AX

/- What the makers draw from a tape: valid link addresses; contexts. -/
namespace Go.Proofs.YtjknkfjhcapocaaDoor.AX
open Go.RowKit
set_option linter.unusedVariables false
set_option linter.unusedSimpArgs false
structure AdrW (a : Adr) : Prop where
  v : adrValid a = true
  short : 0 ≤ a.short ∧ a.short < 65536
  eui : 0 ≤ a.eui ∧ a.eui < 18446744073709551616
structure DevW (a : Adr) : Prop where
  s : adrSome a = true
  w : AdrW a
theorem wr16 (z : Int) : 0 ≤ IntKind.u16.wrap z ∧ IntKind.u16.wrap z < 65536 := by
  simp only [IntKind.wrap, IntKind.signed, IntKind.bits]
  constructor
  · exact Int.emod_nonneg _ (by decide)
  · exact Int.emod_lt_of_pos _ (by decide)
theorem wr64 (z : Int) : 0 ≤ IntKind.u64.wrap z ∧ IntKind.u64.wrap z < 18446744073709551616 := by
  simp only [IntKind.wrap, IntKind.signed, IntKind.bits]
  constructor
  · exact Int.emod_nonneg _ (by decide)
  · exact Int.emod_lt_of_pos _ (by decide)
theorem z16 : (0 : Int) ≤ 0 ∧ (0 : Int) < 65536 := by decide
theorem z64 : (0 : Int) ≤ 0 ∧ (0 : Int) < 18446744073709551616 := by decide
theorem dev_3 {e : Int} (h : 0 ≤ e ∧ e < 18446744073709551616) : DevW ⟨3, 0, e⟩ := ⟨rfl, rfl, z16, h⟩
theorem dev_2 {e : Int} (h : 0 ≤ e ∧ e < 65536) : DevW ⟨2, e, 0⟩ := ⟨rfl, rfl, h, z64⟩
set_option maxRecDepth 10000 in
theorem device2_ok (n : Nat) (l : List Int) (q : Int) (ht : TapeOk n (rI l) q) :
    ∃ (r : Adr) (q' : Int), DevW r ∧ TapeOk n (rI l) q' ∧ MethOk Tryd.prog 20 [] (tapeN n (rI l) q) ((cE eAdr).enc r) (tapeN n (rI l) q') := by
  refine tape_intro (wd := 1) (Q := mkQ LT1) (by decide) tysOk (q_of LT1_ok) mixed Tryd.func20 rfl _ (by show 0 + 1 ≤ _; decide) (nff_elem eAdr) ?_
  repeat' (first | (apply And.intro <;> intro hc <;> (first | exact Bool.noConfusion hc | (simp only [decide_eq_true_eq, decide_eq_false_iff_not, Bool.not_eq_true', Bool.not_eq_false', beq_iff_eq, beq_eq_false_iff_ne, bne_iff_ne, bne_eq_false_iff_eq, Bool.true_eq_false, Bool.false_eq_true] at hc) | skip)) | (refine And.intro (by first | exact trivial | decide | omega | (dsimp only; omega) | exact fun _ _ => rfl | exact ⟨by assumption, by first | exact trivial | decide | omega | (dsimp only; omega)⟩) ?_) | (apply And.intro) | (intro s hs))
  · exact ⟨(⟨3, 0, _⟩, _), ⟨dev_3 (wr64 _), by assumption⟩, ⟨leF_e (leE_all ⟨⟨⟨trivial, leC_int rfl⟩, leC_int rfl⟩, leC_int rfl⟩), tapeN_le⟩⟩
  · exact ⟨(⟨2, _, 0⟩, _), ⟨dev_2 (wr16 _), by assumption⟩, ⟨leF_e (leE_all ⟨⟨⟨trivial, leC_int rfl⟩, leC_int rfl⟩, leC_int rfl⟩), tapeN_le⟩⟩
abbrev dev2E : Entry := tapeE AC.nil (fun _ => True) (fun a (r : Adr) => DevW r) (cE eAdr).enc
def LT3 : CsL := (20, some dev2E) :: LT2
theorem LT3_ok : AllOk Tryd.prog LT3 := ⟨tapeE_ok ⟨_, Tryd.func20, rfl, by kernel_rfl⟩ fun n l q a ht hp => device2_ok n l q ht, LT2_ok⟩
theorem addr2_ok (n : Nat) (l : List Int) (q : Int) (ht : TapeOk n (rI l) q) :
    ∃ (r : Adr) (q' : Int), AdrW r ∧ TapeOk n (rI l) q' ∧ MethOk Tryd.prog 8 [] (tapeN n (rI l) q) ((cE eAdr).enc r) (tapeN n (rI l) q') := by
  refine tape_intro (wd := 1) (Q := mkQ LT3) (by decide) tysOk (q_of LT3_ok) mixed Tryd.func8 rfl _ (by show 0 + 1 ≤ _; decide) (nff_elem eAdr) ?_
  repeat' (first | (apply And.intro <;> intro hc <;> (first | exact Bool.noConfusion hc | (simp only [decide_eq_true_eq, decide_eq_false_iff_not, Bool.not_eq_true', Bool.not_eq_false', beq_iff_eq, beq_eq_false_iff_ne, bne_iff_ne, bne_eq_false_iff_eq, Bool.true_eq_false, Bool.false_eq_true] at hc) | skip)) | (refine And.intro (by first | exact trivial | decide | omega | (dsimp only; omega) | exact fun _ _ => rfl | exact ⟨by assumption, by first | exact trivial | decide | omega | (dsimp only; omega)⟩) ?_) | (apply And.intro) | (intro s hs))
  · exact ⟨(⟨2, 65535, 0⟩, _), ⟨(dev_2 (e := 65535) (by decide)).w, by assumption⟩, ⟨leF_e (leE_all ⟨⟨⟨trivial, leC_int rfl⟩, leC_int rfl⟩, leC_int rfl⟩), tapeN_le⟩⟩
  · exact ⟨(⟨0, 0, 0⟩, _), ⟨⟨rfl, z16, z64⟩, by assumption⟩, ⟨leF_e (leE_all ⟨⟨⟨trivial, leC_int rfl⟩, leC_int rfl⟩, leC_int rfl⟩), tapeN_le⟩⟩
  · rename_i r hr
    exact ⟨(r, _), ⟨hr.w, by assumption⟩, ⟨leF_e (leE_all ⟨⟨⟨trivial, leC_int rfl⟩, leC_int rfl⟩, leC_int rfl⟩), tapeN_le⟩⟩
abbrev addr2E : Entry := tapeE AC.nil (fun _ => True) (fun a (r : Adr) => AdrW r) (cE eAdr).enc
theorem valid_snoc {x : Ctx} (h1 : vpf (pfxOf x) = true) (h2 : vt x.til = true) (h3 : x.id < 16) : ∀ (L : List Ctx) (b : Int), validFrom b L = true → (∀ c ∈ L, c.id < x.id) → b < x.id → validFrom b (L ++ [x]) = true := by
  intro L
  induction L with
  | nil => intro b _ _ hb; simp [validFrom, h1, h2, h3, hb]
  | cons c L ih =>
    intro b hv hid hb
    simp only [List.cons_append, validFrom, Bool.and_eq_true] at hv ⊢
    exact ⟨hv.1, ih c.id hv.2 (fun d hd => hid d (List.mem_cons_of_mem _ hd)) (hid c (List.mem_cons_self ..))⟩
structure madeL (L : List Ctx) : Prop where
  v : validT L = true
  n : L.length ≤ 16
  b : ∀ c ∈ L, byteOk c.ip
structure CtxS (n : Nat) (l : List Int) where
  i : Nat
  L : List Ctx
  q : Int
  hi : i ≤ 16
  hv : validT L = true
  hid : ∀ c ∈ L, c.id < i
  hn : L.length ≤ i
  hb : ∀ c ∈ L, byteOk c.ip
  ht : TapeOk n (rI l) q
theorem nff_slR {L : List Ctx} : NFF (.e (.c (slR eCtx L))) := nff_c (nf_sl fun i _ j _ => (eCtx.flat _ _).nf)
set_option maxRecDepth 10000 in
theorem contexts_ok (n : Nat) (l : List Int) (q : Int) (ht : TapeOk n (rI l) q) :
    ∃ (r : List Ctx) (q' : Int), madeL r ∧ TapeOk n (rI l) q' ∧ MethOk Tryd.prog 9 [] (tapeN n (rI l) q) (.e (.c (slR eCtx r))) (tapeN n (rI l) q') := by
  refine tape_intro (enc := fun r => .e (.c (slR eCtx r))) (wd := 1) (Q := mkQ LT2) (by decide) tysOk (q_of LT2_ok) mixed Tryd.func9 rfl _ (by show 0 + 1 ≤ _; decide) (fun _ => nff_slR) ?_
  refine loop_intro (mono_of LT2_ok) (fun s : CtxS n l => (⟨[(0, one (.ptr 0 0 0 false)), (3, one (.os 7 0 s.L.length)), (4, one (.int .i64 (s.i : Int)))],
    [(0, some (tapeN n (rI l) s.q)), (7, some (ents eCtx 65 s.L))], 8⟩ : Hd)) (fun s => 16 - s.i) (fun _ => rfl) ?_ ⟨0, [], q, by omega, rfl, by simp, by simp, by simp, ht⟩ [(7, none)] ?_
  · rintro ⟨i, L, q1, hi, hv, hid, hn, hb, ht1⟩
    dsimp only at hi hv hid hn hb ⊢
    repeat' (first | (apply And.intro <;> intro hc <;> (first | exact Bool.noConfusion hc | (simp only [decide_eq_true_eq, decide_eq_false_iff_not, Bool.not_eq_true', Bool.not_eq_false', beq_iff_eq, beq_eq_false_iff_ne, bne_iff_ne, bne_eq_false_iff_eq, Bool.true_eq_false, Bool.false_eq_true] at hc) | skip)) | (refine And.intro (by first | exact trivial | decide | omega | (dsimp only; omega) | exact fun _ _ => rfl | exact ⟨by assumption, by first | exact trivial | decide | omega | (dsimp only; omega)⟩) ?_) | (apply And.intro) | (intro s hs))
    · rename_i sb hsb sq1 hsq1 p hp sq2 hsq2 v hv' sq3 hsq3 u hu
      have hu' : 0 ≤ u ∧ u < 50 := hu
      refine ⟨⟨i + 1, L ++ [⟨i, p.ip, p.bits, decide (0 < v), u⟩], _, by omega, ?_, ?_, by simp; omega, ?_, hs⟩, [(7, some 23)], by dsimp only; omega, rfl, ?_, ?_⟩
      · refine valid_snoc ?_ ?_ ?_ L (-1) hv hid ?_
        · exact hp.1
        · simp [vt]; omega
        · show (i : Int) < 16; omega
        · show (-1 : Int) < i; omega
      · intro c hc
        rcases List.mem_append.1 hc with h | h
        · have := hid c h; omega
        · rw [List.mem_singleton.1 h]; show (i : Int) < ((i + 1 : Nat) : Int); omega
      · intro c hc
        rcases List.mem_append.1 hc with h | h
        · exact hb c h
        · rw [List.mem_singleton.1 h]; exact hp.2
      · repeat' (first | exact trivial | exact rfl | exact leF_ptr rfl | exact leF_int rfl | exact leF_bool rfl | exact leF_cl (cl_slB _ _) | exact leF_cl (cl_slR _ _) | exact leF_cl (cl_ll _ _) | exact leF_c (leC_os rfl rfl) | refine leF_int ?_ | refine leF_bool ?_ | exact leN_varA (fun _ _ => (Elem.flat _ _ _).le) | exact leN_varA (fun _ _ => leC_top) | apply And.intro)
        · exact leF_c (leC_os rfl (by simp))
        · refine (IntWalk.i64_in _ ?_).trans ?_
          · constructor <;> omega
          · dsimp only
            omega
      · repeat' (first | exact trivial | exact rfl | exact leF_ptr rfl | exact leF_int rfl | exact leF_bool rfl | exact leF_cl (cl_slB _ _) | exact leF_cl (cl_slR _ _) | exact leF_cl (cl_ll _ _) | exact leF_c (leC_os rfl rfl) | refine leF_int ?_ | refine leF_bool ?_ | exact leN_varA (fun _ _ => (Elem.flat _ _ _).le) | exact leN_varA (fun _ _ => leC_top) | apply And.intro)
        · exact tapeN_le
        · (change LeN _ _ _; refine leN_snoc (E := eCtx) (L := L) (x := ⟨i, p.ip, p.bits, decide (0 < v), u⟩) rfl (fun i hi j hj => selC_in (Nat.ble_eq_true_of_le hi) (Elem.flat _ _ _).le) ?_; repeat' (first | exact trivial | (refine selC_out (blt_self _) ?_; rw [Nat.sub_self]; first | exact leC_int rfl | exact leC_bool rfl | exact leC_bool (by assumption)) | apply And.intro))
    · refine ⟨⟨i + 1, L, _, by omega, hv, fun c hc => by have := hid c hc; omega, by omega, hb, hs⟩, [], by dsimp only; omega, rfl, ?_, ?_⟩
      · repeat' (first | exact trivial | exact rfl | exact leF_ptr rfl | exact leF_int rfl | exact leF_bool rfl | exact leF_cl (cl_slB _ _) | exact leF_cl (cl_slR _ _) | exact leF_cl (cl_ll _ _) | exact leF_c (leC_os rfl rfl) | refine leF_int ?_ | refine leF_bool ?_ | exact leN_varA (fun _ _ => (Elem.flat _ _ _).le) | exact leN_varA (fun _ _ => leC_top) | apply And.intro)
        refine (IntWalk.i64_in _ ?_).trans ?_
        · constructor <;> omega
        · dsimp only
          omega
      · repeat' (first | exact trivial | exact rfl | exact leF_ptr rfl | exact leF_int rfl | exact leF_bool rfl | exact leF_cl (cl_slB _ _) | exact leF_cl (cl_slR _ _) | exact leF_cl (cl_ll _ _) | exact leF_c (leC_os rfl rfl) | refine leF_int ?_ | refine leF_bool ?_ | exact leN_varA (fun _ _ => (Elem.flat _ _ _).le) | exact leN_varA (fun _ _ => leC_top) | apply And.intro)
        · exact tapeN_le
        · exact leN_ents
    · exact ⟨(L, q1), ⟨⟨hv, (show L.length ≤ 16 by omega), hb⟩, ht1⟩, ⟨leF_c (leC_row_fin rfl rfl), tapeN_le⟩⟩
  · refine ⟨rfl, ?_, ?_⟩
    · repeat' (first | exact trivial | exact rfl | exact leF_ptr rfl | exact leF_int rfl | exact leF_bool rfl | exact leF_cl (cl_slB _ _) | exact leF_cl (cl_slR _ _) | exact leF_cl (cl_ll _ _) | exact leF_c (leC_os rfl rfl) | refine leF_int ?_ | refine leF_bool ?_ | exact leN_varA (fun _ _ => (Elem.flat _ _ _).le) | exact leN_varA (fun _ _ => leC_top) | apply And.intro)
      exact leF_c (leC_nils_os rfl)
    · repeat' (first | exact trivial | exact rfl | exact leF_ptr rfl | exact leF_int rfl | exact leF_bool rfl | exact leF_cl (cl_slB _ _) | exact leF_cl (cl_slR _ _) | exact leF_cl (cl_ll _ _) | exact leF_c (leC_os rfl rfl) | refine leF_int ?_ | refine leF_bool ?_ | exact leN_varA (fun _ _ => (Elem.flat _ _ _).le) | exact leN_varA (fun _ _ => leC_top) | apply And.intro)
      · exact tapeN_le
      · exact eCtx_sz
abbrev ctxsE : Entry := tapeE AC.nil (fun _ => True) (fun a (r : List Ctx) => madeL r) (fun r => .e (.c (slR eCtx r)))
def LT4 : CsL := (8, some addr2E) :: (9, some ctxsE) :: LT3
theorem LT4_ok : AllOk Tryd.prog LT4 := ⟨tapeE_ok ⟨_, Tryd.func8, rfl, by kernel_rfl⟩ fun n l q a ht hp => addr2_ok n l q ht, tapeE_ok ⟨_, Tryd.func9, rfl, by kernel_rfl⟩ fun n l q a ht hp => contexts_ok n l q ht, LT3_ok⟩
end Go.Proofs.YtjknkfjhcapocaaDoor.AX

/- The laws about compressed headers: known, all contracts. -/
namespace Go.Proofs.YtjknkfjhcapocaaDoor.AX
open Go.RowKit
set_option linter.unusedVariables false
set_option linter.unusedSimpArgs false
def k1 : Adr := ⟨2, 1, 0⟩
def k2 : Adr := ⟨2, 2, 0⟩
theorem k_link1 : linkF k1 = (jn llP.ip 1099478073345, true) := rfl
theorem k_link2 : linkF k2 = (jn llP.ip 1099478073346, true) := rfl
theorem k_enc : encI (hP 64 (jn llP.ip 1099478073345) (jn llP.ip 1099478073346)) k1 k2 [] 0 = ([126, 51], 0) := by decide +kernel
theorem bytes_nil : bytesL [] := ⟨(fun c h => by cases h), Nat.zero_le _⟩
def LIe : CsL := (28, some enIE) :: (LT4 ++ (LMp ++ (LRa ++ LAd)))
theorem LIe_ok : AllOk Tryd.prog LIe := ⟨enIE_ok, append_ok LT4_ok (append_ok LMp_ok (append_ok LRa_ok LAd_ok))⟩
end Go.Proofs.YtjknkfjhcapocaaDoor.AX

