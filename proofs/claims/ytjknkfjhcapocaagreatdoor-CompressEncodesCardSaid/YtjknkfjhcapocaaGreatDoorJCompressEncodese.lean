/- Texts of one's own in one file: Rd4c, Rd4d, Rd4, RdI, Rd5, Rd6, Re2, Re3, Rd7, Rd8p, Dq, Dr, BJ, Re4, PkT2, PkT3, PkT4, PkT5, PkN, PkU, Ib, Db, Db2, PacketNoticesA, Tp5, IhW, CoP, CoW, CoE, IphcShortA, CoF, BMu, Mu2. -/
import Derived.Test.YtjknkfjhcapocaaGreatDoorJCompressEncodesd
import Derived.Test.YtjknkfjhcapocaaGreatDoorJCompressEncodesc
import Derived.Test.YtjknkfjhcapocaaGreatDoorJCompressEncodesb
set_option linter.unusedVariables false
set_option linter.unusedSimpArgs false
set_option maxHeartbeats 16000000
set_option maxRecDepth 20000
namespace Go.Proofs.YtjknkfjhcapocaaGreatDoor.AX
open Go.RowKit
theorem fields_98 (b : List Int) (q : Int) (hr : RdOk b q) : MethOk Tryz.prog 92 [(cI .i64).enc 98] (rdN true b q) (encRH (fieldsD b 98 q).1) (rdN true b (fieldsD b 98 q).2) := by
 obtain ⟨W, hW⟩ : ∃ W, fieldsD b 98 q = W := ⟨_, rfl⟩
 have eW : W = (if (numF b q 1).1.2 = 0 then (if (numF b (numF b q 1).2 3).1.2 = 0 then (if 1048575 < (numF b (numF b q 1).2 3).1.1 then ((zeroH, 5), (numF b (numF b q 1).2 3).2) else (if (numF b (numF b (numF b q 1).2 3).2 1).1.2 = 0 then (if (numF b (numF b (numF b q 1).2 3).2 1).1.1 = 17 then ((zeroH, 5), (numF b (numF b (numF b q 1).2 3).2 1).2) else ((⟨(numF b q 1).1.1, (numF b (numF b q 1).2 3).1.1, (numF b (numF b (numF b q 1).2 3).2 1).1.1, 64, zeroA, zeroA, 0, 0⟩, 0), (numF b (numF b (numF b q 1).2 3).2 1).2)) else ((zeroH, (numF b (numF b (numF b q 1).2 3).2 1).1.2), (numF b (numF b (numF b q 1).2 3).2 1).2))) else ((zeroH, (numF b (numF b q 1).2 3).1.2), (numF b (numF b q 1).2 3).2)) else ((zeroH, (numF b q 1).1.2), (numF b q 1).2)) := by
  rw [<- hW]
  simp (decide := true) only [fieldsD, thenD, hopV, if_true, if_false, true_and, and_true, false_and]
 rw [hW]
 clear hW
 have v1 := num1_v (q := q) hr.bl
 have r1 := num_ok (n := 1) hr
 obtain ⟨N1, e1⟩ : ∃ x, numF b q 1 = x := ⟨_, rfl⟩
 rw [e1] at v1 r1 eW
 have v2 := num3_v (q := N1.2) hr.bl
 have r2 := num_ok (n := 3) r1
 obtain ⟨N2, e2⟩ : ∃ x, numF b N1.2 3 = x := ⟨_, rfl⟩
 rw [e2] at v2 r2 eW
 have v3 := num1_v (q := N2.2) hr.bl
 have r3 := num_ok (n := 1) r2
 obtain ⟨N3, e3⟩ : ∃ x, numF b N2.2 1 = x := ⟨_, rfl⟩
 rw [e3] at v3 r3 eW
 have wc : IntKind.u8.wrap N1.1.1 = N1.1.1 := IntWalk.u8_in _ (by omega)
 have wf : IntKind.u32.wrap N2.1.1 = N2.1.1 := IntWalk.u32_in _ (by omega)
 have wn : IntKind.u8.wrap N3.1.1 = N3.1.1 := IntWalk.u8_in _ (by omega)
 have f0 : (¬ N1.1.2 = 0) -> W = ((zeroH, N1.1.2), N1.2) := fun h0 => by rw [eW, if_neg h0]
 have f1 : (N1.1.2 = 0) -> (¬ N2.1.2 = 0) -> W = ((zeroH, N2.1.2), N2.2) := fun h0 h1 => by rw [eW, if_pos h0, if_neg h1]
 have f2 : (N1.1.2 = 0) -> (N2.1.2 = 0) -> (1048575 < N2.1.1) -> W = ((zeroH, 5), N2.2) := fun h0 h1 h2 => by rw [eW, if_pos h0, if_pos h1, if_pos h2]
 have f3 : (N1.1.2 = 0) -> (N2.1.2 = 0) -> (¬ 1048575 < N2.1.1) -> (¬ N3.1.2 = 0) -> W = ((zeroH, N3.1.2), N3.2) := fun h0 h1 h2 h3 => by rw [eW, if_pos h0, if_pos h1, if_neg h2, if_neg h3]
 have f4 : (N1.1.2 = 0) -> (N2.1.2 = 0) -> (¬ 1048575 < N2.1.1) -> (N3.1.2 = 0) -> (N3.1.1 = 17) -> W = ((zeroH, 5), N3.2) := fun h0 h1 h2 h3 h4 => by rw [eW, if_pos h0, if_pos h1, if_neg h2, if_pos h3, if_pos h4]
 have f5 : (N1.1.2 = 0) -> (N2.1.2 = 0) -> (¬ 1048575 < N2.1.1) -> (N3.1.2 = 0) -> (¬ N3.1.1 = 17) -> W = ((⟨N1.1.1, N2.1.1, N3.1.1, 64, zeroA, zeroA, 0, 0⟩, 0), N3.2) := fun h0 h1 h2 h3 h4 => by rw [eW, if_pos h0, if_pos h1, if_neg h2, if_pos h3, if_neg h4]
 clear eW
 have g1 : True := trivial
 have g2 : True := trivial
 have g3 : True := trivial
 refine meth_intro (wd := 64) (Q := mkQ LRd1) (by decide) tysOk (q_of LRd1_ok) mixed Tryz.func92 rfl _ (by show 1 + 1 <= _; decide) (flatF_nff (encRH_flat _)) (rdN_nf) ?_
 repeat' (first | (apply And.intro <;> intro hc <;> (first | exact Bool.noConfusion hc | (exfalso; first | exact absurd hc (by decide) | exact absurd rfl hc | exact absurd hc (by assumption) | exact absurd (by assumption) hc) | (simp only [zb0, ne_eq, not_true_eq_false] at hc <;> first | exact absurd rfl hc | (exfalso; first | exact absurd hc (by decide) | exact absurd rfl hc | exact absurd hc (by assumption) | exact absurd (by assumption) hc) | skip) | skip)) | (refine And.intro (by first | exact trivial | decide | omega | (dsimp only; omega) | exact fun _ _ => rfl | exact ⟨by assumption, by first | exact trivial | decide | omega | (dsimp only; omega)⟩) ?_) | (apply And.intro) | (refine Exists.intro b (And.intro ⟨rfl, rfl, by first | exact ⟨by assumption, by decide, by decide⟩⟩ ?_)) | (intro s hs; (first | (clear g1; have q : N1 = s := (hs.trans e1).symm; clear hs; subst q) | (clear g2; have q : N2 = s := (hs.trans e2).symm; clear hs; subst q) | (clear g3; have q : N3 = s := (hs.trans e3).symm; clear hs; subst q) | skip)))
 all_goals try (first | exact rfl | exact Nat.le_of_ble_eq_true rfl)
 all_goals first
  | ((first | rw [f0 (by assumption)] | rw [f1 (by assumption) (by assumption)] | rw [f2 (by assumption) (by assumption) (by rw [<- wf]; assumption)] | rw [f3 (by assumption) (by assumption) (by rw [<- wf]; assumption) (by assumption)] | rw [f4 (by assumption) (by assumption) (by rw [<- wf]; assumption) (by assumption) (by rw [<- wn]; assumption)])
     exact ⟨leF_tup ⟨leE_tl (fun j hj => by (iterate 38 (rcases j with _ | j; exact leC_int rfl)); exact absurd hj (by omega)) leC_nils, leC_int rfl, trivial⟩, rdN_le rfl⟩)
  | (rw [f5 (by assumption) (by assumption) (by rw [<- wf]; assumption) (by assumption) (by rw [<- wn]; assumption)]
     exact ⟨leF_tup ⟨leE_tl (fun j hj => by (rcases j with _ | j; exact leC_int wc); (rcases j with _ | j; exact leC_int wf); (rcases j with _ | j; exact leC_int wn); (rcases j with _ | j; exact leC_int rfl); (iterate 34 (rcases j with _ | j; exact leC_int rfl)); exact absurd hj (by omega)) leC_nils, leC_int rfl, trivial⟩, rdN_le rfl⟩)
  | skip
theorem fields_102 (b : List Int) (q : Int) (hr : RdOk b q) : MethOk Tryz.prog 92 [(cI .i64).enc 102] (rdN true b q) (encRH (fieldsD b 102 q).1) (rdN true b (fieldsD b 102 q).2) := by
 obtain ⟨W, hW⟩ : ∃ W, fieldsD b 102 q = W := ⟨_, rfl⟩
 have eW : W = (if (numF b q 1).1.2 = 0 then (if (numF b (numF b q 1).2 3).1.2 = 0 then (if 1048575 < (numF b (numF b q 1).2 3).1.1 then ((zeroH, 5), (numF b (numF b q 1).2 3).2) else ((⟨(numF b q 1).1.1, (numF b (numF b q 1).2 3).1.1, 17, 64, zeroA, zeroA, 0, 0⟩, 0), (numF b (numF b q 1).2 3).2)) else ((zeroH, (numF b (numF b q 1).2 3).1.2), (numF b (numF b q 1).2 3).2)) else ((zeroH, (numF b q 1).1.2), (numF b q 1).2)) := by
  rw [<- hW]
  simp (decide := true) only [fieldsD, thenD, hopV, if_true, if_false, true_and, and_true, false_and]
 rw [hW]
 clear hW
 have v1 := num1_v (q := q) hr.bl
 have r1 := num_ok (n := 1) hr
 obtain ⟨N1, e1⟩ : ∃ x, numF b q 1 = x := ⟨_, rfl⟩
 rw [e1] at v1 r1 eW
 have v2 := num3_v (q := N1.2) hr.bl
 have r2 := num_ok (n := 3) r1
 obtain ⟨N2, e2⟩ : ∃ x, numF b N1.2 3 = x := ⟨_, rfl⟩
 rw [e2] at v2 r2 eW
 have wc : IntKind.u8.wrap N1.1.1 = N1.1.1 := IntWalk.u8_in _ (by omega)
 have wf : IntKind.u32.wrap N2.1.1 = N2.1.1 := IntWalk.u32_in _ (by omega)
 have f0 : (¬ N1.1.2 = 0) -> W = ((zeroH, N1.1.2), N1.2) := fun h0 => by rw [eW, if_neg h0]
 have f1 : (N1.1.2 = 0) -> (¬ N2.1.2 = 0) -> W = ((zeroH, N2.1.2), N2.2) := fun h0 h1 => by rw [eW, if_pos h0, if_neg h1]
 have f2 : (N1.1.2 = 0) -> (N2.1.2 = 0) -> (1048575 < N2.1.1) -> W = ((zeroH, 5), N2.2) := fun h0 h1 h2 => by rw [eW, if_pos h0, if_pos h1, if_pos h2]
 have f3 : (N1.1.2 = 0) -> (N2.1.2 = 0) -> (¬ 1048575 < N2.1.1) -> W = ((⟨N1.1.1, N2.1.1, 17, 64, zeroA, zeroA, 0, 0⟩, 0), N2.2) := fun h0 h1 h2 => by rw [eW, if_pos h0, if_pos h1, if_neg h2]
 clear eW
 have g1 : True := trivial
 have g2 : True := trivial
 refine meth_intro (wd := 64) (Q := mkQ LRd1) (by decide) tysOk (q_of LRd1_ok) mixed Tryz.func92 rfl _ (by show 1 + 1 <= _; decide) (flatF_nff (encRH_flat _)) (rdN_nf) ?_
 repeat' (first | (apply And.intro <;> intro hc <;> (first | exact Bool.noConfusion hc | (exfalso; first | exact absurd hc (by decide) | exact absurd rfl hc | exact absurd hc (by assumption) | exact absurd (by assumption) hc) | (simp only [zb0, ne_eq, not_true_eq_false] at hc <;> first | exact absurd rfl hc | (exfalso; first | exact absurd hc (by decide) | exact absurd rfl hc | exact absurd hc (by assumption) | exact absurd (by assumption) hc) | skip) | skip)) | (refine And.intro (by first | exact trivial | decide | omega | (dsimp only; omega) | exact fun _ _ => rfl | exact ⟨by assumption, by first | exact trivial | decide | omega | (dsimp only; omega)⟩) ?_) | (apply And.intro) | (refine Exists.intro b (And.intro ⟨rfl, rfl, by first | exact ⟨by assumption, by decide, by decide⟩⟩ ?_)) | (intro s hs; (first | (clear g1; have q : N1 = s := (hs.trans e1).symm; clear hs; subst q) | (clear g2; have q : N2 = s := (hs.trans e2).symm; clear hs; subst q) | skip)))
 all_goals try (first | exact rfl | exact Nat.le_of_ble_eq_true rfl)
 all_goals first
  | ((first | rw [f0 (by assumption)] | rw [f1 (by assumption) (by assumption)] | rw [f2 (by assumption) (by assumption) (by rw [<- wf]; assumption)])
     exact ⟨leF_tup ⟨leE_tl (fun j hj => by (iterate 38 (rcases j with _ | j; exact leC_int rfl)); exact absurd hj (by omega)) leC_nils, leC_int rfl, trivial⟩, rdN_le rfl⟩)
  | (rw [f3 (by assumption) (by assumption) (by rw [<- wf]; assumption)]
     exact ⟨leF_tup ⟨leE_tl (fun j hj => by (rcases j with _ | j; exact leC_int wc); (rcases j with _ | j; exact leC_int wf); (rcases j with _ | j; exact leC_int rfl); (rcases j with _ | j; exact leC_int rfl); (iterate 34 (rcases j with _ | j; exact leC_int rfl)); exact absurd hj (by omega)) leC_nils, leC_int rfl, trivial⟩, rdN_le rfl⟩)
  | skip
theorem fields_106 (b : List Int) (q : Int) (hr : RdOk b q) : MethOk Tryz.prog 92 [(cI .i64).enc 106] (rdN true b q) (encRH (fieldsD b 106 q).1) (rdN true b (fieldsD b 106 q).2) := by
 obtain ⟨W, hW⟩ : ∃ W, fieldsD b 106 q = W := ⟨_, rfl⟩
 have eW : W = (if (numF b q 3).1.2 = 0 then (if 1048575 < (numF b q 3).1.1 then ((zeroH, 5), (numF b q 3).2) else (if (numF b (numF b q 3).2 1).1.2 = 0 then (if (numF b (numF b q 3).2 1).1.1 = 17 then ((zeroH, 5), (numF b (numF b q 3).2 1).2) else ((⟨0, (numF b q 3).1.1, (numF b (numF b q 3).2 1).1.1, 64, zeroA, zeroA, 0, 0⟩, 0), (numF b (numF b q 3).2 1).2)) else ((zeroH, (numF b (numF b q 3).2 1).1.2), (numF b (numF b q 3).2 1).2))) else ((zeroH, (numF b q 3).1.2), (numF b q 3).2)) := by
  rw [<- hW]
  simp (decide := true) only [fieldsD, thenD, hopV, if_true, if_false, true_and, and_true, false_and]
 rw [hW]
 clear hW
 have v1 := num3_v (q := q) hr.bl
 have r1 := num_ok (n := 3) hr
 obtain ⟨N1, e1⟩ : ∃ x, numF b q 3 = x := ⟨_, rfl⟩
 rw [e1] at v1 r1 eW
 have v2 := num1_v (q := N1.2) hr.bl
 have r2 := num_ok (n := 1) r1
 obtain ⟨N2, e2⟩ : ∃ x, numF b N1.2 1 = x := ⟨_, rfl⟩
 rw [e2] at v2 r2 eW
 have wf : IntKind.u32.wrap N1.1.1 = N1.1.1 := IntWalk.u32_in _ (by omega)
 have wn : IntKind.u8.wrap N2.1.1 = N2.1.1 := IntWalk.u8_in _ (by omega)
 have f0 : (¬ N1.1.2 = 0) -> W = ((zeroH, N1.1.2), N1.2) := fun h0 => by rw [eW, if_neg h0]
 have f1 : (N1.1.2 = 0) -> (1048575 < N1.1.1) -> W = ((zeroH, 5), N1.2) := fun h0 h1 => by rw [eW, if_pos h0, if_pos h1]
 have f2 : (N1.1.2 = 0) -> (¬ 1048575 < N1.1.1) -> (¬ N2.1.2 = 0) -> W = ((zeroH, N2.1.2), N2.2) := fun h0 h1 h2 => by rw [eW, if_pos h0, if_neg h1, if_neg h2]
 have f3 : (N1.1.2 = 0) -> (¬ 1048575 < N1.1.1) -> (N2.1.2 = 0) -> (N2.1.1 = 17) -> W = ((zeroH, 5), N2.2) := fun h0 h1 h2 h3 => by rw [eW, if_pos h0, if_neg h1, if_pos h2, if_pos h3]
 have f4 : (N1.1.2 = 0) -> (¬ 1048575 < N1.1.1) -> (N2.1.2 = 0) -> (¬ N2.1.1 = 17) -> W = ((⟨0, N1.1.1, N2.1.1, 64, zeroA, zeroA, 0, 0⟩, 0), N2.2) := fun h0 h1 h2 h3 => by rw [eW, if_pos h0, if_neg h1, if_pos h2, if_neg h3]
 clear eW
 have g1 : True := trivial
 have g2 : True := trivial
 refine meth_intro (wd := 64) (Q := mkQ LRd1) (by decide) tysOk (q_of LRd1_ok) mixed Tryz.func92 rfl _ (by show 1 + 1 <= _; decide) (flatF_nff (encRH_flat _)) (rdN_nf) ?_
 repeat' (first | (apply And.intro <;> intro hc <;> (first | exact Bool.noConfusion hc | (exfalso; first | exact absurd hc (by decide) | exact absurd rfl hc | exact absurd hc (by assumption) | exact absurd (by assumption) hc) | (simp only [zb0, ne_eq, not_true_eq_false] at hc <;> first | exact absurd rfl hc | (exfalso; first | exact absurd hc (by decide) | exact absurd rfl hc | exact absurd hc (by assumption) | exact absurd (by assumption) hc) | skip) | skip)) | (refine And.intro (by first | exact trivial | decide | omega | (dsimp only; omega) | exact fun _ _ => rfl | exact ⟨by assumption, by first | exact trivial | decide | omega | (dsimp only; omega)⟩) ?_) | (apply And.intro) | (refine Exists.intro b (And.intro ⟨rfl, rfl, by first | exact ⟨by assumption, by decide, by decide⟩⟩ ?_)) | (intro s hs; (first | (clear g1; have q : N1 = s := (hs.trans e1).symm; clear hs; subst q) | (clear g2; have q : N2 = s := (hs.trans e2).symm; clear hs; subst q) | skip)))
 all_goals try (first | exact rfl | exact Nat.le_of_ble_eq_true rfl)
 all_goals first
  | ((first | rw [f0 (by assumption)] | rw [f1 (by assumption) (by rw [<- wf]; assumption)] | rw [f2 (by assumption) (by rw [<- wf]; assumption) (by assumption)] | rw [f3 (by assumption) (by rw [<- wf]; assumption) (by assumption) (by rw [<- wn]; assumption)])
     exact ⟨leF_tup ⟨leE_tl (fun j hj => by (iterate 38 (rcases j with _ | j; exact leC_int rfl)); exact absurd hj (by omega)) leC_nils, leC_int rfl, trivial⟩, rdN_le rfl⟩)
  | (rw [f4 (by assumption) (by rw [<- wf]; assumption) (by assumption) (by rw [<- wn]; assumption)]
     exact ⟨leF_tup ⟨leE_tl (fun j hj => by (rcases j with _ | j; exact leC_int rfl); (rcases j with _ | j; exact leC_int wf); (rcases j with _ | j; exact leC_int wn); (rcases j with _ | j; exact leC_int rfl); (iterate 34 (rcases j with _ | j; exact leC_int rfl)); exact absurd hj (by omega)) leC_nils, leC_int rfl, trivial⟩, rdN_le rfl⟩)
  | skip
theorem fields_110 (b : List Int) (q : Int) (hr : RdOk b q) : MethOk Tryz.prog 92 [(cI .i64).enc 110] (rdN true b q) (encRH (fieldsD b 110 q).1) (rdN true b (fieldsD b 110 q).2) := by
 obtain ⟨W, hW⟩ : ∃ W, fieldsD b 110 q = W := ⟨_, rfl⟩
 have eW : W = (if (numF b q 3).1.2 = 0 then (if 1048575 < (numF b q 3).1.1 then ((zeroH, 5), (numF b q 3).2) else ((⟨0, (numF b q 3).1.1, 17, 64, zeroA, zeroA, 0, 0⟩, 0), (numF b q 3).2)) else ((zeroH, (numF b q 3).1.2), (numF b q 3).2)) := by
  rw [<- hW]
  simp (decide := true) only [fieldsD, thenD, hopV, if_true, if_false, true_and, and_true, false_and]
 rw [hW]
 clear hW
 have v1 := num3_v (q := q) hr.bl
 have r1 := num_ok (n := 3) hr
 obtain ⟨N1, e1⟩ : ∃ x, numF b q 3 = x := ⟨_, rfl⟩
 rw [e1] at v1 r1 eW
 have wf : IntKind.u32.wrap N1.1.1 = N1.1.1 := IntWalk.u32_in _ (by omega)
 have f0 : (¬ N1.1.2 = 0) -> W = ((zeroH, N1.1.2), N1.2) := fun h0 => by rw [eW, if_neg h0]
 have f1 : (N1.1.2 = 0) -> (1048575 < N1.1.1) -> W = ((zeroH, 5), N1.2) := fun h0 h1 => by rw [eW, if_pos h0, if_pos h1]
 have f2 : (N1.1.2 = 0) -> (¬ 1048575 < N1.1.1) -> W = ((⟨0, N1.1.1, 17, 64, zeroA, zeroA, 0, 0⟩, 0), N1.2) := fun h0 h1 => by rw [eW, if_pos h0, if_neg h1]
 clear eW
 have g1 : True := trivial
 refine meth_intro (wd := 64) (Q := mkQ LRd1) (by decide) tysOk (q_of LRd1_ok) mixed Tryz.func92 rfl _ (by show 1 + 1 <= _; decide) (flatF_nff (encRH_flat _)) (rdN_nf) ?_
 repeat' (first | (apply And.intro <;> intro hc <;> (first | exact Bool.noConfusion hc | (exfalso; first | exact absurd hc (by decide) | exact absurd rfl hc | exact absurd hc (by assumption) | exact absurd (by assumption) hc) | (simp only [zb0, ne_eq, not_true_eq_false] at hc <;> first | exact absurd rfl hc | (exfalso; first | exact absurd hc (by decide) | exact absurd rfl hc | exact absurd hc (by assumption) | exact absurd (by assumption) hc) | skip) | skip)) | (refine And.intro (by first | exact trivial | decide | omega | (dsimp only; omega) | exact fun _ _ => rfl | exact ⟨by assumption, by first | exact trivial | decide | omega | (dsimp only; omega)⟩) ?_) | (apply And.intro) | (refine Exists.intro b (And.intro ⟨rfl, rfl, by first | exact ⟨by assumption, by decide, by decide⟩⟩ ?_)) | (intro s hs; (first | (clear g1; have q : N1 = s := (hs.trans e1).symm; clear hs; subst q) | skip)))
 all_goals try (first | exact rfl | exact Nat.le_of_ble_eq_true rfl)
 all_goals first
  | ((first | rw [f0 (by assumption)] | rw [f1 (by assumption) (by rw [<- wf]; assumption)])
     exact ⟨leF_tup ⟨leE_tl (fun j hj => by (iterate 38 (rcases j with _ | j; exact leC_int rfl)); exact absurd hj (by omega)) leC_nils, leC_int rfl, trivial⟩, rdN_le rfl⟩)
  | (rw [f2 (by assumption) (by rw [<- wf]; assumption)]
     exact ⟨leF_tup ⟨leE_tl (fun j hj => by (rcases j with _ | j; exact leC_int rfl); (rcases j with _ | j; exact leC_int wf); (rcases j with _ | j; exact leC_int rfl); (rcases j with _ | j; exact leC_int rfl); (iterate 34 (rcases j with _ | j; exact leC_int rfl)); exact absurd hj (by omega)) leC_nils, leC_int rfl, trivial⟩, rdN_le rfl⟩)
  | skip
theorem fields_114 (b : List Int) (q : Int) (hr : RdOk b q) : MethOk Tryz.prog 92 [(cI .i64).enc 114] (rdN true b q) (encRH (fieldsD b 114 q).1) (rdN true b (fieldsD b 114 q).2) := by
 obtain ⟨W, hW⟩ : ∃ W, fieldsD b 114 q = W := ⟨_, rfl⟩
 have eW : W = (if (numF b q 1).1.2 = 0 then (if (numF b (numF b q 1).2 1).1.2 = 0 then (if (numF b (numF b q 1).2 1).1.1 = 17 then ((zeroH, 5), (numF b (numF b q 1).2 1).2) else ((⟨(numF b q 1).1.1, 0, (numF b (numF b q 1).2 1).1.1, 64, zeroA, zeroA, 0, 0⟩, 0), (numF b (numF b q 1).2 1).2)) else ((zeroH, (numF b (numF b q 1).2 1).1.2), (numF b (numF b q 1).2 1).2)) else ((zeroH, (numF b q 1).1.2), (numF b q 1).2)) := by
  rw [<- hW]
  simp (decide := true) only [fieldsD, thenD, hopV, if_true, if_false, true_and, and_true, false_and]
 rw [hW]
 clear hW
 have v1 := num1_v (q := q) hr.bl
 have r1 := num_ok (n := 1) hr
 obtain ⟨N1, e1⟩ : ∃ x, numF b q 1 = x := ⟨_, rfl⟩
 rw [e1] at v1 r1 eW
 have v2 := num1_v (q := N1.2) hr.bl
 have r2 := num_ok (n := 1) r1
 obtain ⟨N2, e2⟩ : ∃ x, numF b N1.2 1 = x := ⟨_, rfl⟩
 rw [e2] at v2 r2 eW
 have wc : IntKind.u8.wrap N1.1.1 = N1.1.1 := IntWalk.u8_in _ (by omega)
 have wn : IntKind.u8.wrap N2.1.1 = N2.1.1 := IntWalk.u8_in _ (by omega)
 have f0 : (¬ N1.1.2 = 0) -> W = ((zeroH, N1.1.2), N1.2) := fun h0 => by rw [eW, if_neg h0]
 have f1 : (N1.1.2 = 0) -> (¬ N2.1.2 = 0) -> W = ((zeroH, N2.1.2), N2.2) := fun h0 h1 => by rw [eW, if_pos h0, if_neg h1]
 have f2 : (N1.1.2 = 0) -> (N2.1.2 = 0) -> (N2.1.1 = 17) -> W = ((zeroH, 5), N2.2) := fun h0 h1 h2 => by rw [eW, if_pos h0, if_pos h1, if_pos h2]
 have f3 : (N1.1.2 = 0) -> (N2.1.2 = 0) -> (¬ N2.1.1 = 17) -> W = ((⟨N1.1.1, 0, N2.1.1, 64, zeroA, zeroA, 0, 0⟩, 0), N2.2) := fun h0 h1 h2 => by rw [eW, if_pos h0, if_pos h1, if_neg h2]
 clear eW
 have g1 : True := trivial
 have g2 : True := trivial
 refine meth_intro (wd := 64) (Q := mkQ LRd1) (by decide) tysOk (q_of LRd1_ok) mixed Tryz.func92 rfl _ (by show 1 + 1 <= _; decide) (flatF_nff (encRH_flat _)) (rdN_nf) ?_
 repeat' (first | (apply And.intro <;> intro hc <;> (first | exact Bool.noConfusion hc | (exfalso; first | exact absurd hc (by decide) | exact absurd rfl hc | exact absurd hc (by assumption) | exact absurd (by assumption) hc) | (simp only [zb0, ne_eq, not_true_eq_false] at hc <;> first | exact absurd rfl hc | (exfalso; first | exact absurd hc (by decide) | exact absurd rfl hc | exact absurd hc (by assumption) | exact absurd (by assumption) hc) | skip) | skip)) | (refine And.intro (by first | exact trivial | decide | omega | (dsimp only; omega) | exact fun _ _ => rfl | exact ⟨by assumption, by first | exact trivial | decide | omega | (dsimp only; omega)⟩) ?_) | (apply And.intro) | (refine Exists.intro b (And.intro ⟨rfl, rfl, by first | exact ⟨by assumption, by decide, by decide⟩⟩ ?_)) | (intro s hs; (first | (clear g1; have q : N1 = s := (hs.trans e1).symm; clear hs; subst q) | (clear g2; have q : N2 = s := (hs.trans e2).symm; clear hs; subst q) | skip)))
 all_goals try (first | exact rfl | exact Nat.le_of_ble_eq_true rfl)
 all_goals first
  | ((first | rw [f0 (by assumption)] | rw [f1 (by assumption) (by assumption)] | rw [f2 (by assumption) (by assumption) (by rw [<- wn]; assumption)])
     exact ⟨leF_tup ⟨leE_tl (fun j hj => by (iterate 38 (rcases j with _ | j; exact leC_int rfl)); exact absurd hj (by omega)) leC_nils, leC_int rfl, trivial⟩, rdN_le rfl⟩)
  | (rw [f3 (by assumption) (by assumption) (by rw [<- wn]; assumption)]
     exact ⟨leF_tup ⟨leE_tl (fun j hj => by (rcases j with _ | j; exact leC_int wc); (rcases j with _ | j; exact leC_int rfl); (rcases j with _ | j; exact leC_int wn); (rcases j with _ | j; exact leC_int rfl); (iterate 34 (rcases j with _ | j; exact leC_int rfl)); exact absurd hj (by omega)) leC_nils, leC_int rfl, trivial⟩, rdN_le rfl⟩)
  | skip
theorem fields_118 (b : List Int) (q : Int) (hr : RdOk b q) : MethOk Tryz.prog 92 [(cI .i64).enc 118] (rdN true b q) (encRH (fieldsD b 118 q).1) (rdN true b (fieldsD b 118 q).2) := by
 obtain ⟨W, hW⟩ : ∃ W, fieldsD b 118 q = W := ⟨_, rfl⟩
 have eW : W = (if (numF b q 1).1.2 = 0 then ((⟨(numF b q 1).1.1, 0, 17, 64, zeroA, zeroA, 0, 0⟩, 0), (numF b q 1).2) else ((zeroH, (numF b q 1).1.2), (numF b q 1).2)) := by
  rw [<- hW]
  simp (decide := true) only [fieldsD, thenD, hopV, if_true, if_false, true_and, and_true, false_and]
 rw [hW]
 clear hW
 have v1 := num1_v (q := q) hr.bl
 have r1 := num_ok (n := 1) hr
 obtain ⟨N1, e1⟩ : ∃ x, numF b q 1 = x := ⟨_, rfl⟩
 rw [e1] at v1 r1 eW
 have wc : IntKind.u8.wrap N1.1.1 = N1.1.1 := IntWalk.u8_in _ (by omega)
 have f0 : (¬ N1.1.2 = 0) -> W = ((zeroH, N1.1.2), N1.2) := fun h0 => by rw [eW, if_neg h0]
 have f1 : (N1.1.2 = 0) -> W = ((⟨N1.1.1, 0, 17, 64, zeroA, zeroA, 0, 0⟩, 0), N1.2) := fun h0 => by rw [eW, if_pos h0]
 clear eW
 have g1 : True := trivial
 refine meth_intro (wd := 64) (Q := mkQ LRd1) (by decide) tysOk (q_of LRd1_ok) mixed Tryz.func92 rfl _ (by show 1 + 1 <= _; decide) (flatF_nff (encRH_flat _)) (rdN_nf) ?_
 repeat' (first | (apply And.intro <;> intro hc <;> (first | exact Bool.noConfusion hc | (exfalso; first | exact absurd hc (by decide) | exact absurd rfl hc | exact absurd hc (by assumption) | exact absurd (by assumption) hc) | (simp only [zb0, ne_eq, not_true_eq_false] at hc <;> first | exact absurd rfl hc | (exfalso; first | exact absurd hc (by decide) | exact absurd rfl hc | exact absurd hc (by assumption) | exact absurd (by assumption) hc) | skip) | skip)) | (refine And.intro (by first | exact trivial | decide | omega | (dsimp only; omega) | exact fun _ _ => rfl | exact ⟨by assumption, by first | exact trivial | decide | omega | (dsimp only; omega)⟩) ?_) | (apply And.intro) | (refine Exists.intro b (And.intro ⟨rfl, rfl, by first | exact ⟨by assumption, by decide, by decide⟩⟩ ?_)) | (intro s hs; (first | (clear g1; have q : N1 = s := (hs.trans e1).symm; clear hs; subst q) | skip)))
 all_goals try (first | exact rfl | exact Nat.le_of_ble_eq_true rfl)
 all_goals first
  | (rw [f0 (by assumption)]
     exact ⟨leF_tup ⟨leE_tl (fun j hj => by (iterate 38 (rcases j with _ | j; exact leC_int rfl)); exact absurd hj (by omega)) leC_nils, leC_int rfl, trivial⟩, rdN_le rfl⟩)
  | (rw [f1 (by assumption)]
     exact ⟨leF_tup ⟨leE_tl (fun j hj => by (rcases j with _ | j; exact leC_int wc); (rcases j with _ | j; exact leC_int rfl); (rcases j with _ | j; exact leC_int rfl); (rcases j with _ | j; exact leC_int rfl); (iterate 34 (rcases j with _ | j; exact leC_int rfl)); exact absurd hj (by omega)) leC_nils, leC_int rfl, trivial⟩, rdN_le rfl⟩)
  | skip
theorem fields_122 (b : List Int) (q : Int) (hr : RdOk b q) : MethOk Tryz.prog 92 [(cI .i64).enc 122] (rdN true b q) (encRH (fieldsD b 122 q).1) (rdN true b (fieldsD b 122 q).2) := by
 obtain ⟨W, hW⟩ : ∃ W, fieldsD b 122 q = W := ⟨_, rfl⟩
 have eW : W = (if (numF b q 1).1.2 = 0 then (if (numF b q 1).1.1 = 17 then ((zeroH, 5), (numF b q 1).2) else ((⟨0, 0, (numF b q 1).1.1, 64, zeroA, zeroA, 0, 0⟩, 0), (numF b q 1).2)) else ((zeroH, (numF b q 1).1.2), (numF b q 1).2)) := by
  rw [<- hW]
  simp (decide := true) only [fieldsD, thenD, hopV, if_true, if_false, true_and, and_true, false_and]
 rw [hW]
 clear hW
 have v1 := num1_v (q := q) hr.bl
 have r1 := num_ok (n := 1) hr
 obtain ⟨N1, e1⟩ : ∃ x, numF b q 1 = x := ⟨_, rfl⟩
 rw [e1] at v1 r1 eW
 have wn : IntKind.u8.wrap N1.1.1 = N1.1.1 := IntWalk.u8_in _ (by omega)
 have f0 : (¬ N1.1.2 = 0) -> W = ((zeroH, N1.1.2), N1.2) := fun h0 => by rw [eW, if_neg h0]
 have f1 : (N1.1.2 = 0) -> (N1.1.1 = 17) -> W = ((zeroH, 5), N1.2) := fun h0 h1 => by rw [eW, if_pos h0, if_pos h1]
 have f2 : (N1.1.2 = 0) -> (¬ N1.1.1 = 17) -> W = ((⟨0, 0, N1.1.1, 64, zeroA, zeroA, 0, 0⟩, 0), N1.2) := fun h0 h1 => by rw [eW, if_pos h0, if_neg h1]
 clear eW
 have g1 : True := trivial
 refine meth_intro (wd := 64) (Q := mkQ LRd1) (by decide) tysOk (q_of LRd1_ok) mixed Tryz.func92 rfl _ (by show 1 + 1 <= _; decide) (flatF_nff (encRH_flat _)) (rdN_nf) ?_
 repeat' (first | (apply And.intro <;> intro hc <;> (first | exact Bool.noConfusion hc | (exfalso; first | exact absurd hc (by decide) | exact absurd rfl hc | exact absurd hc (by assumption) | exact absurd (by assumption) hc) | (simp only [zb0, ne_eq, not_true_eq_false] at hc <;> first | exact absurd rfl hc | (exfalso; first | exact absurd hc (by decide) | exact absurd rfl hc | exact absurd hc (by assumption) | exact absurd (by assumption) hc) | skip) | skip)) | (refine And.intro (by first | exact trivial | decide | omega | (dsimp only; omega) | exact fun _ _ => rfl | exact ⟨by assumption, by first | exact trivial | decide | omega | (dsimp only; omega)⟩) ?_) | (apply And.intro) | (refine Exists.intro b (And.intro ⟨rfl, rfl, by first | exact ⟨by assumption, by decide, by decide⟩⟩ ?_)) | (intro s hs; (first | (clear g1; have q : N1 = s := (hs.trans e1).symm; clear hs; subst q) | skip)))
 all_goals try (first | exact rfl | exact Nat.le_of_ble_eq_true rfl)
 all_goals first
  | ((first | rw [f0 (by assumption)] | rw [f1 (by assumption) (by rw [<- wn]; assumption)])
     exact ⟨leF_tup ⟨leE_tl (fun j hj => by (iterate 38 (rcases j with _ | j; exact leC_int rfl)); exact absurd hj (by omega)) leC_nils, leC_int rfl, trivial⟩, rdN_le rfl⟩)
  | (rw [f2 (by assumption) (by rw [<- wn]; assumption)]
     exact ⟨leF_tup ⟨leE_tl (fun j hj => by (rcases j with _ | j; exact leC_int rfl); (rcases j with _ | j; exact leC_int rfl); (rcases j with _ | j; exact leC_int wn); (rcases j with _ | j; exact leC_int rfl); (iterate 34 (rcases j with _ | j; exact leC_int rfl)); exact absurd hj (by omega)) leC_nils, leC_int rfl, trivial⟩, rdN_le rfl⟩)
  | skip
theorem fields_126 (b : List Int) (q : Int) (hr : RdOk b q) : MethOk Tryz.prog 92 [(cI .i64).enc 126] (rdN true b q) (encRH (fieldsD b 126 q).1) (rdN true b (fieldsD b 126 q).2) := by
 obtain ⟨W, hW⟩ : ∃ W, fieldsD b 126 q = W := ⟨_, rfl⟩
 have eW : W = ((⟨0, 0, 17, 64, zeroA, zeroA, 0, 0⟩, 0), q) := by
  rw [<- hW]
  simp (decide := true) only [fieldsD, thenD, hopV, if_true, if_false, true_and, and_true, false_and]
 rw [hW]
 clear hW
 have f0 : W = ((⟨0, 0, 17, 64, zeroA, zeroA, 0, 0⟩, 0), q) := eW
 clear eW
 refine meth_intro (wd := 64) (Q := mkQ LRd1) (by decide) tysOk (q_of LRd1_ok) mixed Tryz.func92 rfl _ (by show 1 + 1 <= _; decide) (flatF_nff (encRH_flat _)) (rdN_nf) ?_
 repeat' (first | (apply And.intro <;> intro hc <;> (first | exact Bool.noConfusion hc | (exfalso; first | exact absurd hc (by decide) | exact absurd rfl hc | exact absurd hc (by assumption) | exact absurd (by assumption) hc) | (simp only [zb0, ne_eq, not_true_eq_false] at hc <;> first | exact absurd rfl hc | (exfalso; first | exact absurd hc (by decide) | exact absurd rfl hc | exact absurd hc (by assumption) | exact absurd (by assumption) hc) | skip) | skip)) | (refine And.intro (by first | exact trivial | decide | omega | (dsimp only; omega) | exact fun _ _ => rfl | exact ⟨by assumption, by first | exact trivial | decide | omega | (dsimp only; omega)⟩) ?_) | (apply And.intro) | (refine Exists.intro b (And.intro ⟨rfl, rfl, by first | exact ⟨by assumption, by decide, by decide⟩⟩ ?_)) | (intro s hs; (first  | skip)))
 all_goals try (first | exact rfl | exact Nat.le_of_ble_eq_true rfl)
 all_goals first
  | (rw [f0 ]
     exact ⟨leF_tup ⟨leE_tl (fun j hj => by (rcases j with _ | j; exact leC_int rfl); (rcases j with _ | j; exact leC_int rfl); (rcases j with _ | j; exact leC_int rfl); (rcases j with _ | j; exact leC_int rfl); (iterate 34 (rcases j with _ | j; exact leC_int rfl)); exact absurd hj (by omega)) leC_nils, leC_int rfl, trivial⟩, rdN_le rfl⟩)
  | skip
theorem fields_99 (b : List Int) (q : Int) (hr : RdOk b q) : MethOk Tryz.prog 92 [(cI .i64).enc 99] (rdN true b q) (encRH (fieldsD b 99 q).1) (rdN true b (fieldsD b 99 q).2) := by
 obtain ⟨W, hW⟩ : ∃ W, fieldsD b 99 q = W := ⟨_, rfl⟩
 have eW : W = (if (numF b q 1).1.2 = 0 then (if (numF b (numF b q 1).2 3).1.2 = 0 then (if 1048575 < (numF b (numF b q 1).2 3).1.1 then ((zeroH, 5), (numF b (numF b q 1).2 3).2) else (if (numF b (numF b (numF b q 1).2 3).2 1).1.2 = 0 then (if (numF b (numF b (numF b q 1).2 3).2 1).1.1 = 17 then ((zeroH, 5), (numF b (numF b (numF b q 1).2 3).2 1).2) else ((⟨(numF b q 1).1.1, (numF b (numF b q 1).2 3).1.1, (numF b (numF b (numF b q 1).2 3).2 1).1.1, 255, zeroA, zeroA, 0, 0⟩, 0), (numF b (numF b (numF b q 1).2 3).2 1).2)) else ((zeroH, (numF b (numF b (numF b q 1).2 3).2 1).1.2), (numF b (numF b (numF b q 1).2 3).2 1).2))) else ((zeroH, (numF b (numF b q 1).2 3).1.2), (numF b (numF b q 1).2 3).2)) else ((zeroH, (numF b q 1).1.2), (numF b q 1).2)) := by
  rw [<- hW]
  simp (decide := true) only [fieldsD, thenD, hopV, if_true, if_false, true_and, and_true, false_and]
 rw [hW]
 clear hW
 have v1 := num1_v (q := q) hr.bl
 have r1 := num_ok (n := 1) hr
 obtain ⟨N1, e1⟩ : ∃ x, numF b q 1 = x := ⟨_, rfl⟩
 rw [e1] at v1 r1 eW
 have v2 := num3_v (q := N1.2) hr.bl
 have r2 := num_ok (n := 3) r1
 obtain ⟨N2, e2⟩ : ∃ x, numF b N1.2 3 = x := ⟨_, rfl⟩
 rw [e2] at v2 r2 eW
 have v3 := num1_v (q := N2.2) hr.bl
 have r3 := num_ok (n := 1) r2
 obtain ⟨N3, e3⟩ : ∃ x, numF b N2.2 1 = x := ⟨_, rfl⟩
 rw [e3] at v3 r3 eW
 have wc : IntKind.u8.wrap N1.1.1 = N1.1.1 := IntWalk.u8_in _ (by omega)
 have wf : IntKind.u32.wrap N2.1.1 = N2.1.1 := IntWalk.u32_in _ (by omega)
 have wn : IntKind.u8.wrap N3.1.1 = N3.1.1 := IntWalk.u8_in _ (by omega)
 have f0 : (¬ N1.1.2 = 0) -> W = ((zeroH, N1.1.2), N1.2) := fun h0 => by rw [eW, if_neg h0]
 have f1 : (N1.1.2 = 0) -> (¬ N2.1.2 = 0) -> W = ((zeroH, N2.1.2), N2.2) := fun h0 h1 => by rw [eW, if_pos h0, if_neg h1]
 have f2 : (N1.1.2 = 0) -> (N2.1.2 = 0) -> (1048575 < N2.1.1) -> W = ((zeroH, 5), N2.2) := fun h0 h1 h2 => by rw [eW, if_pos h0, if_pos h1, if_pos h2]
 have f3 : (N1.1.2 = 0) -> (N2.1.2 = 0) -> (¬ 1048575 < N2.1.1) -> (¬ N3.1.2 = 0) -> W = ((zeroH, N3.1.2), N3.2) := fun h0 h1 h2 h3 => by rw [eW, if_pos h0, if_pos h1, if_neg h2, if_neg h3]
 have f4 : (N1.1.2 = 0) -> (N2.1.2 = 0) -> (¬ 1048575 < N2.1.1) -> (N3.1.2 = 0) -> (N3.1.1 = 17) -> W = ((zeroH, 5), N3.2) := fun h0 h1 h2 h3 h4 => by rw [eW, if_pos h0, if_pos h1, if_neg h2, if_pos h3, if_pos h4]
 have f5 : (N1.1.2 = 0) -> (N2.1.2 = 0) -> (¬ 1048575 < N2.1.1) -> (N3.1.2 = 0) -> (¬ N3.1.1 = 17) -> W = ((⟨N1.1.1, N2.1.1, N3.1.1, 255, zeroA, zeroA, 0, 0⟩, 0), N3.2) := fun h0 h1 h2 h3 h4 => by rw [eW, if_pos h0, if_pos h1, if_neg h2, if_pos h3, if_neg h4]
 clear eW
 have g1 : True := trivial
 have g2 : True := trivial
 have g3 : True := trivial
 refine meth_intro (wd := 64) (Q := mkQ LRd1) (by decide) tysOk (q_of LRd1_ok) mixed Tryz.func92 rfl _ (by show 1 + 1 <= _; decide) (flatF_nff (encRH_flat _)) (rdN_nf) ?_
 repeat' (first | (apply And.intro <;> intro hc <;> (first | exact Bool.noConfusion hc | (exfalso; first | exact absurd hc (by decide) | exact absurd rfl hc | exact absurd hc (by assumption) | exact absurd (by assumption) hc) | (simp only [zb0, ne_eq, not_true_eq_false] at hc <;> first | exact absurd rfl hc | (exfalso; first | exact absurd hc (by decide) | exact absurd rfl hc | exact absurd hc (by assumption) | exact absurd (by assumption) hc) | skip) | skip)) | (refine And.intro (by first | exact trivial | decide | omega | (dsimp only; omega) | exact fun _ _ => rfl | exact ⟨by assumption, by first | exact trivial | decide | omega | (dsimp only; omega)⟩) ?_) | (apply And.intro) | (refine Exists.intro b (And.intro ⟨rfl, rfl, by first | exact ⟨by assumption, by decide, by decide⟩⟩ ?_)) | (intro s hs; (first | (clear g1; have q : N1 = s := (hs.trans e1).symm; clear hs; subst q) | (clear g2; have q : N2 = s := (hs.trans e2).symm; clear hs; subst q) | (clear g3; have q : N3 = s := (hs.trans e3).symm; clear hs; subst q) | skip)))
 all_goals try (first | exact rfl | exact Nat.le_of_ble_eq_true rfl)
 all_goals first
  | ((first | rw [f0 (by assumption)] | rw [f1 (by assumption) (by assumption)] | rw [f2 (by assumption) (by assumption) (by rw [<- wf]; assumption)] | rw [f3 (by assumption) (by assumption) (by rw [<- wf]; assumption) (by assumption)] | rw [f4 (by assumption) (by assumption) (by rw [<- wf]; assumption) (by assumption) (by rw [<- wn]; assumption)])
     exact ⟨leF_tup ⟨leE_tl (fun j hj => by (iterate 38 (rcases j with _ | j; exact leC_int rfl)); exact absurd hj (by omega)) leC_nils, leC_int rfl, trivial⟩, rdN_le rfl⟩)
  | (rw [f5 (by assumption) (by assumption) (by rw [<- wf]; assumption) (by assumption) (by rw [<- wn]; assumption)]
     exact ⟨leF_tup ⟨leE_tl (fun j hj => by (rcases j with _ | j; exact leC_int wc); (rcases j with _ | j; exact leC_int wf); (rcases j with _ | j; exact leC_int wn); (rcases j with _ | j; exact leC_int rfl); (iterate 34 (rcases j with _ | j; exact leC_int rfl)); exact absurd hj (by omega)) leC_nils, leC_int rfl, trivial⟩, rdN_le rfl⟩)
  | skip
theorem fields_103 (b : List Int) (q : Int) (hr : RdOk b q) : MethOk Tryz.prog 92 [(cI .i64).enc 103] (rdN true b q) (encRH (fieldsD b 103 q).1) (rdN true b (fieldsD b 103 q).2) := by
 obtain ⟨W, hW⟩ : ∃ W, fieldsD b 103 q = W := ⟨_, rfl⟩
 have eW : W = (if (numF b q 1).1.2 = 0 then (if (numF b (numF b q 1).2 3).1.2 = 0 then (if 1048575 < (numF b (numF b q 1).2 3).1.1 then ((zeroH, 5), (numF b (numF b q 1).2 3).2) else ((⟨(numF b q 1).1.1, (numF b (numF b q 1).2 3).1.1, 17, 255, zeroA, zeroA, 0, 0⟩, 0), (numF b (numF b q 1).2 3).2)) else ((zeroH, (numF b (numF b q 1).2 3).1.2), (numF b (numF b q 1).2 3).2)) else ((zeroH, (numF b q 1).1.2), (numF b q 1).2)) := by
  rw [<- hW]
  simp (decide := true) only [fieldsD, thenD, hopV, if_true, if_false, true_and, and_true, false_and]
 rw [hW]
 clear hW
 have v1 := num1_v (q := q) hr.bl
 have r1 := num_ok (n := 1) hr
 obtain ⟨N1, e1⟩ : ∃ x, numF b q 1 = x := ⟨_, rfl⟩
 rw [e1] at v1 r1 eW
 have v2 := num3_v (q := N1.2) hr.bl
 have r2 := num_ok (n := 3) r1
 obtain ⟨N2, e2⟩ : ∃ x, numF b N1.2 3 = x := ⟨_, rfl⟩
 rw [e2] at v2 r2 eW
 have wc : IntKind.u8.wrap N1.1.1 = N1.1.1 := IntWalk.u8_in _ (by omega)
 have wf : IntKind.u32.wrap N2.1.1 = N2.1.1 := IntWalk.u32_in _ (by omega)
 have f0 : (¬ N1.1.2 = 0) -> W = ((zeroH, N1.1.2), N1.2) := fun h0 => by rw [eW, if_neg h0]
 have f1 : (N1.1.2 = 0) -> (¬ N2.1.2 = 0) -> W = ((zeroH, N2.1.2), N2.2) := fun h0 h1 => by rw [eW, if_pos h0, if_neg h1]
 have f2 : (N1.1.2 = 0) -> (N2.1.2 = 0) -> (1048575 < N2.1.1) -> W = ((zeroH, 5), N2.2) := fun h0 h1 h2 => by rw [eW, if_pos h0, if_pos h1, if_pos h2]
 have f3 : (N1.1.2 = 0) -> (N2.1.2 = 0) -> (¬ 1048575 < N2.1.1) -> W = ((⟨N1.1.1, N2.1.1, 17, 255, zeroA, zeroA, 0, 0⟩, 0), N2.2) := fun h0 h1 h2 => by rw [eW, if_pos h0, if_pos h1, if_neg h2]
 clear eW
 have g1 : True := trivial
 have g2 : True := trivial
 refine meth_intro (wd := 64) (Q := mkQ LRd1) (by decide) tysOk (q_of LRd1_ok) mixed Tryz.func92 rfl _ (by show 1 + 1 <= _; decide) (flatF_nff (encRH_flat _)) (rdN_nf) ?_
 repeat' (first | (apply And.intro <;> intro hc <;> (first | exact Bool.noConfusion hc | (exfalso; first | exact absurd hc (by decide) | exact absurd rfl hc | exact absurd hc (by assumption) | exact absurd (by assumption) hc) | (simp only [zb0, ne_eq, not_true_eq_false] at hc <;> first | exact absurd rfl hc | (exfalso; first | exact absurd hc (by decide) | exact absurd rfl hc | exact absurd hc (by assumption) | exact absurd (by assumption) hc) | skip) | skip)) | (refine And.intro (by first | exact trivial | decide | omega | (dsimp only; omega) | exact fun _ _ => rfl | exact ⟨by assumption, by first | exact trivial | decide | omega | (dsimp only; omega)⟩) ?_) | (apply And.intro) | (refine Exists.intro b (And.intro ⟨rfl, rfl, by first | exact ⟨by assumption, by decide, by decide⟩⟩ ?_)) | (intro s hs; (first | (clear g1; have q : N1 = s := (hs.trans e1).symm; clear hs; subst q) | (clear g2; have q : N2 = s := (hs.trans e2).symm; clear hs; subst q) | skip)))
 all_goals try (first | exact rfl | exact Nat.le_of_ble_eq_true rfl)
 all_goals first
  | ((first | rw [f0 (by assumption)] | rw [f1 (by assumption) (by assumption)] | rw [f2 (by assumption) (by assumption) (by rw [<- wf]; assumption)])
     exact ⟨leF_tup ⟨leE_tl (fun j hj => by (iterate 38 (rcases j with _ | j; exact leC_int rfl)); exact absurd hj (by omega)) leC_nils, leC_int rfl, trivial⟩, rdN_le rfl⟩)
  | (rw [f3 (by assumption) (by assumption) (by rw [<- wf]; assumption)]
     exact ⟨leF_tup ⟨leE_tl (fun j hj => by (rcases j with _ | j; exact leC_int wc); (rcases j with _ | j; exact leC_int wf); (rcases j with _ | j; exact leC_int rfl); (rcases j with _ | j; exact leC_int rfl); (iterate 34 (rcases j with _ | j; exact leC_int rfl)); exact absurd hj (by omega)) leC_nils, leC_int rfl, trivial⟩, rdN_le rfl⟩)
  | skip
theorem fields_107 (b : List Int) (q : Int) (hr : RdOk b q) : MethOk Tryz.prog 92 [(cI .i64).enc 107] (rdN true b q) (encRH (fieldsD b 107 q).1) (rdN true b (fieldsD b 107 q).2) := by
 obtain ⟨W, hW⟩ : ∃ W, fieldsD b 107 q = W := ⟨_, rfl⟩
 have eW : W = (if (numF b q 3).1.2 = 0 then (if 1048575 < (numF b q 3).1.1 then ((zeroH, 5), (numF b q 3).2) else (if (numF b (numF b q 3).2 1).1.2 = 0 then (if (numF b (numF b q 3).2 1).1.1 = 17 then ((zeroH, 5), (numF b (numF b q 3).2 1).2) else ((⟨0, (numF b q 3).1.1, (numF b (numF b q 3).2 1).1.1, 255, zeroA, zeroA, 0, 0⟩, 0), (numF b (numF b q 3).2 1).2)) else ((zeroH, (numF b (numF b q 3).2 1).1.2), (numF b (numF b q 3).2 1).2))) else ((zeroH, (numF b q 3).1.2), (numF b q 3).2)) := by
  rw [<- hW]
  simp (decide := true) only [fieldsD, thenD, hopV, if_true, if_false, true_and, and_true, false_and]
 rw [hW]
 clear hW
 have v1 := num3_v (q := q) hr.bl
 have r1 := num_ok (n := 3) hr
 obtain ⟨N1, e1⟩ : ∃ x, numF b q 3 = x := ⟨_, rfl⟩
 rw [e1] at v1 r1 eW
 have v2 := num1_v (q := N1.2) hr.bl
 have r2 := num_ok (n := 1) r1
 obtain ⟨N2, e2⟩ : ∃ x, numF b N1.2 1 = x := ⟨_, rfl⟩
 rw [e2] at v2 r2 eW
 have wf : IntKind.u32.wrap N1.1.1 = N1.1.1 := IntWalk.u32_in _ (by omega)
 have wn : IntKind.u8.wrap N2.1.1 = N2.1.1 := IntWalk.u8_in _ (by omega)
 have f0 : (¬ N1.1.2 = 0) -> W = ((zeroH, N1.1.2), N1.2) := fun h0 => by rw [eW, if_neg h0]
 have f1 : (N1.1.2 = 0) -> (1048575 < N1.1.1) -> W = ((zeroH, 5), N1.2) := fun h0 h1 => by rw [eW, if_pos h0, if_pos h1]
 have f2 : (N1.1.2 = 0) -> (¬ 1048575 < N1.1.1) -> (¬ N2.1.2 = 0) -> W = ((zeroH, N2.1.2), N2.2) := fun h0 h1 h2 => by rw [eW, if_pos h0, if_neg h1, if_neg h2]
 have f3 : (N1.1.2 = 0) -> (¬ 1048575 < N1.1.1) -> (N2.1.2 = 0) -> (N2.1.1 = 17) -> W = ((zeroH, 5), N2.2) := fun h0 h1 h2 h3 => by rw [eW, if_pos h0, if_neg h1, if_pos h2, if_pos h3]
 have f4 : (N1.1.2 = 0) -> (¬ 1048575 < N1.1.1) -> (N2.1.2 = 0) -> (¬ N2.1.1 = 17) -> W = ((⟨0, N1.1.1, N2.1.1, 255, zeroA, zeroA, 0, 0⟩, 0), N2.2) := fun h0 h1 h2 h3 => by rw [eW, if_pos h0, if_neg h1, if_pos h2, if_neg h3]
 clear eW
 have g1 : True := trivial
 have g2 : True := trivial
 refine meth_intro (wd := 64) (Q := mkQ LRd1) (by decide) tysOk (q_of LRd1_ok) mixed Tryz.func92 rfl _ (by show 1 + 1 <= _; decide) (flatF_nff (encRH_flat _)) (rdN_nf) ?_
 repeat' (first | (apply And.intro <;> intro hc <;> (first | exact Bool.noConfusion hc | (exfalso; first | exact absurd hc (by decide) | exact absurd rfl hc | exact absurd hc (by assumption) | exact absurd (by assumption) hc) | (simp only [zb0, ne_eq, not_true_eq_false] at hc <;> first | exact absurd rfl hc | (exfalso; first | exact absurd hc (by decide) | exact absurd rfl hc | exact absurd hc (by assumption) | exact absurd (by assumption) hc) | skip) | skip)) | (refine And.intro (by first | exact trivial | decide | omega | (dsimp only; omega) | exact fun _ _ => rfl | exact ⟨by assumption, by first | exact trivial | decide | omega | (dsimp only; omega)⟩) ?_) | (apply And.intro) | (refine Exists.intro b (And.intro ⟨rfl, rfl, by first | exact ⟨by assumption, by decide, by decide⟩⟩ ?_)) | (intro s hs; (first | (clear g1; have q : N1 = s := (hs.trans e1).symm; clear hs; subst q) | (clear g2; have q : N2 = s := (hs.trans e2).symm; clear hs; subst q) | skip)))
 all_goals try (first | exact rfl | exact Nat.le_of_ble_eq_true rfl)
 all_goals first
  | ((first | rw [f0 (by assumption)] | rw [f1 (by assumption) (by rw [<- wf]; assumption)] | rw [f2 (by assumption) (by rw [<- wf]; assumption) (by assumption)] | rw [f3 (by assumption) (by rw [<- wf]; assumption) (by assumption) (by rw [<- wn]; assumption)])
     exact ⟨leF_tup ⟨leE_tl (fun j hj => by (iterate 38 (rcases j with _ | j; exact leC_int rfl)); exact absurd hj (by omega)) leC_nils, leC_int rfl, trivial⟩, rdN_le rfl⟩)
  | (rw [f4 (by assumption) (by rw [<- wf]; assumption) (by assumption) (by rw [<- wn]; assumption)]
     exact ⟨leF_tup ⟨leE_tl (fun j hj => by (rcases j with _ | j; exact leC_int rfl); (rcases j with _ | j; exact leC_int wf); (rcases j with _ | j; exact leC_int wn); (rcases j with _ | j; exact leC_int rfl); (iterate 34 (rcases j with _ | j; exact leC_int rfl)); exact absurd hj (by omega)) leC_nils, leC_int rfl, trivial⟩, rdN_le rfl⟩)
  | skip
theorem fields_111 (b : List Int) (q : Int) (hr : RdOk b q) : MethOk Tryz.prog 92 [(cI .i64).enc 111] (rdN true b q) (encRH (fieldsD b 111 q).1) (rdN true b (fieldsD b 111 q).2) := by
 obtain ⟨W, hW⟩ : ∃ W, fieldsD b 111 q = W := ⟨_, rfl⟩
 have eW : W = (if (numF b q 3).1.2 = 0 then (if 1048575 < (numF b q 3).1.1 then ((zeroH, 5), (numF b q 3).2) else ((⟨0, (numF b q 3).1.1, 17, 255, zeroA, zeroA, 0, 0⟩, 0), (numF b q 3).2)) else ((zeroH, (numF b q 3).1.2), (numF b q 3).2)) := by
  rw [<- hW]
  simp (decide := true) only [fieldsD, thenD, hopV, if_true, if_false, true_and, and_true, false_and]
 rw [hW]
 clear hW
 have v1 := num3_v (q := q) hr.bl
 have r1 := num_ok (n := 3) hr
 obtain ⟨N1, e1⟩ : ∃ x, numF b q 3 = x := ⟨_, rfl⟩
 rw [e1] at v1 r1 eW
 have wf : IntKind.u32.wrap N1.1.1 = N1.1.1 := IntWalk.u32_in _ (by omega)
 have f0 : (¬ N1.1.2 = 0) -> W = ((zeroH, N1.1.2), N1.2) := fun h0 => by rw [eW, if_neg h0]
 have f1 : (N1.1.2 = 0) -> (1048575 < N1.1.1) -> W = ((zeroH, 5), N1.2) := fun h0 h1 => by rw [eW, if_pos h0, if_pos h1]
 have f2 : (N1.1.2 = 0) -> (¬ 1048575 < N1.1.1) -> W = ((⟨0, N1.1.1, 17, 255, zeroA, zeroA, 0, 0⟩, 0), N1.2) := fun h0 h1 => by rw [eW, if_pos h0, if_neg h1]
 clear eW
 have g1 : True := trivial
 refine meth_intro (wd := 64) (Q := mkQ LRd1) (by decide) tysOk (q_of LRd1_ok) mixed Tryz.func92 rfl _ (by show 1 + 1 <= _; decide) (flatF_nff (encRH_flat _)) (rdN_nf) ?_
 repeat' (first | (apply And.intro <;> intro hc <;> (first | exact Bool.noConfusion hc | (exfalso; first | exact absurd hc (by decide) | exact absurd rfl hc | exact absurd hc (by assumption) | exact absurd (by assumption) hc) | (simp only [zb0, ne_eq, not_true_eq_false] at hc <;> first | exact absurd rfl hc | (exfalso; first | exact absurd hc (by decide) | exact absurd rfl hc | exact absurd hc (by assumption) | exact absurd (by assumption) hc) | skip) | skip)) | (refine And.intro (by first | exact trivial | decide | omega | (dsimp only; omega) | exact fun _ _ => rfl | exact ⟨by assumption, by first | exact trivial | decide | omega | (dsimp only; omega)⟩) ?_) | (apply And.intro) | (refine Exists.intro b (And.intro ⟨rfl, rfl, by first | exact ⟨by assumption, by decide, by decide⟩⟩ ?_)) | (intro s hs; (first | (clear g1; have q : N1 = s := (hs.trans e1).symm; clear hs; subst q) | skip)))
 all_goals try (first | exact rfl | exact Nat.le_of_ble_eq_true rfl)
 all_goals first
  | ((first | rw [f0 (by assumption)] | rw [f1 (by assumption) (by rw [<- wf]; assumption)])
     exact ⟨leF_tup ⟨leE_tl (fun j hj => by (iterate 38 (rcases j with _ | j; exact leC_int rfl)); exact absurd hj (by omega)) leC_nils, leC_int rfl, trivial⟩, rdN_le rfl⟩)
  | (rw [f2 (by assumption) (by rw [<- wf]; assumption)]
     exact ⟨leF_tup ⟨leE_tl (fun j hj => by (rcases j with _ | j; exact leC_int rfl); (rcases j with _ | j; exact leC_int wf); (rcases j with _ | j; exact leC_int rfl); (rcases j with _ | j; exact leC_int rfl); (iterate 34 (rcases j with _ | j; exact leC_int rfl)); exact absurd hj (by omega)) leC_nils, leC_int rfl, trivial⟩, rdN_le rfl⟩)
  | skip
theorem fields_115 (b : List Int) (q : Int) (hr : RdOk b q) : MethOk Tryz.prog 92 [(cI .i64).enc 115] (rdN true b q) (encRH (fieldsD b 115 q).1) (rdN true b (fieldsD b 115 q).2) := by
 obtain ⟨W, hW⟩ : ∃ W, fieldsD b 115 q = W := ⟨_, rfl⟩
 have eW : W = (if (numF b q 1).1.2 = 0 then (if (numF b (numF b q 1).2 1).1.2 = 0 then (if (numF b (numF b q 1).2 1).1.1 = 17 then ((zeroH, 5), (numF b (numF b q 1).2 1).2) else ((⟨(numF b q 1).1.1, 0, (numF b (numF b q 1).2 1).1.1, 255, zeroA, zeroA, 0, 0⟩, 0), (numF b (numF b q 1).2 1).2)) else ((zeroH, (numF b (numF b q 1).2 1).1.2), (numF b (numF b q 1).2 1).2)) else ((zeroH, (numF b q 1).1.2), (numF b q 1).2)) := by
  rw [<- hW]
  simp (decide := true) only [fieldsD, thenD, hopV, if_true, if_false, true_and, and_true, false_and]
 rw [hW]
 clear hW
 have v1 := num1_v (q := q) hr.bl
 have r1 := num_ok (n := 1) hr
 obtain ⟨N1, e1⟩ : ∃ x, numF b q 1 = x := ⟨_, rfl⟩
 rw [e1] at v1 r1 eW
 have v2 := num1_v (q := N1.2) hr.bl
 have r2 := num_ok (n := 1) r1
 obtain ⟨N2, e2⟩ : ∃ x, numF b N1.2 1 = x := ⟨_, rfl⟩
 rw [e2] at v2 r2 eW
 have wc : IntKind.u8.wrap N1.1.1 = N1.1.1 := IntWalk.u8_in _ (by omega)
 have wn : IntKind.u8.wrap N2.1.1 = N2.1.1 := IntWalk.u8_in _ (by omega)
 have f0 : (¬ N1.1.2 = 0) -> W = ((zeroH, N1.1.2), N1.2) := fun h0 => by rw [eW, if_neg h0]
 have f1 : (N1.1.2 = 0) -> (¬ N2.1.2 = 0) -> W = ((zeroH, N2.1.2), N2.2) := fun h0 h1 => by rw [eW, if_pos h0, if_neg h1]
 have f2 : (N1.1.2 = 0) -> (N2.1.2 = 0) -> (N2.1.1 = 17) -> W = ((zeroH, 5), N2.2) := fun h0 h1 h2 => by rw [eW, if_pos h0, if_pos h1, if_pos h2]
 have f3 : (N1.1.2 = 0) -> (N2.1.2 = 0) -> (¬ N2.1.1 = 17) -> W = ((⟨N1.1.1, 0, N2.1.1, 255, zeroA, zeroA, 0, 0⟩, 0), N2.2) := fun h0 h1 h2 => by rw [eW, if_pos h0, if_pos h1, if_neg h2]
 clear eW
 have g1 : True := trivial
 have g2 : True := trivial
 refine meth_intro (wd := 64) (Q := mkQ LRd1) (by decide) tysOk (q_of LRd1_ok) mixed Tryz.func92 rfl _ (by show 1 + 1 <= _; decide) (flatF_nff (encRH_flat _)) (rdN_nf) ?_
 repeat' (first | (apply And.intro <;> intro hc <;> (first | exact Bool.noConfusion hc | (exfalso; first | exact absurd hc (by decide) | exact absurd rfl hc | exact absurd hc (by assumption) | exact absurd (by assumption) hc) | (simp only [zb0, ne_eq, not_true_eq_false] at hc <;> first | exact absurd rfl hc | (exfalso; first | exact absurd hc (by decide) | exact absurd rfl hc | exact absurd hc (by assumption) | exact absurd (by assumption) hc) | skip) | skip)) | (refine And.intro (by first | exact trivial | decide | omega | (dsimp only; omega) | exact fun _ _ => rfl | exact ⟨by assumption, by first | exact trivial | decide | omega | (dsimp only; omega)⟩) ?_) | (apply And.intro) | (refine Exists.intro b (And.intro ⟨rfl, rfl, by first | exact ⟨by assumption, by decide, by decide⟩⟩ ?_)) | (intro s hs; (first | (clear g1; have q : N1 = s := (hs.trans e1).symm; clear hs; subst q) | (clear g2; have q : N2 = s := (hs.trans e2).symm; clear hs; subst q) | skip)))
 all_goals try (first | exact rfl | exact Nat.le_of_ble_eq_true rfl)
 all_goals first
  | ((first | rw [f0 (by assumption)] | rw [f1 (by assumption) (by assumption)] | rw [f2 (by assumption) (by assumption) (by rw [<- wn]; assumption)])
     exact ⟨leF_tup ⟨leE_tl (fun j hj => by (iterate 38 (rcases j with _ | j; exact leC_int rfl)); exact absurd hj (by omega)) leC_nils, leC_int rfl, trivial⟩, rdN_le rfl⟩)
  | (rw [f3 (by assumption) (by assumption) (by rw [<- wn]; assumption)]
     exact ⟨leF_tup ⟨leE_tl (fun j hj => by (rcases j with _ | j; exact leC_int wc); (rcases j with _ | j; exact leC_int rfl); (rcases j with _ | j; exact leC_int wn); (rcases j with _ | j; exact leC_int rfl); (iterate 34 (rcases j with _ | j; exact leC_int rfl)); exact absurd hj (by omega)) leC_nils, leC_int rfl, trivial⟩, rdN_le rfl⟩)
  | skip
theorem fields_119 (b : List Int) (q : Int) (hr : RdOk b q) : MethOk Tryz.prog 92 [(cI .i64).enc 119] (rdN true b q) (encRH (fieldsD b 119 q).1) (rdN true b (fieldsD b 119 q).2) := by
 obtain ⟨W, hW⟩ : ∃ W, fieldsD b 119 q = W := ⟨_, rfl⟩
 have eW : W = (if (numF b q 1).1.2 = 0 then ((⟨(numF b q 1).1.1, 0, 17, 255, zeroA, zeroA, 0, 0⟩, 0), (numF b q 1).2) else ((zeroH, (numF b q 1).1.2), (numF b q 1).2)) := by
  rw [<- hW]
  simp (decide := true) only [fieldsD, thenD, hopV, if_true, if_false, true_and, and_true, false_and]
 rw [hW]
 clear hW
 have v1 := num1_v (q := q) hr.bl
 have r1 := num_ok (n := 1) hr
 obtain ⟨N1, e1⟩ : ∃ x, numF b q 1 = x := ⟨_, rfl⟩
 rw [e1] at v1 r1 eW
 have wc : IntKind.u8.wrap N1.1.1 = N1.1.1 := IntWalk.u8_in _ (by omega)
 have f0 : (¬ N1.1.2 = 0) -> W = ((zeroH, N1.1.2), N1.2) := fun h0 => by rw [eW, if_neg h0]
 have f1 : (N1.1.2 = 0) -> W = ((⟨N1.1.1, 0, 17, 255, zeroA, zeroA, 0, 0⟩, 0), N1.2) := fun h0 => by rw [eW, if_pos h0]
 clear eW
 have g1 : True := trivial
 refine meth_intro (wd := 64) (Q := mkQ LRd1) (by decide) tysOk (q_of LRd1_ok) mixed Tryz.func92 rfl _ (by show 1 + 1 <= _; decide) (flatF_nff (encRH_flat _)) (rdN_nf) ?_
 repeat' (first | (apply And.intro <;> intro hc <;> (first | exact Bool.noConfusion hc | (exfalso; first | exact absurd hc (by decide) | exact absurd rfl hc | exact absurd hc (by assumption) | exact absurd (by assumption) hc) | (simp only [zb0, ne_eq, not_true_eq_false] at hc <;> first | exact absurd rfl hc | (exfalso; first | exact absurd hc (by decide) | exact absurd rfl hc | exact absurd hc (by assumption) | exact absurd (by assumption) hc) | skip) | skip)) | (refine And.intro (by first | exact trivial | decide | omega | (dsimp only; omega) | exact fun _ _ => rfl | exact ⟨by assumption, by first | exact trivial | decide | omega | (dsimp only; omega)⟩) ?_) | (apply And.intro) | (refine Exists.intro b (And.intro ⟨rfl, rfl, by first | exact ⟨by assumption, by decide, by decide⟩⟩ ?_)) | (intro s hs; (first | (clear g1; have q : N1 = s := (hs.trans e1).symm; clear hs; subst q) | skip)))
 all_goals try (first | exact rfl | exact Nat.le_of_ble_eq_true rfl)
 all_goals first
  | (rw [f0 (by assumption)]
     exact ⟨leF_tup ⟨leE_tl (fun j hj => by (iterate 38 (rcases j with _ | j; exact leC_int rfl)); exact absurd hj (by omega)) leC_nils, leC_int rfl, trivial⟩, rdN_le rfl⟩)
  | (rw [f1 (by assumption)]
     exact ⟨leF_tup ⟨leE_tl (fun j hj => by (rcases j with _ | j; exact leC_int wc); (rcases j with _ | j; exact leC_int rfl); (rcases j with _ | j; exact leC_int rfl); (rcases j with _ | j; exact leC_int rfl); (iterate 34 (rcases j with _ | j; exact leC_int rfl)); exact absurd hj (by omega)) leC_nils, leC_int rfl, trivial⟩, rdN_le rfl⟩)
  | skip
theorem fields_123 (b : List Int) (q : Int) (hr : RdOk b q) : MethOk Tryz.prog 92 [(cI .i64).enc 123] (rdN true b q) (encRH (fieldsD b 123 q).1) (rdN true b (fieldsD b 123 q).2) := by
 obtain ⟨W, hW⟩ : ∃ W, fieldsD b 123 q = W := ⟨_, rfl⟩
 have eW : W = (if (numF b q 1).1.2 = 0 then (if (numF b q 1).1.1 = 17 then ((zeroH, 5), (numF b q 1).2) else ((⟨0, 0, (numF b q 1).1.1, 255, zeroA, zeroA, 0, 0⟩, 0), (numF b q 1).2)) else ((zeroH, (numF b q 1).1.2), (numF b q 1).2)) := by
  rw [<- hW]
  simp (decide := true) only [fieldsD, thenD, hopV, if_true, if_false, true_and, and_true, false_and]
 rw [hW]
 clear hW
 have v1 := num1_v (q := q) hr.bl
 have r1 := num_ok (n := 1) hr
 obtain ⟨N1, e1⟩ : ∃ x, numF b q 1 = x := ⟨_, rfl⟩
 rw [e1] at v1 r1 eW
 have wn : IntKind.u8.wrap N1.1.1 = N1.1.1 := IntWalk.u8_in _ (by omega)
 have f0 : (¬ N1.1.2 = 0) -> W = ((zeroH, N1.1.2), N1.2) := fun h0 => by rw [eW, if_neg h0]
 have f1 : (N1.1.2 = 0) -> (N1.1.1 = 17) -> W = ((zeroH, 5), N1.2) := fun h0 h1 => by rw [eW, if_pos h0, if_pos h1]
 have f2 : (N1.1.2 = 0) -> (¬ N1.1.1 = 17) -> W = ((⟨0, 0, N1.1.1, 255, zeroA, zeroA, 0, 0⟩, 0), N1.2) := fun h0 h1 => by rw [eW, if_pos h0, if_neg h1]
 clear eW
 have g1 : True := trivial
 refine meth_intro (wd := 64) (Q := mkQ LRd1) (by decide) tysOk (q_of LRd1_ok) mixed Tryz.func92 rfl _ (by show 1 + 1 <= _; decide) (flatF_nff (encRH_flat _)) (rdN_nf) ?_
 repeat' (first | (apply And.intro <;> intro hc <;> (first | exact Bool.noConfusion hc | (exfalso; first | exact absurd hc (by decide) | exact absurd rfl hc | exact absurd hc (by assumption) | exact absurd (by assumption) hc) | (simp only [zb0, ne_eq, not_true_eq_false] at hc <;> first | exact absurd rfl hc | (exfalso; first | exact absurd hc (by decide) | exact absurd rfl hc | exact absurd hc (by assumption) | exact absurd (by assumption) hc) | skip) | skip)) | (refine And.intro (by first | exact trivial | decide | omega | (dsimp only; omega) | exact fun _ _ => rfl | exact ⟨by assumption, by first | exact trivial | decide | omega | (dsimp only; omega)⟩) ?_) | (apply And.intro) | (refine Exists.intro b (And.intro ⟨rfl, rfl, by first | exact ⟨by assumption, by decide, by decide⟩⟩ ?_)) | (intro s hs; (first | (clear g1; have q : N1 = s := (hs.trans e1).symm; clear hs; subst q) | skip)))
 all_goals try (first | exact rfl | exact Nat.le_of_ble_eq_true rfl)
 all_goals first
  | ((first | rw [f0 (by assumption)] | rw [f1 (by assumption) (by rw [<- wn]; assumption)])
     exact ⟨leF_tup ⟨leE_tl (fun j hj => by (iterate 38 (rcases j with _ | j; exact leC_int rfl)); exact absurd hj (by omega)) leC_nils, leC_int rfl, trivial⟩, rdN_le rfl⟩)
  | (rw [f2 (by assumption) (by rw [<- wn]; assumption)]
     exact ⟨leF_tup ⟨leE_tl (fun j hj => by (rcases j with _ | j; exact leC_int rfl); (rcases j with _ | j; exact leC_int rfl); (rcases j with _ | j; exact leC_int wn); (rcases j with _ | j; exact leC_int rfl); (iterate 34 (rcases j with _ | j; exact leC_int rfl)); exact absurd hj (by omega)) leC_nils, leC_int rfl, trivial⟩, rdN_le rfl⟩)
  | skip
theorem fields_127 (b : List Int) (q : Int) (hr : RdOk b q) : MethOk Tryz.prog 92 [(cI .i64).enc 127] (rdN true b q) (encRH (fieldsD b 127 q).1) (rdN true b (fieldsD b 127 q).2) := by
 obtain ⟨W, hW⟩ : ∃ W, fieldsD b 127 q = W := ⟨_, rfl⟩
 have eW : W = ((⟨0, 0, 17, 255, zeroA, zeroA, 0, 0⟩, 0), q) := by
  rw [<- hW]
  simp (decide := true) only [fieldsD, thenD, hopV, if_true, if_false, true_and, and_true, false_and]
 rw [hW]
 clear hW
 have f0 : W = ((⟨0, 0, 17, 255, zeroA, zeroA, 0, 0⟩, 0), q) := eW
 clear eW
 refine meth_intro (wd := 64) (Q := mkQ LRd1) (by decide) tysOk (q_of LRd1_ok) mixed Tryz.func92 rfl _ (by show 1 + 1 <= _; decide) (flatF_nff (encRH_flat _)) (rdN_nf) ?_
 repeat' (first | (apply And.intro <;> intro hc <;> (first | exact Bool.noConfusion hc | (exfalso; first | exact absurd hc (by decide) | exact absurd rfl hc | exact absurd hc (by assumption) | exact absurd (by assumption) hc) | (simp only [zb0, ne_eq, not_true_eq_false] at hc <;> first | exact absurd rfl hc | (exfalso; first | exact absurd hc (by decide) | exact absurd rfl hc | exact absurd hc (by assumption) | exact absurd (by assumption) hc) | skip) | skip)) | (refine And.intro (by first | exact trivial | decide | omega | (dsimp only; omega) | exact fun _ _ => rfl | exact ⟨by assumption, by first | exact trivial | decide | omega | (dsimp only; omega)⟩) ?_) | (apply And.intro) | (refine Exists.intro b (And.intro ⟨rfl, rfl, by first | exact ⟨by assumption, by decide, by decide⟩⟩ ?_)) | (intro s hs; (first  | skip)))
 all_goals try (first | exact rfl | exact Nat.le_of_ble_eq_true rfl)
 all_goals first
  | (rw [f0 ]
     exact ⟨leF_tup ⟨leE_tl (fun j hj => by (rcases j with _ | j; exact leC_int rfl); (rcases j with _ | j; exact leC_int rfl); (rcases j with _ | j; exact leC_int rfl); (rcases j with _ | j; exact leC_int rfl); (iterate 34 (rcases j with _ | j; exact leC_int rfl)); exact absurd hj (by omega)) leC_nils, leC_int rfl, trivial⟩, rdN_le rfl⟩)
  | skip
theorem fieldsR_ok (b : List Int) (x q : Int) (hr : RdOk b q) (hx : 96 <= x /\ x <= 127) : MethOk Tryz.prog 92 [(cI .i64).enc x] (rdN true b q) (encRH (fieldsD b x q).1) (rdN true b (fieldsD b x q).2) := by
 have h : x = 96 \/ x = 97 \/ x = 98 \/ x = 99 \/ x = 100 \/ x = 101 \/ x = 102 \/ x = 103 \/ x = 104 \/ x = 105 \/ x = 106 \/ x = 107 \/ x = 108 \/ x = 109 \/ x = 110 \/ x = 111 \/ x = 112 \/ x = 113 \/ x = 114 \/ x = 115 \/ x = 116 \/ x = 117 \/ x = 118 \/ x = 119 \/ x = 120 \/ x = 121 \/ x = 122 \/ x = 123 \/ x = 124 \/ x = 125 \/ x = 126 \/ x = 127 := by omega
 rcases h with rfl | rfl | rfl | rfl | rfl | rfl | rfl | rfl | rfl | rfl | rfl | rfl | rfl | rfl | rfl | rfl | rfl | rfl | rfl | rfl | rfl | rfl | rfl | rfl | rfl | rfl | rfl | rfl | rfl | rfl | rfl | rfl
 . exact fields_96 b q hr
 . exact fields_97 b q hr
 . exact fields_98 b q hr
 . exact fields_99 b q hr
 . exact fields_100 b q hr
 . exact fields_101 b q hr
 . exact fields_102 b q hr
 . exact fields_103 b q hr
 . exact fields_104 b q hr
 . exact fields_105 b q hr
 . exact fields_106 b q hr
 . exact fields_107 b q hr
 . exact fields_108 b q hr
 . exact fields_109 b q hr
 . exact fields_110 b q hr
 . exact fields_111 b q hr
 . exact fields_112 b q hr
 . exact fields_113 b q hr
 . exact fields_114 b q hr
 . exact fields_115 b q hr
 . exact fields_116 b q hr
 . exact fields_117 b q hr
 . exact fields_118 b q hr
 . exact fields_119 b q hr
 . exact fields_120 b q hr
 . exact fields_121 b q hr
 . exact fields_122 b q hr
 . exact fields_123 b q hr
 . exact fields_124 b q hr
 . exact fields_125 b q hr
 . exact fields_126 b q hr
 . exact fields_127 b q hr
def allB : Nat -> (Nat -> Bool) -> Bool
 | 0, _ => true
 | n + 1, p => allB n p && p n
theorem allB_at : ∀ {n : Nat} {p : Nat -> Bool}, allB n p = true -> ∀ i, i < n -> p i = true := by
 intro n
 induction n with
 | zero => intro p _ i hi; omega
 | succ n ih =>
   intro p h i hi
   unfold allB at h
   rw [Bool.and_eq_true] at h
   rcases Nat.lt_or_ge i n with h' | h'
   . exact ih h.1 i h'
   . have : i = n := by omega
     subst this
     exact h.2
def ptrLt (nm : Nat) : CV -> Bool
 | .int _ _ => true
 | .bool _ => true
 | .ptr k _ _ _ => Nat.blt k nm
 | _ => false
def argLt (nm : Nat) : FV -> Bool
 | .e (.c x) => ptrLt nm x
 | _ => false
def plainC : CV -> Bool
 | .int _ _ => true
 | .bool _ => true
 | .ptr _ _ _ _ => true
 | _ => false
def plainV : FV -> Bool
 | .e (.c (.fn _ n m a)) => allB (n + m) fun k => plainC (a k)
 | .e (.c x) => plainC x
 | _ => false
def plainH (nm : Nat) : Hp -> Bool
 | [] => true
 | (k, some e) :: l => Nat.ble nm k && (allB e.n fun i => allB e.sz fun j => plainC (e.f i j)) && plainH nm l
 | (_, none) :: _ => false
theorem plainC_rel {x : CV} (h : plainC x = true) {r r' : Ren} {X X' W W' : Nat -> Prop} {w w' : World} {v : Value} (hr : ∀ k b, r k = some b -> r' k = some b) (hx : x.rel r X W w v) : x.rel r' X' W' w' v := by
 cases x with
 | int => exact hx
 | bool => exact hx
 | ptr => obtain ⟨b, hb, h2⟩ := hx; exact ⟨b, ⟨hr _ _ hb.1, hb.2⟩, h2⟩
 | _ => cases h
theorem ptrLt_rel {nm : Nat} {x : CV} (h : ptrLt nm x = true) {r r' : Ren} {X X' W W' : Nat -> Prop} {w w' : World} {v : Value} (hr : ∀ k b, k < nm -> r k = some b -> r' k = some b) (hx : x.rel r X W w v) : x.rel r' X' W' w' v := by
 cases x with
 | int => exact hx
 | bool => exact hx
 | ptr k => obtain ⟨b, hb, h2⟩ := hx; exact ⟨b, ⟨hr _ _ (Nat.le_of_ble_eq_true h) hb.1, hb.2⟩, h2⟩
 | _ => cases h
theorem plainV_rel {x : FV} (h : plainV x = true) {r r' : Ren} {X X' W W' : Nat -> Prop} {w w' : World} {v : Value} (hr : ∀ k b, r k = some b -> r' k = some b) (hx : x.rel r X W w v) : x.rel r' X' W' w' v := by
 unfold plainV at h
 split at h
 . rename_i f n m a
   obtain ⟨fs, cs, rfl, h1, h2, h3, h4⟩ := hx
   have hk : ∀ k, k < n + m -> plainC (a k) = true := fun k hk => allB_at h k hk
   refine ⟨fs, cs, rfl, h1, h2, fun k u hu => plainC_rel (hk k ?_) hr (h3 k u hu), fun k u hu => plainC_rel (hk (n + k) ?_) hr (h4 k u hu)⟩
   . have := (Array.getElem?_eq_some_iff.1 hu).1; omega
   . have := (Array.getElem?_eq_some_iff.1 hu).1; omega
 . exact plainC_rel h hr hx
 . cases h
theorem plainH_at {nm : Nat} : ∀ {H : Hp}, plainH nm H = true -> ∀ k e, hget H k = some e -> nm <= k /\ ∀ i, i < e.n -> ∀ j, j < e.sz -> plainC (e.f i j) = true := by
 intro H
 induction H with
 | nil => intro _ k e h; cases h
 | cons p H ih =>
   obtain ⟨k0, x⟩ := p
   intro h k e he
   cases x with
   | none => cases h
   | some e0 =>
     unfold plainH at h
     rw [Bool.and_eq_true, Bool.and_eq_true] at h
     by_cases hk : k = k0
     . subst hk
       have e1 : hget ((k, some e0) :: H) k = some e0 := look_cons_eq _ _ _ _
       rw [e1] at he
       injection he with he
       subst he
       exact ⟨Nat.le_of_ble_eq_true h.1.1, fun i hi j hj => allB_at (allB_at h.1.2 i hi) j hj⟩
     . have e1 : hget ((k0, some e0) :: H) k = hget H k := look_cons_ne _ _ _ hk
       rw [e1] at he
       exact ih h.2 k e he
def inl0E (T : Tys) (Q : Qs) (wi nt : Nat) (rv : List ResultVar) (c : Code) : Entry := fun args H nm wd =>
 bif args.all (argLt nm) then some fun K => Nat.ble args.length nt = true /\ exec T Q wi nt nm c (argFr args 0) [] nm (endH T rv fun x Hf nf => (Nat.ble nf (nm + wd) = true /\ plainH nm Hf = true /\ plainV x = true) /\ K x Hf []) else none
theorem inl0E_ok {P : Program} {T : Tys} {Q : Qs} {wi : Nat} (hwi : 0 < wi) (hT : TysOk P T) (hQ : QsOk P Q) (hM : QsMono Q) (hm : P.follows .mixedOrders = true) {f : FuncId} {fn : Func} {c : Code} (hf : P.funcs[f]? = some fn) (hb : fn.body = some c) (hnm : (fn.name == "runtime.NumGoroutine") = false) : EntOk P f (inl0E T Q wi fn.ntmps fn.results.toList c) := by
 refine ⟨fun args H nm wd q hwd hq K hK => ?_, fun args H nm wd q hq K K' hKK hK => ?_⟩
 . obtain ⟨hargs, hq⟩ := cond_some hq
   subst hq
   obtain ⟨hn, hK⟩ := hK
   have hn := Nat.le_of_ble_eq_true hn
   obtain ⟨⟨x, Hf, nf⟩, ⟨⟨hle, hpH, hpV⟩, hKL⟩, hex⟩ := exec_some (α := FV × Hp × Nat) (post := fun a x H n => x = a.1 /\ H = a.2.1 /\ n = a.2.2) (S := fun a => (Nat.ble a.2.2 (nm + wd) = true /\ plainH nm a.2.1 = true /\ plainV a.1 = true) /\ K a.1 a.2.1 []) hwi hQ
    (exec_mono hM c _ _ (endH_mono fun x Hf nf h => ⟨(x, Hf, nf), h, rfl, rfl, rfl⟩) _ _ _ hK)
   have hle := Nat.le_of_ble_eq_true hle
   refine ⟨x, Hf, [], ⟨⟨fn, hf, by rw [hb]; rfl, hnm⟩, fun H' hh cx r w vals st hfr hw hrel => ?_⟩, hKL⟩
   have hr0 : ∀ k, nm <= k -> (if k < nm then r k else none) = none := fun k hk => if_neg (by omega)
   have hr1 : ∀ k, k < nm -> (if k < nm then r k else none) = r k := fun k hk => if_pos hk
   have hr2 : ∀ k y, (if k < nm then r k else none) = some y -> k < nm /\ r k = some y := fun k y h => by
    by_cases hk : k < nm
    . rw [if_pos hk] at h; exact ⟨hk, h⟩
    . rw [if_neg hk] at h; cases h
   have hG : GlobOk (fun b => False \/ (∃ k y, r k = some y /\ y.b = b) \/ False) w := glob_more (gl_in st) fun p _ h => h.elim False.elim fun h => h.elim (fun h => .inr (.inl h)) False.elim
   refine (fn_run (np := nm) (cx := ⟨w, fun b => ∃ k y, r k = some y /\ y.b = b, fun _ => False, fun _ => False, fun k => if k < nm then r k else none⟩) (r := fun k => if k < nm then r k else none) (H0 := []) hwi hT (QR_ok P) hm hf hb hn hex (fun k b hk => (hr2 k b hk).1)
    ⟨rfl, rfl, rfl, Nat.le_refl _, fun _ _ _ => rfl, ⟨fun b hb => hb.elim, hG⟩, fun k y hk => ?_, (fun k e y he _ => by cases he), (fun n m e1 e2 y z h => by cases h), fun k b hk => hk, (fun k e he => by cases he)⟩ ⟨hrel.1, fun i y u hy hu => ?_⟩ (fun k hk => ⟨hr0 k hk, rfl⟩)).mono fun e w' he => ?_
   . obtain ⟨_, hk⟩ := hr2 k y hk
     exact ⟨(st.dom k y hk).1, .inr ⟨k, y, hk, rfl⟩, fun h => h⟩
   . have hl : argLt nm y = true := List.all_eq_true.1 hargs y (List.mem_of_getElem? hy)
     have h0 := hrel.2 i y u hy hu
     cases y with
     | e z =>
       cases z with
       | c z => exact ptrLt_rel hl (fun k b hk hb => by rw [if_pos hk]; exact hb) h0
       | agg => cases hl
     | _ => cases hl
   . obtain ⟨v, r', x', Hf', nf', rfl, ⟨e1, e2, e3⟩, st', hn', hx, hlow⟩ := he
     dsimp only at e1 e2 e3
     rw [e2] at st' hx hn'
     rw [e1] at hx
     rw [e3] at hn'
     clear e1 e2 e3
     have hle2 : ∀ k, nm + wd <= k -> r' k = none /\ hget Hf k = none := fun k hk => hn' k (Nat.le_trans hle hk)
     have hin : ∀ k, nm <= k -> k < nm + wd -> (if nm <= k /\ k < nm + wd then r' k else r k) = r' k := fun k h1 h2 => if_pos ⟨h1, h2⟩
     have hout : ∀ k, ¬ (nm <= k /\ k < nm + wd) -> (if nm <= k /\ k < nm + wd then r' k else r k) = r k := fun k h => if_neg h
     have hall : ∀ k y, r k = some y -> (if nm <= k /\ k < nm + wd then r' k else r k) = some y := fun k y hk => by
      by_cases h : nm <= k /\ k < nm + wd
      . rw [(hfr k h.1 h.2).1] at hk; cases hk
      . rw [if_neg h]; exact hk
     have hall' : ∀ k y, r' k = some y -> (if nm <= k /\ k < nm + wd then r' k else r k) = some y := fun k y hk => by
      by_cases h : nm <= k /\ k < nm + wd
      . rw [if_pos h]; exact hk
      . rw [if_neg h]
        by_cases h1 : k < nm
        . rw [hlow k h1, hr1 k h1] at hk; exact hk
        . rw [(hle2 k (by omega)).1] at hk; cases hk
     have hHf : ∀ k e, hget Hf k = some e -> nm <= k /\ k < nm + wd := fun k e he => by
      refine ⟨(plainH_at hpH k e he).1, ?_⟩
      rcases Nat.lt_or_ge k (nm + wd) with h | h
      . exact h
      . rw [(hle2 k h).2] at he; cases he
     have hnew : ∀ k e y, hget Hf k = some e -> r' k = some y -> w.heap.size <= y.b := fun k e y he hy => by
      rcases st'.ow k e y he hy with h | h
      . exact h
      . exact h.elim
     have hsplit : ∀ k e, hget (Hf ++ H') k = some e -> (hget Hf k = some e /\ nm <= k /\ k < nm + wd) \/ (hget H' k = some e /\ ¬ (nm <= k /\ k < nm + wd)) := fun k e he => by
      have he' : look none (Hf ++ H') k = some e := he
      rw [look_append] at he'
      cases hk : hasKey Hf k with
      | true =>
        rw [hk, cond_true] at he'
        exact .inl ⟨he', hHf k e he'⟩
      | false =>
        rw [hk, cond_false] at he'
        refine .inr ⟨he', fun h => ?_⟩
        have := (hfr k h.1 h.2).2
        have he2 : hget H' k = some e := he'
        rw [this] at he2; cases he2
     have hwr2 : ∀ b, b < w.heap.size -> wr (fun k => if nm <= k /\ k < nm + wd then r' k else r k) (Hf ++ H') b -> wr r H' b := by
      rintro b hb ⟨k, e, y, he, hy, rfl⟩
      have hy' : (if nm <= k /\ k < nm + wd then r' k else r k) = some y := hy
      rcases hsplit k e he with ⟨h1, h2⟩ | ⟨h1, h2⟩
      . rw [if_pos h2] at hy'
        have := hnew k e y h1 hy'
        omega
      . rw [if_neg h2] at hy'
        exact ⟨k, e, y, h1, hy', rfl⟩
     have hE : Ext r (wr r H') w (fun k => if nm <= k /\ k < nm + wd then r' k else r k) (wr (fun k => if nm <= k /\ k < nm + wd then r' k else r k) (Hf ++ H')) w' :=
      ⟨hall, st'.size, fun b hb _ => st'.kept b hb (fun h => h), fun b hb hW => hwr2 b hb hW⟩
     refine ⟨v, rfl, fun k => if nm <= k /\ k < nm + wd then r' k else r k, hE, ⟨st'.os.trans st.os, st'.tape.trans st.tape, st'.output.trans st.output, Nat.le_trans st.size st'.size, fun b hb hne => ?_, st.xlt, fun k y hk => ?_, fun k e y he hy => ?_, fun n m e1 e2 y z h1 h2 hy hz hyz => ?_, fun k b hk => hall k b (st.pin k b hk), fun k e he => ?_⟩, fun k hk => hout k (by omega), fun k e he => ?_, ?_⟩
     . rw [<- st.kept b hb hne]
       exact st'.kept b (Nat.lt_of_lt_of_le hb st.size) (fun h => h)
     . have hk' : (if nm <= k /\ k < nm + wd then r' k else r k) = some y := hk
       by_cases h : nm <= k /\ k < nm + wd
       . rw [if_pos h] at hk'
         obtain ⟨d1, d2, _⟩ := st'.dom k y hk'
         rcases d2 with d2 | ⟨k0, y0, d4, d5⟩
         . refine ⟨d1, .inl (Nat.le_trans st.size d2), fun hX => ?_⟩
           have := Nat.lt_of_lt_of_le (st.xlt.lt _ hX) st.size
           have d2' : w.heap.size <= y.b := d2
           omega
         . obtain ⟨a1, a2, a3⟩ := st.dom k0 y0 d4
           rw [d5] at a1 a2 a3
           exact ⟨d1, a2, a3⟩
       . rw [if_neg h] at hk'
         obtain ⟨a1, a2, a3⟩ := st.dom k y hk'
         exact ⟨Nat.lt_of_lt_of_le a1 st'.size, a2, a3⟩
     . have hy' : (if nm <= k /\ k < nm + wd then r' k else r k) = some y := hy
       rcases hsplit k e he with ⟨h1, h2⟩ | ⟨h1, h2⟩
       . rw [if_pos h2] at hy'
         exact .inl (Nat.le_trans st.size (hnew k e y h1 hy'))
       . rw [if_neg h2] at hy'
         exact st.ow k e y h1 hy'
     . have hy' : (if nm <= n /\ n < nm + wd then r' n else r n) = some y := hy
       have hz' : (if nm <= m /\ m < nm + wd then r' m else r m) = some z := hz
       rcases hsplit n e1 h1 with ⟨a1, a2⟩ | ⟨a1, a2⟩
       . rw [if_pos a2] at hy'
         rcases hsplit m e2 h2 with ⟨b1, b2⟩ | ⟨b1, b2⟩
         . rw [if_pos b2] at hz'
           exact st'.inj n m e1 e2 y z a1 b1 hy' hz' hyz
         . rw [if_neg b2] at hz'
           have := hnew n e1 y a1 hy'
           have := (st.dom m z hz').1
           omega
       . rw [if_neg a2] at hy'
         rcases hsplit m e2 h2 with ⟨b1, b2⟩ | ⟨b1, b2⟩
         . rw [if_pos b2] at hz'
           have := hnew m e2 z b1 hz'
           have := (st.dom n y hy').1
           omega
         . rw [if_neg b2] at hz'
           exact st.inj n m e1 e2 y z a1 b1 hy' hz' hyz
     . rcases hsplit k e he with ⟨h1, h2⟩ | ⟨h1, h2⟩
       . have hb := st'.blk k e h1
         show EntIn _ cx.X _ w' e (if nm <= k /\ k < nm + wd then r' k else r k) w'.heap
         rw [if_pos h2]
         exact entIn_map rfl rfl rfl rfl (fun i hi j hj u hu => plainC_rel ((plainH_at hpH k e h1).2 i hi j hj) hall' hu) hb
       . have hold := st.old h1 rfl (w' := w') fun y hy => st'.kept _ (st.dom k y hy).1 (fun h => h)
         show EntIn _ cx.X _ w' e (if nm <= k /\ k < nm + wd then r' k else r k) w'.heap
         rw [if_neg h2]
         exact hold.ext hE
     . rcases hsplit k e he with ⟨h1, h2⟩ | ⟨h1, h2⟩
       . exact .inl ⟨.inl h2.1, h2.2⟩
       . exact .inr ⟨e, h1⟩
     . exact plainV_rel hpV hall' hx
 . obtain ⟨hargs, hq⟩ := cond_some hq
   subst hq
   exact ⟨hK.1, exec_mono hM c _ _ (endH_mono fun x Hf nf h => ⟨h.1, hKK _ _ _ h.2⟩) _ _ _ hK.2⟩
def findC (a : List Ctx × Int × Int) : Nat -> CV := nth [.rp false 1 (fun _ => .sl false a.1.length eCtx.sz (rowF eCtx a.1)), .rp false 1 (fun _ => .int .i64 a.2.1), .rp false 1 (fun _ => .int .i64 a.2.2)]
theorem rp_of {cx : Cx} {r : Ren} {H' : Hp} {w : World} {k : Nat} {fl : Bool} {e : Ent} {rd : List Nat} {X' : Nat -> Prop} {g : CV} {u : Value} (st : St cx r H' w) (he : hget H' k = some e) (hk : k ∈ rd) (hn : 0 < e.n) (hsz : 0 < e.sz)
 (hc : ∀ u, (e.f 0 0).rel r cx.X (wr r H') w u -> g.rel (fun _ => none) X' (wrBut r H' rd) w u) (h : (CV.ptr k 0 0 fl).rel r cx.X (wr r H') w u) : (CV.rp false 1 fun _ => g).rel (fun _ => none) X' (wrBut r H' rd) w u := by
 obtain ⟨y, hy, rfl⟩ := h
 refine ⟨⟨y.b, 0 * y.sz + 0, none⟩, rfl, rfl, ?_, (fun h => by cases h), (st.dom k y hy.1).1, fun j hj => ?_⟩
 . rintro ⟨k2, e2, z, q1, q2, q3, q4⟩
   have := st.inj k2 k e2 e z y q1 he q2 hy.1 q3
   exact q4 (by rw [this]; exact hk)
 . obtain rfl : j = 0 := by omega
   obtain ⟨u, hu, hr⟩ := blk_cell st he hy (i := 0) (j := 0) hn hsz
   exact ⟨u, hu, hc u hr⟩
theorem slC_in {cx : Cx} {r : Ren} {H' : Hp} {w : World} {sh : Bool} {n : Nat} {f : Nat -> Nat -> CV} {X' : Nat -> Prop} {rd : List Nat} {u : Value} (hok : ∀ i, i < n -> eCtx.ok (f i) = true) (h : (CV.sl sh n eCtx.sz f).rel r cx.X (wr r H') w u) :
 (CV.sl false (toL eCtx n f).length eCtx.sz (rowF eCtx (toL eCtx n f))).rel (fun _ => none) X' (wrBut r H' rd) w u := by
 obtain ⟨a, cap, rfl, h1, h2⟩ := h
 rw [toL_len]
 refine ⟨a, cap, rfl, h1, fun h0 => ?_⟩
 obtain ⟨ad, rfl, hs, ho, hx, hlt, hc⟩ := h2 h0
 refine ⟨ad, rfl, hs, fun ⟨k, e, x, g1, g2, g3, _⟩ => ho ⟨k, e, x, g1, g2, g3⟩, (fun h => by cases h), hlt, fun i hi j hj => ?_⟩
 obtain ⟨u, hu, hr⟩ := hc i hi j hj
 refine ⟨u, hu, ?_⟩
 rw [eCtx.ok_eq _ (hok i hi) j hj] at hr
 have e : rowF eCtx (toL eCtx n f) i j = eCtx.cell (eCtx.rd (f i)) j := by
  unfold rowF toL
  rw [List.getD_eq_getElem?_getD, List.getElem?_map, List.getElem?_range hi]; rfl
 rw [e]
 exact (eCtx.flat _ _) _ _ _ _ _ _ _ _ _ hr
def cFind : Codec (List Ctx × Int × Int) where
 enc a := .e (.c (.fn 94 0 3 (findC a)))
 dec H x := match x with
  | .e (.c (.fn f n m a)) => match a 0, a 1, a 2 with
    | .ptr k0 0 0 _, .ptr k1 0 0 _, .ptr k2 0 0 _ => match hget H k0, hget H k1, hget H k2 with
      | some ⟨_, n0, z0, _, f0⟩, some ⟨_, n1, z1, _, f1⟩, some ⟨_, n2, z2, _, f2⟩ => match f0 0 0, f1 0 0, f2 0 0 with
        | .sl _ ln s g, .int .i64 id, .int .i64 now => bif Nat.beq f 94 && Nat.beq n 0 && Nat.beq m 3 && Nat.beq s eCtx.sz && Nat.blt 0 n0 && Nat.blt 0 z0 && Nat.blt 0 n1 && Nat.blt 0 z1 && Nat.blt 0 n2 && Nat.blt 0 z2 then
           some ((toL eCtx ln g, id, now), some (∀ i, i < ln -> eCtx.ok (g i) = true), [k0, k1, k2]) else none
        | _, _, _ => none
      | _, _, _ => none
    | _, _, _ => none
  | _ => none
 sound H H' x a p rd h hp hh := by
  split at h
  . rename_i f n m a0
    split at h
    . rename_i k0 fl0 k1 fl1 k2 fl2 ha0 ha1 ha2
      split at h
      . rename_i t0 n0 z0 v0 f0 t1 n1 z1 v1 f1 t2 n2 z2 v2 f2 he0 he1 he2
        split at h
        . rename_i sh ln s g id now hc0 hc1 hc2
          obtain ⟨hb, h⟩ := cond_some h
          injection h with h h'
          injection h' with h' h''
          subst h h' h''
          simp only [Bool.and_eq_true] at hb
          obtain ⟨⟨⟨⟨⟨⟨⟨⟨⟨b1, b2⟩, b3⟩, b4⟩, b5⟩, b6⟩, b7⟩, b8⟩, b9⟩, b10⟩ := hb
          have b1 := Nat.eq_of_beq_eq_true b1
          have b2 := Nat.eq_of_beq_eq_true b2
          have b3 := Nat.eq_of_beq_eq_true b3
          have b4 := Nat.eq_of_beq_eq_true b4
          subst b1 b2 b3 b4
          have g0 : hget H' k0 = some ⟨t0, n0, z0, v0, f0⟩ := by rw [<- hh k0 (by simp)]; exact he0
          have g1 : hget H' k1 = some ⟨t1, n1, z1, v1, f1⟩ := by rw [<- hh k1 (by simp)]; exact he1
          have g2 : hget H' k2 = some ⟨t2, n2, z2, v2, f2⟩ := by rw [<- hh k2 (by simp)]; exact he2
          rintro cx r w v st ⟨fs, cs, rfl, h1, h2, h3, h4⟩
          refine ⟨fs, cs, rfl, h1, h2, fun k u hu => ?_, fun k u hu => ?_⟩
          . have := (Array.getElem?_eq_some_iff.1 hu).1; omega
          . have hk := (Array.getElem?_eq_some_iff.1 hu).1
            have hr := h4 k u hu
            rw [Nat.zero_add] at hr ⊢
            rcases (show k = 0 \/ k = 1 \/ k = 2 by omega) with rfl | rfl | rfl
            . rw [ha0] at hr
              exact rp_of st g0 (by simp) (Nat.le_of_ble_eq_true b5) (Nat.le_of_ble_eq_true b6) (fun u hu => slC_in (sh := sh) hp (by rw [<- hc0]; exact hu)) hr
            . rw [ha1] at hr
              exact rp_of st g1 (by simp) (Nat.le_of_ble_eq_true b7) (Nat.le_of_ble_eq_true b8) (fun u hu => (show (CV.int .i64 id).rel r cx.X (wr r H') w u by rw [<- hc1]; exact hu)) hr
            . rw [ha2] at hr
              exact rp_of st g2 (by simp) (Nat.le_of_ble_eq_true b9) (Nat.le_of_ble_eq_true b10) (fun u hu => (show (CV.int .i64 now).rel r cx.X (wr r H') w u by rw [<- hc2]; exact hu)) hr
        . cases h
      . cases h
    . cases h
  . cases h
theorem wrBut_sub {r : Ren} {H : Hp} {rd : List Nat} : ∀ b, wrBut r H rd b -> wr r H b := fun b ⟨k, e, x, g1, g2, g3, _⟩ => ⟨k, e, x, g1, g2, g3⟩
def cRpI : Codec Int where
 enc a := .e (.c (.rp false 1 fun _ => .int .i64 a))
 dec H x := match x with
  | .e (.c (.rp _ m g)) => match g 0 with
    | .int .i64 v => bif Nat.beq m 1 then some (v, none, []) else none
    | _ => none
  | _ => none
 sound H H' x a p rd h hp hh := by
  split at h
  . rename_i sh m g
    split at h
    . rename_i v hg
      obtain ⟨hb, h5⟩ := cond_some h
      have hb := Nat.eq_of_beq_eq_true hb
      subst hb
      injection h5 with h6 h7
      injection h7 with h7 h8
      subst h6 h7 h8
      rintro cx r w u st ⟨ad, rfl, hs, ho, hx, hlt, hq⟩
      refine ⟨ad, rfl, hs, fun h => ho (wrBut_sub _ h), (fun h => by cases h), hlt, fun j hj => ?_⟩
      obtain rfl : j = 0 := by omega
      obtain ⟨u, hu, hr⟩ := hq 0 hj
      rw [hg] at hr
      exact ⟨u, hu, hr⟩
    . cases h
  . cases h
def cRpL : Codec (List Ctx) where
 enc l := .e (.c (.rp false 1 fun _ => .sl false l.length eCtx.sz (rowF eCtx l)))
 dec H x := match x with
  | .e (.c (.rp _ m g)) => match g 0 with
    | .sl _ n s f => bif Nat.beq m 1 && Nat.beq s eCtx.sz then some (toL eCtx n f, some (∀ i, i < n -> eCtx.ok (f i) = true), []) else none
    | _ => none
  | _ => none
 sound H H' x a p rd h hp hh := by
  split at h
  . rename_i sh m g
    split at h
    . rename_i sh2 n s f hg
      obtain ⟨hb, h5⟩ := cond_some h
      rw [Bool.and_eq_true] at hb
      have b1 := Nat.eq_of_beq_eq_true hb.1
      have b2 := Nat.eq_of_beq_eq_true hb.2
      subst b1 b2
      injection h5 with h6 h7
      injection h7 with h7 h8
      subst h6 h7 h8
      rintro cx r w u st ⟨ad, rfl, hs, ho, hx, hlt, hq⟩
      refine ⟨ad, rfl, hs, fun h => ho (wrBut_sub _ h), (fun h => by cases h), hlt, fun j hj => ?_⟩
      obtain rfl : j = 0 := by omega
      obtain ⟨u, hu, hr⟩ := hq 0 hj
      rw [hg] at hr
      exact ⟨u, hu, slC_in (sh := sh2) hp hr⟩
    . cases h
  . cases h
abbrev fndA : AC (List Ctx × Int × Int × Unit) := AC.cons cRpL (AC.cons cRpI (AC.cons cRpI AC.nil))
abbrev decE0 : Entry := pureE (AC.cons (cSl eCtx eCtx_sz) (AC.cons (cI .i64) (AC.cons (cI .i64) AC.nil))) (fun a => a.1.length <= 9223372036854775807) (fun a => forDec a.1 a.2.1 a.2.2.1) encCB
def LRd2 : CsL := (95, some decE0) :: (91, some (rdE AC.nil (fun b q _ => RdOk b q) (fun b q _ => startF b q) encR3)) :: (92, some (rdE (AC.cons (cI .i64) AC.nil) (fun b q a => RdOk b q /\ 96 <= a.1 /\ a.1 <= 127) (fun b q a => fieldsD b a.1 q) encRH)) :: LRd0
theorem LRd2_ok : AllOk Tryz.prog LRd2 := ⟨pureE_ok ⟨_, Tryz.func95, rfl, by kernel_rfl⟩ fun a h => forDec_ok a.1 a.2.1 a.2.2.1 h, rdE_ok ⟨_, Tryz.func91, rfl, by kernel_rfl⟩ (fun r => encR3_flat r) fun b q a h => start_ok b q h, rdE_ok ⟨_, Tryz.func92, rfl, by kernel_rfl⟩ (fun r => encRH_flat r) fun b q a h => fieldsR_ok b a.1 q h.1 h.2, LRd0_ok⟩
theorem find_ok (l : List Ctx) (id now : Int) (hl : l.length <= 9223372036854775807) : PureOk Tryz.prog 94 (fndA.enc (l, id, now, ())) (encCB (forDec l id now)) := by
 obtain ⟨C, eC⟩ : ∃ C, forDec l id now = C := ⟨_, rfl⟩
 rw [eC]
 refine pure_intro (wd := 1) (Q := mkQ LRd2) (by decide) tysOk (q_of LRd2_ok) mixed Tryz.func94 rfl _ (by show 3 <= _; decide) _ ?_
 repeat' (first | (apply And.intro <;> intro hc <;> (first | exact Bool.noConfusion hc | (simp only [zb0, ne_eq, not_true_eq_false] at hc <;> first | exact absurd rfl hc | skip) | skip)) | (refine And.intro zp1 ?_) | (apply And.intro) | (intro s hs; (have q : C = s := (hs.trans ((congrArg (fun l => forDec l id now) (toL_ctx l)).trans eC)).symm; clear hs; subst q)))
 all_goals first
  | (show (toL eCtx l.length _).length <= _; rw [toL_len]; exact hl)
  | (refine Done.mk (leF_tup ?_)
     repeat' (first | exact zw2 | refine leE_all ?_ | exact leC_bool (by assumption) | apply And.intro))
  | skip
abbrev fndE : Entry := pureE fndA (fun a => a.1.length <= 9223372036854775807) (fun a => forDec a.1 a.2.1 a.2.2.1) encCB
def LRd3 : CsL := (94, some fndE) :: LRd2
theorem LRd3_ok : AllOk Tryz.prog LRd3 := ⟨pureE_ok ⟨_, Tryz.func94, rfl, by kernel_rfl⟩ fun a h => find_ok a.1 a.2.1 a.2.2.1 h, LRd2_ok⟩
theorem findDec_in (id now : Int) : ∀ (l : List Ctx), (findDec id now l).2 = true -> (findDec id now l).1 ∈ l := by
 intro l
 induction l with
 | nil => intro h; cases h
 | cons c l ih =>
   intro h
   unfold findDec at h ⊢
   split
   . exact List.mem_cons_self ..
   . rename_i g
     rw [if_neg g] at h
     exact List.mem_cons_of_mem _ (ih h)
theorem dec_valid {l : List Ctx} {id now : Int} (hl : bytesL l) (h : (forDec l id now).2 = true) : vpf (pfxOf (forDec l id now).1) = true /\ byteOk (forDec l id now).1.ip := by
 unfold forDec at h ⊢
 split at h
 . rename_i g
   rw [if_pos g]
   have hm := findDec_in id now l h
   exact ⟨(valid_lt g.1 hm).2.2.2, hl.b _ hm⟩
 . cases h
theorem num2_v {b : List Int} {q : Int} (hb : BL b) : 0 <= (numF b q 2).1.1 /\ (numF b q 2).1.1 < 65536 := by
 have := num_v (q := q) (n := 2) hb
 exact this
theorem unid_t0 (b : List Int) (q : Int) (k : Adr) (l : List Ctx) (id now : Int) (hr : RdOk b q) (hl : bytesL l) : MethOk Tryz.prog 96 [cB.enc true, (cI .i64).enc 0, (cE eAdr).enc k, cFind.enc (l, id, now)] (rdN true b q) (encRA (uniD b true 0 k (forDec l id now) q).1) (rdN true b (uniD b true 0 k (forDec l id now) q).2) := by
 obtain ⟨W, hW⟩ : ∃ W, uniD b true 0 k (forDec l id now) q = W := ⟨_, rfl⟩
 have eW : W = (if (forDec l id now).2 = false then ((zeroA, 9), q) else (if 64 < (forDec l id now).1.bits then ((zeroA, 5), q) else (if (ipRF b q).1.2 = 0 then (if mcast ((ipRF b q).1.1) = true then ((zeroA, 5), (ipRF b q).2) else (((ipRF b q).1.1, 0), (ipRF b q).2)) else ((zeroA, (ipRF b q).1.2), (ipRF b q).2)))) := by
  rw [<- hW]
  simp (decide := true) only [uniD, uniV, thenD, prefD, if_true, if_false, true_and, and_true, false_and]
 rw [hW]
 clear hW
 have hv := fun h => (dec_valid (id := id) (now := now) hl h).1
 obtain ⟨C, eC⟩ : ∃ C, forDec l id now = C := ⟨_, rfl⟩
 rw [eC] at eW hv
 obtain ⟨I, eI⟩ : ∃ I, iidF k = I := ⟨_, rfl⟩
 obtain ⟨N, eN⟩ : ∃ N, ipRF b q = N := ⟨_, rfl⟩
 rw [eN] at eW
 obtain ⟨Mc, eMc⟩ : ∃ x, mcast N.1.1 = x := ⟨_, rfl⟩
 rw [eMc] at eW
 have f0 : (C.2 = false) -> W = ((zeroA, 9), q) := fun h0 => by rw [eW, if_pos h0]
 have f1 : (¬ C.2 = false) -> (64 < C.1.bits) -> W = ((zeroA, 5), q) := fun h0 h1 => by rw [eW, if_neg h0, if_pos h1]
 have f2 : (¬ C.2 = false) -> (¬ 64 < C.1.bits) -> (¬ N.1.2 = 0) -> W = ((zeroA, N.1.2), N.2) := fun h0 h1 h2 => by rw [eW, if_neg h0, if_neg h1, if_neg h2]
 have f3 : (¬ C.2 = false) -> (¬ 64 < C.1.bits) -> (N.1.2 = 0) -> (Mc = true) -> W = ((zeroA, 5), N.2) := fun h0 h1 h2 h3 => by rw [eW, if_neg h0, if_neg h1, if_pos h2, if_pos h3]
 have f4 : (¬ C.2 = false) -> (¬ 64 < C.1.bits) -> (N.1.2 = 0) -> (¬ Mc = true) -> W = ((N.1.1, 0), N.2) := fun h0 h1 h2 h3 => by rw [eW, if_neg h0, if_neg h1, if_pos h2, if_neg h3]
 clear eW
 have g1 : True := trivial
 have g2 : True := trivial
 have g3 : True := trivial
 have g4 : True := trivial
 have g5 : True := trivial
 have g6 : True := trivial
 refine meth_intro (wd := 1) (Q := mkQ LRd3) (by decide) tysOk (q_of LRd3_ok) mixed Tryz.func96 rfl _ (by show 4 + 1 <= _; decide) (flatF_nff (encRA_flat _)) (rdN_nf) ?_
 repeat' (first | (apply And.intro <;> intro hc <;> (first | exact Bool.noConfusion hc | (exfalso; first | exact absurd hc (by decide) | exact absurd rfl hc | exact absurd hc (by assumption) | exact absurd (by assumption) hc | exact Bool.noConfusion ((by assumption : I.2 = true).symm.trans hc)) | (simp only [zb0, ne_eq, not_true_eq_false] at hc <;> first | exact absurd rfl hc | (exfalso; first | exact absurd hc (by decide) | exact absurd rfl hc | exact absurd hc (by assumption) | exact absurd (by assumption) hc | exact Bool.noConfusion ((by assumption : I.2 = true).symm.trans hc)) | skip) | skip)) | (refine And.intro (by first | exact trivial | decide | omega | (dsimp only; omega) | exact fun _ _ => rfl | exact ⟨by assumption, by first | exact trivial | decide | omega | (dsimp only; omega)⟩) ?_) | (apply And.intro) | (refine Exists.intro b (And.intro ⟨rfl, rfl, by first | exact ⟨by assumption, by decide, by decide⟩ | assumption⟩ ?_)) | (intro s hs; (first | (clear g1; have q : I = s := (hs.trans ((congrArg iidF (rd_adr k)).trans eI)).symm; clear hs; subst q) | (clear g2; have q : s = llP := hs; clear hs; subst q) | (clear g3; have q : C = s := (hs.trans ((congrArg (fun l => forDec l id now) (toL_ctx l)).trans eC)).symm; clear hs; subst q) | (clear g4; have q : N = s := (hs.trans eN).symm; clear hs; subst q) | (clear g6; have q : Mc = s := (by (dsimp only at hs; refine (hs.trans ((congrArg mcast (ip_is (a := N.1.1) (fun j hj => ?_))).trans eMc)).symm; (iterate 16 (rcases j with _ | j; exact rfl)); exact absurd hj (by omega))); clear hs; subst q) | skip)))
 all_goals try (first | exact rfl | exact Nat.le_of_ble_eq_true rfl)
 all_goals first
  | (show (toL eCtx l.length _).length <= _; rw [toL_len]; have := hl.n; omega)
  | exact fun _ => rfl
  | ((first | rw [f0 (by assumption)] | rw [f1 (fun h => Bool.noConfusion (h.symm.trans (by assumption : C.2 = true))) (by assumption)] | rw [f2 (fun h => Bool.noConfusion (h.symm.trans (by assumption : C.2 = true))) (by assumption) (by assumption)] | rw [f3 (fun h => Bool.noConfusion (h.symm.trans (by assumption : C.2 = true))) (by assumption) (by assumption) (by assumption)] | rw [f4 (fun h => Bool.noConfusion (h.symm.trans (by assumption : C.2 = true))) (by assumption) (by assumption) (fun h => Bool.noConfusion (h.symm.trans (by assumption : Mc = false)))])
     exact ⟨leF_tup ⟨leE_agg rfl (fun i hi => by (iterate 16 (rcases i with _ | i; exact leC_int rfl)); exact absurd hi (by omega)), leC_int rfl, trivial⟩, rdN_le rfl⟩)
  | skip
theorem unid_t1 (b : List Int) (q : Int) (k : Adr) (l : List Ctx) (id now : Int) (hr : RdOk b q) (hl : bytesL l) : MethOk Tryz.prog 96 [cB.enc true, (cI .i64).enc 1, (cE eAdr).enc k, cFind.enc (l, id, now)] (rdN true b q) (encRA (uniD b true 1 k (forDec l id now) q).1) (rdN true b (uniD b true 1 k (forDec l id now) q).2) := by
 obtain ⟨W, hW⟩ : ∃ W, uniD b true 1 k (forDec l id now) q = W := ⟨_, rfl⟩
 have eW : W = (if (forDec l id now).2 = false then ((zeroA, 9), q) else (if 64 < (forDec l id now).1.bits then ((zeroA, 5), q) else (if (numF b q 8).1.2 = 0 then (if mcast (jn (pfxOf (forDec l id now).1).ip (numF b q 8).1.1) = true then ((zeroA, 5), (numF b q 8).2) else ((jn (pfxOf (forDec l id now).1).ip (numF b q 8).1.1, 0), (numF b q 8).2)) else ((zeroA, (numF b q 8).1.2), (numF b q 8).2)))) := by
  rw [<- hW]
  simp (decide := true) only [uniD, uniV, thenD, prefD, if_true, if_false, true_and, and_true, false_and]
  by_cases hN : (numF b q 8).1.2 = 0
  . simp (decide := true) only [hN, if_true, if_false]
  . simp only [hN, if_false]
 rw [hW]
 clear hW
 have hv := fun h => (dec_valid (id := id) (now := now) hl h).1
 obtain ⟨C, eC⟩ : ∃ C, forDec l id now = C := ⟨_, rfl⟩
 rw [eC] at eW hv
 obtain ⟨I, eI⟩ : ∃ I, iidF k = I := ⟨_, rfl⟩
 obtain ⟨N, eN⟩ : ∃ N, numF b q 8 = N := ⟨_, rfl⟩
 rw [eN] at eW
 have eJ : C.2 = true -> ¬ 64 < C.1.bits -> joinF (pfxOf C.1) N.1.1 = (jn (pfxOf C.1).ip N.1.1, true) := fun h g => if_pos ⟨hv h, Int.not_lt.1 g⟩
 obtain ⟨A, eA'⟩ : ∃ A, jn (pfxOf C.1).ip N.1.1 = A := ⟨_, rfl⟩
 rw [eA'] at eW eJ
 obtain ⟨Mc, eMc⟩ : ∃ x, mcast A = x := ⟨_, rfl⟩
 rw [eMc] at eW
 have f0 : (C.2 = false) -> W = ((zeroA, 9), q) := fun h0 => by rw [eW, if_pos h0]
 have f1 : (¬ C.2 = false) -> (64 < C.1.bits) -> W = ((zeroA, 5), q) := fun h0 h1 => by rw [eW, if_neg h0, if_pos h1]
 have f2 : (¬ C.2 = false) -> (¬ 64 < C.1.bits) -> (¬ N.1.2 = 0) -> W = ((zeroA, N.1.2), N.2) := fun h0 h1 h2 => by rw [eW, if_neg h0, if_neg h1, if_neg h2]
 have f3 : (¬ C.2 = false) -> (¬ 64 < C.1.bits) -> (N.1.2 = 0) -> (Mc = true) -> W = ((zeroA, 5), N.2) := fun h0 h1 h2 h3 => by rw [eW, if_neg h0, if_neg h1, if_pos h2, if_pos h3]
 have f4 : (¬ C.2 = false) -> (¬ 64 < C.1.bits) -> (N.1.2 = 0) -> (¬ Mc = true) -> W = ((A, 0), N.2) := fun h0 h1 h2 h3 => by rw [eW, if_neg h0, if_neg h1, if_pos h2, if_neg h3]
 clear eW
 have g1 : True := trivial
 have g2 : True := trivial
 have g3 : True := trivial
 have g4 : True := trivial
 have g5 : True := trivial
 have g6 : True := trivial
 refine meth_intro (wd := 1) (Q := mkQ LRd3) (by decide) tysOk (q_of LRd3_ok) mixed Tryz.func96 rfl _ (by show 4 + 1 <= _; decide) (flatF_nff (encRA_flat _)) (rdN_nf) ?_
 repeat' (first | (apply And.intro <;> intro hc <;> (first | exact Bool.noConfusion hc | (exfalso; first | exact absurd hc (by decide) | exact absurd rfl hc | exact absurd hc (by assumption) | exact absurd (by assumption) hc | exact Bool.noConfusion ((by assumption : I.2 = true).symm.trans hc)) | (simp only [zb0, ne_eq, not_true_eq_false] at hc <;> first | exact absurd rfl hc | (exfalso; first | exact absurd hc (by decide) | exact absurd rfl hc | exact absurd hc (by assumption) | exact absurd (by assumption) hc | exact Bool.noConfusion ((by assumption : I.2 = true).symm.trans hc)) | skip) | skip)) | (refine And.intro (by first | exact trivial | decide | omega | (dsimp only; omega) | exact fun _ _ => rfl | exact ⟨by assumption, by first | exact trivial | decide | omega | (dsimp only; omega)⟩) ?_) | (apply And.intro) | (refine Exists.intro b (And.intro ⟨rfl, rfl, by first | exact ⟨by assumption, by decide, by decide⟩ | assumption⟩ ?_)) | (intro s hs; (first | (clear g1; have q : I = s := (hs.trans ((congrArg iidF (rd_adr k)).trans eI)).symm; clear hs; subst q) | (clear g2; have q : s = llP := hs; clear hs; subst q) | (clear g3; have q : C = s := (hs.trans ((congrArg (fun l => forDec l id now) (toL_ctx l)).trans eC)).symm; clear hs; subst q) | (clear g4; have q : N = s := (hs.trans eN).symm; clear hs; subst q) | (clear g5; have q : s = (A, true) := (by (dsimp only at hs; refine hs.trans ((congrArg (joinF · N.1.1) (pfx_is (p := (pfxOf C.1)) (fun j hj => ?_))).trans (eJ (by assumption) (by assumption))); (iterate 17 (rcases j with _ | j; exact rfl)); exact absurd hj (by omega))); clear hs; subst q) | (clear g6; have q : Mc = s := (by (dsimp only at hs; refine (hs.trans ((congrArg mcast (ip_is (a := A) (fun j hj => ?_))).trans eMc)).symm; (iterate 16 (rcases j with _ | j; exact rfl)); exact absurd hj (by omega))); clear hs; subst q) | skip)))
 all_goals try (first | exact rfl | exact Nat.le_of_ble_eq_true rfl)
 all_goals first
  | (show (toL eCtx l.length _).length <= _; rw [toL_len]; have := hl.n; omega)
  | exact fun _ => rfl
  | ((first | rw [f0 (by assumption)] | rw [f1 (fun h => Bool.noConfusion (h.symm.trans (by assumption : C.2 = true))) (by assumption)] | rw [f2 (fun h => Bool.noConfusion (h.symm.trans (by assumption : C.2 = true))) (by assumption) (by assumption)] | rw [f3 (fun h => Bool.noConfusion (h.symm.trans (by assumption : C.2 = true))) (by assumption) (by assumption) (by assumption)] | rw [f4 (fun h => Bool.noConfusion (h.symm.trans (by assumption : C.2 = true))) (by assumption) (by assumption) (fun h => Bool.noConfusion (h.symm.trans (by assumption : Mc = false)))])
     exact ⟨leF_tup ⟨leE_agg rfl (fun i hi => by (iterate 16 (rcases i with _ | i; exact leC_int rfl)); exact absurd hi (by omega)), leC_int rfl, trivial⟩, rdN_le rfl⟩)
  | skip
theorem unid_t2 (b : List Int) (q : Int) (k : Adr) (l : List Ctx) (id now : Int) (hr : RdOk b q) (hl : bytesL l) : MethOk Tryz.prog 96 [cB.enc true, (cI .i64).enc 2, (cE eAdr).enc k, cFind.enc (l, id, now)] (rdN true b q) (encRA (uniD b true 2 k (forDec l id now) q).1) (rdN true b (uniD b true 2 k (forDec l id now) q).2) := by
 obtain ⟨W, hW⟩ : ∃ W, uniD b true 2 k (forDec l id now) q = W := ⟨_, rfl⟩
 have eW : W = (if (forDec l id now).2 = false then ((zeroA, 9), q) else (if 64 < (forDec l id now).1.bits then ((zeroA, 5), q) else (if (numF b q 2).1.2 = 0 then (if mcast (jn (pfxOf (forDec l id now).1).ip ((numF b q 2).1.1 + 1099478073344)) = true then ((zeroA, 5), (numF b q 2).2) else ((jn (pfxOf (forDec l id now).1).ip ((numF b q 2).1.1 + 1099478073344), 0), (numF b q 2).2)) else ((zeroA, (numF b q 2).1.2), (numF b q 2).2)))) := by
  rw [<- hW]
  simp (decide := true) only [uniD, uniV, thenD, prefD, if_true, if_false, true_and, and_true, false_and]
  by_cases hN : (numF b q 2).1.2 = 0
  . simp (decide := true) only [hN, if_true, if_false]
  . simp only [hN, if_false]
 rw [hW]
 clear hW
 have hv := fun h => (dec_valid (id := id) (now := now) hl h).1
 obtain ⟨C, eC⟩ : ∃ C, forDec l id now = C := ⟨_, rfl⟩
 rw [eC] at eW hv
 obtain ⟨I, eI⟩ : ∃ I, iidF k = I := ⟨_, rfl⟩
 have v2 := num2_v (q := q) hr.bl
 obtain ⟨N, eN⟩ : ∃ N, numF b q 2 = N := ⟨_, rfl⟩
 rw [eN] at eW
 rw [eN] at v2
 have w2 : IntKind.u64.wrap (N.1.1 + 1099478073344) = N.1.1 + 1099478073344 := IntWalk.u64_in _ (by omega)
 have eJ : C.2 = true -> ¬ 64 < C.1.bits -> joinF (pfxOf C.1) (N.1.1 + 1099478073344) = (jn (pfxOf C.1).ip (N.1.1 + 1099478073344), true) := fun h g => if_pos ⟨hv h, Int.not_lt.1 g⟩
 obtain ⟨A, eA'⟩ : ∃ A, jn (pfxOf C.1).ip (N.1.1 + 1099478073344) = A := ⟨_, rfl⟩
 rw [eA'] at eW eJ
 obtain ⟨Mc, eMc⟩ : ∃ x, mcast A = x := ⟨_, rfl⟩
 rw [eMc] at eW
 have f0 : (C.2 = false) -> W = ((zeroA, 9), q) := fun h0 => by rw [eW, if_pos h0]
 have f1 : (¬ C.2 = false) -> (64 < C.1.bits) -> W = ((zeroA, 5), q) := fun h0 h1 => by rw [eW, if_neg h0, if_pos h1]
 have f2 : (¬ C.2 = false) -> (¬ 64 < C.1.bits) -> (¬ N.1.2 = 0) -> W = ((zeroA, N.1.2), N.2) := fun h0 h1 h2 => by rw [eW, if_neg h0, if_neg h1, if_neg h2]
 have f3 : (¬ C.2 = false) -> (¬ 64 < C.1.bits) -> (N.1.2 = 0) -> (Mc = true) -> W = ((zeroA, 5), N.2) := fun h0 h1 h2 h3 => by rw [eW, if_neg h0, if_neg h1, if_pos h2, if_pos h3]
 have f4 : (¬ C.2 = false) -> (¬ 64 < C.1.bits) -> (N.1.2 = 0) -> (¬ Mc = true) -> W = ((A, 0), N.2) := fun h0 h1 h2 h3 => by rw [eW, if_neg h0, if_neg h1, if_pos h2, if_neg h3]
 clear eW
 have g1 : True := trivial
 have g2 : True := trivial
 have g3 : True := trivial
 have g4 : True := trivial
 have g5 : True := trivial
 have g6 : True := trivial
 refine meth_intro (wd := 1) (Q := mkQ LRd3) (by decide) tysOk (q_of LRd3_ok) mixed Tryz.func96 rfl _ (by show 4 + 1 <= _; decide) (flatF_nff (encRA_flat _)) (rdN_nf) ?_
 repeat' (first | (apply And.intro <;> intro hc <;> (first | exact Bool.noConfusion hc | (exfalso; first | exact absurd hc (by decide) | exact absurd rfl hc | exact absurd hc (by assumption) | exact absurd (by assumption) hc | exact Bool.noConfusion ((by assumption : I.2 = true).symm.trans hc)) | (simp only [zb0, ne_eq, not_true_eq_false] at hc <;> first | exact absurd rfl hc | (exfalso; first | exact absurd hc (by decide) | exact absurd rfl hc | exact absurd hc (by assumption) | exact absurd (by assumption) hc | exact Bool.noConfusion ((by assumption : I.2 = true).symm.trans hc)) | skip) | skip)) | (refine And.intro (by first | exact trivial | decide | omega | (dsimp only; omega) | exact fun _ _ => rfl | exact ⟨by assumption, by first | exact trivial | decide | omega | (dsimp only; omega)⟩) ?_) | (apply And.intro) | (refine Exists.intro b (And.intro ⟨rfl, rfl, by first | exact ⟨by assumption, by decide, by decide⟩ | assumption⟩ ?_)) | (intro s hs; (first | (clear g1; have q : I = s := (hs.trans ((congrArg iidF (rd_adr k)).trans eI)).symm; clear hs; subst q) | (clear g2; have q : s = llP := hs; clear hs; subst q) | (clear g3; have q : C = s := (hs.trans ((congrArg (fun l => forDec l id now) (toL_ctx l)).trans eC)).symm; clear hs; subst q) | (clear g4; have q : N = s := (hs.trans eN).symm; clear hs; subst q) | (clear g5; have q : s = (A, true) := (by (dsimp only at hs; refine hs.trans ((congrArg (joinF · (IntKind.u64.wrap (N.1.1 + 1099478073344))) (pfx_is (p := (pfxOf C.1)) (fun j hj => ?_))).trans ((congrArg (joinF (pfxOf C.1)) w2).trans (eJ (by assumption) (by assumption)))); (iterate 17 (rcases j with _ | j; exact rfl)); exact absurd hj (by omega))); clear hs; subst q) | (clear g6; have q : Mc = s := (by (dsimp only at hs; refine (hs.trans ((congrArg mcast (ip_is (a := A) (fun j hj => ?_))).trans eMc)).symm; (iterate 16 (rcases j with _ | j; exact rfl)); exact absurd hj (by omega))); clear hs; subst q) | skip)))
 all_goals try (first | exact rfl | exact Nat.le_of_ble_eq_true rfl)
 all_goals first
  | (show (toL eCtx l.length _).length <= _; rw [toL_len]; have := hl.n; omega)
  | exact fun _ => rfl
  | ((first | rw [f0 (by assumption)] | rw [f1 (fun h => Bool.noConfusion (h.symm.trans (by assumption : C.2 = true))) (by assumption)] | rw [f2 (fun h => Bool.noConfusion (h.symm.trans (by assumption : C.2 = true))) (by assumption) (by assumption)] | rw [f3 (fun h => Bool.noConfusion (h.symm.trans (by assumption : C.2 = true))) (by assumption) (by assumption) (by assumption)] | rw [f4 (fun h => Bool.noConfusion (h.symm.trans (by assumption : C.2 = true))) (by assumption) (by assumption) (fun h => Bool.noConfusion (h.symm.trans (by assumption : Mc = false)))])
     exact ⟨leF_tup ⟨leE_agg rfl (fun i hi => by (iterate 16 (rcases i with _ | i; exact leC_int rfl)); exact absurd hi (by omega)), leC_int rfl, trivial⟩, rdN_le rfl⟩)
  | skip
theorem unid_t3 (b : List Int) (q : Int) (k : Adr) (l : List Ctx) (id now : Int) (hr : RdOk b q) (hl : bytesL l) : MethOk Tryz.prog 96 [cB.enc true, (cI .i64).enc 3, (cE eAdr).enc k, cFind.enc (l, id, now)] (rdN true b q) (encRA (uniD b true 3 k (forDec l id now) q).1) (rdN true b (uniD b true 3 k (forDec l id now) q).2) := by
 obtain ⟨W, hW⟩ : ∃ W, uniD b true 3 k (forDec l id now) q = W := ⟨_, rfl⟩
 have eW : W = (if (iidF k).2 = false then ((zeroA, 5), q) else (if (forDec l id now).2 = false then ((zeroA, 9), q) else (if 64 < (forDec l id now).1.bits then ((zeroA, 5), q) else (if mcast (jn (pfxOf (forDec l id now).1).ip (iidF k).1) = true then ((zeroA, 5), q) else ((jn (pfxOf (forDec l id now).1).ip (iidF k).1, 0), q))))) := by
  rw [<- hW]
  simp (decide := true) only [uniD, uniV, thenD, prefD, if_true, if_false, true_and, and_true, false_and]
 rw [hW]
 clear hW
 have hv := fun h => (dec_valid (id := id) (now := now) hl h).1
 obtain ⟨C, eC⟩ : ∃ C, forDec l id now = C := ⟨_, rfl⟩
 rw [eC] at eW hv
 obtain ⟨I, eI⟩ : ∃ I, iidF k = I := ⟨_, rfl⟩
 rw [eI] at eW
 have eJ : C.2 = true -> ¬ 64 < C.1.bits -> joinF (pfxOf C.1) I.1 = (jn (pfxOf C.1).ip I.1, true) := fun h g => if_pos ⟨hv h, Int.not_lt.1 g⟩
 obtain ⟨A, eA'⟩ : ∃ A, jn (pfxOf C.1).ip I.1 = A := ⟨_, rfl⟩
 rw [eA'] at eW eJ
 obtain ⟨Mc, eMc⟩ : ∃ x, mcast A = x := ⟨_, rfl⟩
 rw [eMc] at eW
 have f0 : (I.2 = false) -> W = ((zeroA, 5), q) := fun h0 => by rw [eW, if_pos h0]
 have f1 : (¬ I.2 = false) -> (C.2 = false) -> W = ((zeroA, 9), q) := fun h0 h1 => by rw [eW, if_neg h0, if_pos h1]
 have f2 : (¬ I.2 = false) -> (¬ C.2 = false) -> (64 < C.1.bits) -> W = ((zeroA, 5), q) := fun h0 h1 h2 => by rw [eW, if_neg h0, if_neg h1, if_pos h2]
 have f3 : (¬ I.2 = false) -> (¬ C.2 = false) -> (¬ 64 < C.1.bits) -> (Mc = true) -> W = ((zeroA, 5), q) := fun h0 h1 h2 h3 => by rw [eW, if_neg h0, if_neg h1, if_neg h2, if_pos h3]
 have f4 : (¬ I.2 = false) -> (¬ C.2 = false) -> (¬ 64 < C.1.bits) -> (¬ Mc = true) -> W = ((A, 0), q) := fun h0 h1 h2 h3 => by rw [eW, if_neg h0, if_neg h1, if_neg h2, if_neg h3]
 clear eW
 have g1 : True := trivial
 have g2 : True := trivial
 have g3 : True := trivial
 have g4 : True := trivial
 have g5 : True := trivial
 have g6 : True := trivial
 refine meth_intro (wd := 1) (Q := mkQ LRd3) (by decide) tysOk (q_of LRd3_ok) mixed Tryz.func96 rfl _ (by show 4 + 1 <= _; decide) (flatF_nff (encRA_flat _)) (rdN_nf) ?_
 repeat' (first | (apply And.intro <;> intro hc <;> (first | exact Bool.noConfusion hc | (exfalso; first | exact absurd hc (by decide) | exact absurd rfl hc | exact absurd hc (by assumption) | exact absurd (by assumption) hc | exact Bool.noConfusion ((by assumption : I.2 = true).symm.trans hc)) | (simp only [zb0, ne_eq, not_true_eq_false] at hc <;> first | exact absurd rfl hc | (exfalso; first | exact absurd hc (by decide) | exact absurd rfl hc | exact absurd hc (by assumption) | exact absurd (by assumption) hc | exact Bool.noConfusion ((by assumption : I.2 = true).symm.trans hc)) | skip) | skip)) | (refine And.intro (by first | exact trivial | decide | omega | (dsimp only; omega) | exact fun _ _ => rfl | exact ⟨by assumption, by first | exact trivial | decide | omega | (dsimp only; omega)⟩) ?_) | (apply And.intro) | (refine Exists.intro b (And.intro ⟨rfl, rfl, by first | exact ⟨by assumption, by decide, by decide⟩ | assumption⟩ ?_)) | (intro s hs; (first | (clear g1; have q : I = s := (hs.trans ((congrArg iidF (rd_adr k)).trans eI)).symm; clear hs; subst q) | (clear g2; have q : s = llP := hs; clear hs; subst q) | (clear g3; have q : C = s := (hs.trans ((congrArg (fun l => forDec l id now) (toL_ctx l)).trans eC)).symm; clear hs; subst q) | (clear g5; have q : s = (A, true) := (by (dsimp only at hs; refine hs.trans ((congrArg (joinF · I.1) (pfx_is (p := (pfxOf C.1)) (fun j hj => ?_))).trans (eJ (by assumption) (by assumption))); (iterate 17 (rcases j with _ | j; exact rfl)); exact absurd hj (by omega))); clear hs; subst q) | (clear g6; have q : Mc = s := (by (dsimp only at hs; refine (hs.trans ((congrArg mcast (ip_is (a := A) (fun j hj => ?_))).trans eMc)).symm; (iterate 16 (rcases j with _ | j; exact rfl)); exact absurd hj (by omega))); clear hs; subst q) | skip)))
 all_goals try (first | exact rfl | exact Nat.le_of_ble_eq_true rfl)
 all_goals first
  | (show (toL eCtx l.length _).length <= _; rw [toL_len]; have := hl.n; omega)
  | exact fun _ => rfl
  | ((first | rw [f0 (by assumption)] | rw [f1 (fun h => Bool.noConfusion (h.symm.trans (by assumption : I.2 = true))) (by assumption)] | rw [f2 (fun h => Bool.noConfusion (h.symm.trans (by assumption : I.2 = true))) (fun h => Bool.noConfusion (h.symm.trans (by assumption : C.2 = true))) (by assumption)] | rw [f3 (fun h => Bool.noConfusion (h.symm.trans (by assumption : I.2 = true))) (fun h => Bool.noConfusion (h.symm.trans (by assumption : C.2 = true))) (by assumption) (by assumption)] | rw [f4 (fun h => Bool.noConfusion (h.symm.trans (by assumption : I.2 = true))) (fun h => Bool.noConfusion (h.symm.trans (by assumption : C.2 = true))) (by assumption) (fun h => Bool.noConfusion (h.symm.trans (by assumption : Mc = false)))])
     exact ⟨leF_tup ⟨leE_agg rfl (fun i hi => by (iterate 16 (rcases i with _ | i; exact leC_int rfl)); exact absurd hi (by omega)), leC_int rfl, trivial⟩, rdN_le rfl⟩)
  | skip
theorem unid_f0 (b : List Int) (q : Int) (k : Adr) (l : List Ctx) (id now : Int) (hr : RdOk b q) (hl : bytesL l) : MethOk Tryz.prog 96 [cB.enc false, (cI .i64).enc 0, (cE eAdr).enc k, cFind.enc (l, id, now)] (rdN true b q) (encRA (uniD b false 0 k (forDec l id now) q).1) (rdN true b (uniD b false 0 k (forDec l id now) q).2) := by
 obtain ⟨W, hW⟩ : ∃ W, uniD b false 0 k (forDec l id now) q = W := ⟨_, rfl⟩
 have eW : W = (if (ipRF b q).1.2 = 0 then (if mcast ((ipRF b q).1.1) = true then ((zeroA, 5), (ipRF b q).2) else (((ipRF b q).1.1, 0), (ipRF b q).2)) else ((zeroA, (ipRF b q).1.2), (ipRF b q).2)) := by
  rw [<- hW]
  simp (decide := true) only [uniD, uniV, thenD, prefD, if_true, if_false, true_and, and_true, false_and]
 rw [hW]
 clear hW
 obtain ⟨I, eI⟩ : ∃ I, iidF k = I := ⟨_, rfl⟩
 obtain ⟨N, eN⟩ : ∃ N, ipRF b q = N := ⟨_, rfl⟩
 rw [eN] at eW
 obtain ⟨Mc, eMc⟩ : ∃ x, mcast N.1.1 = x := ⟨_, rfl⟩
 rw [eMc] at eW
 have f0 : (¬ N.1.2 = 0) -> W = ((zeroA, N.1.2), N.2) := fun h0 => by rw [eW, if_neg h0]
 have f1 : (N.1.2 = 0) -> (Mc = true) -> W = ((zeroA, 5), N.2) := fun h0 h1 => by rw [eW, if_pos h0, if_pos h1]
 have f2 : (N.1.2 = 0) -> (¬ Mc = true) -> W = ((N.1.1, 0), N.2) := fun h0 h1 => by rw [eW, if_pos h0, if_neg h1]
 clear eW
 have g1 : True := trivial
 have g2 : True := trivial
 have g3 : True := trivial
 have g4 : True := trivial
 have g5 : True := trivial
 have g6 : True := trivial
 refine meth_intro (wd := 1) (Q := mkQ LRd3) (by decide) tysOk (q_of LRd3_ok) mixed Tryz.func96 rfl _ (by show 4 + 1 <= _; decide) (flatF_nff (encRA_flat _)) (rdN_nf) ?_
 repeat' (first | (apply And.intro <;> intro hc <;> (first | exact Bool.noConfusion hc | (exfalso; first | exact absurd hc (by decide) | exact absurd rfl hc | exact absurd hc (by assumption) | exact absurd (by assumption) hc | exact Bool.noConfusion ((by assumption : I.2 = true).symm.trans hc)) | (simp only [zb0, ne_eq, not_true_eq_false] at hc <;> first | exact absurd rfl hc | (exfalso; first | exact absurd hc (by decide) | exact absurd rfl hc | exact absurd hc (by assumption) | exact absurd (by assumption) hc | exact Bool.noConfusion ((by assumption : I.2 = true).symm.trans hc)) | skip) | skip)) | (refine And.intro (by first | exact trivial | decide | omega | (dsimp only; omega) | exact fun _ _ => rfl | exact ⟨by assumption, by first | exact trivial | decide | omega | (dsimp only; omega)⟩) ?_) | (apply And.intro) | (refine Exists.intro b (And.intro ⟨rfl, rfl, by first | exact ⟨by assumption, by decide, by decide⟩ | assumption⟩ ?_)) | (intro s hs; (first | (clear g1; have q : I = s := (hs.trans ((congrArg iidF (rd_adr k)).trans eI)).symm; clear hs; subst q) | (clear g2; have q : s = llP := hs; clear hs; subst q) | (clear g4; have q : N = s := (hs.trans eN).symm; clear hs; subst q) | (clear g6; have q : Mc = s := (by (dsimp only at hs; refine (hs.trans ((congrArg mcast (ip_is (a := N.1.1) (fun j hj => ?_))).trans eMc)).symm; (iterate 16 (rcases j with _ | j; exact rfl)); exact absurd hj (by omega))); clear hs; subst q) | skip)))
 all_goals try (first | exact rfl | exact Nat.le_of_ble_eq_true rfl)
 all_goals first
  | (show (toL eCtx l.length _).length <= _; rw [toL_len]; have := hl.n; omega)
  | exact fun _ => rfl
  | ((first | rw [f0 (by assumption)] | rw [f1 (by assumption) (by assumption)] | rw [f2 (by assumption) (fun h => Bool.noConfusion (h.symm.trans (by assumption : Mc = false)))])
     exact ⟨leF_tup ⟨leE_agg rfl (fun i hi => by (iterate 16 (rcases i with _ | i; exact leC_int rfl)); exact absurd hi (by omega)), leC_int rfl, trivial⟩, rdN_le rfl⟩)
  | skip
theorem unid_f1 (b : List Int) (q : Int) (k : Adr) (l : List Ctx) (id now : Int) (hr : RdOk b q) (hl : bytesL l) : MethOk Tryz.prog 96 [cB.enc false, (cI .i64).enc 1, (cE eAdr).enc k, cFind.enc (l, id, now)] (rdN true b q) (encRA (uniD b false 1 k (forDec l id now) q).1) (rdN true b (uniD b false 1 k (forDec l id now) q).2) := by
 obtain ⟨W, hW⟩ : ∃ W, uniD b false 1 k (forDec l id now) q = W := ⟨_, rfl⟩
 have eW : W = (if (numF b q 8).1.2 = 0 then (if mcast (jn llP.ip (numF b q 8).1.1) = true then ((zeroA, 5), (numF b q 8).2) else ((jn llP.ip (numF b q 8).1.1, 0), (numF b q 8).2)) else ((zeroA, (numF b q 8).1.2), (numF b q 8).2)) := by
  rw [<- hW]
  simp (decide := true) only [uniD, uniV, thenD, prefD, if_true, if_false, true_and, and_true, false_and]
  by_cases hN : (numF b q 8).1.2 = 0
  . simp (decide := true) only [hN, if_true, if_false]
  . simp only [hN, if_false]
 rw [hW]
 clear hW
 obtain ⟨I, eI⟩ : ∃ I, iidF k = I := ⟨_, rfl⟩
 obtain ⟨N, eN⟩ : ∃ N, numF b q 8 = N := ⟨_, rfl⟩
 rw [eN] at eW
 have eJ : joinF llP N.1.1 = (jn llP.ip N.1.1, true) := if_pos ⟨llP_v, by decide⟩
 obtain ⟨A, eA'⟩ : ∃ A, jn llP.ip N.1.1 = A := ⟨_, rfl⟩
 rw [eA'] at eW eJ
 obtain ⟨Mc, eMc⟩ : ∃ x, mcast A = x := ⟨_, rfl⟩
 rw [eMc] at eW
 have f0 : (¬ N.1.2 = 0) -> W = ((zeroA, N.1.2), N.2) := fun h0 => by rw [eW, if_neg h0]
 have f1 : (N.1.2 = 0) -> (Mc = true) -> W = ((zeroA, 5), N.2) := fun h0 h1 => by rw [eW, if_pos h0, if_pos h1]
 have f2 : (N.1.2 = 0) -> (¬ Mc = true) -> W = ((A, 0), N.2) := fun h0 h1 => by rw [eW, if_pos h0, if_neg h1]
 clear eW
 have g1 : True := trivial
 have g2 : True := trivial
 have g3 : True := trivial
 have g4 : True := trivial
 have g5 : True := trivial
 have g6 : True := trivial
 refine meth_intro (wd := 1) (Q := mkQ LRd3) (by decide) tysOk (q_of LRd3_ok) mixed Tryz.func96 rfl _ (by show 4 + 1 <= _; decide) (flatF_nff (encRA_flat _)) (rdN_nf) ?_
 repeat' (first | (apply And.intro <;> intro hc <;> (first | exact Bool.noConfusion hc | (exfalso; first | exact absurd hc (by decide) | exact absurd rfl hc | exact absurd hc (by assumption) | exact absurd (by assumption) hc | exact Bool.noConfusion ((by assumption : I.2 = true).symm.trans hc)) | (simp only [zb0, ne_eq, not_true_eq_false] at hc <;> first | exact absurd rfl hc | (exfalso; first | exact absurd hc (by decide) | exact absurd rfl hc | exact absurd hc (by assumption) | exact absurd (by assumption) hc | exact Bool.noConfusion ((by assumption : I.2 = true).symm.trans hc)) | skip) | skip)) | (refine And.intro (by first | exact trivial | decide | omega | (dsimp only; omega) | exact fun _ _ => rfl | exact ⟨by assumption, by first | exact trivial | decide | omega | (dsimp only; omega)⟩) ?_) | (apply And.intro) | (refine Exists.intro b (And.intro ⟨rfl, rfl, by first | exact ⟨by assumption, by decide, by decide⟩ | assumption⟩ ?_)) | (intro s hs; (first | (clear g1; have q : I = s := (hs.trans ((congrArg iidF (rd_adr k)).trans eI)).symm; clear hs; subst q) | (clear g2; have q : s = llP := hs; clear hs; subst q) | (clear g4; have q : N = s := (hs.trans eN).symm; clear hs; subst q) | (clear g5; have q : s = (A, true) := (by (dsimp only at hs; refine hs.trans ((congrArg (joinF · N.1.1) (pfx_is (p := llP) (fun j hj => ?_))).trans eJ); (iterate 17 (rcases j with _ | j; exact rfl)); exact absurd hj (by omega))); clear hs; subst q) | (clear g6; have q : Mc = s := (by (dsimp only at hs; refine (hs.trans ((congrArg mcast (ip_is (a := A) (fun j hj => ?_))).trans eMc)).symm; (iterate 16 (rcases j with _ | j; exact rfl)); exact absurd hj (by omega))); clear hs; subst q) | skip)))
 all_goals try (first | exact rfl | exact Nat.le_of_ble_eq_true rfl)
 all_goals first
  | (show (toL eCtx l.length _).length <= _; rw [toL_len]; have := hl.n; omega)
  | exact fun _ => rfl
  | ((first | rw [f0 (by assumption)] | rw [f1 (by assumption) (by assumption)] | rw [f2 (by assumption) (fun h => Bool.noConfusion (h.symm.trans (by assumption : Mc = false)))])
     exact ⟨leF_tup ⟨leE_agg rfl (fun i hi => by (iterate 16 (rcases i with _ | i; exact leC_int rfl)); exact absurd hi (by omega)), leC_int rfl, trivial⟩, rdN_le rfl⟩)
  | skip
theorem unid_f2 (b : List Int) (q : Int) (k : Adr) (l : List Ctx) (id now : Int) (hr : RdOk b q) (hl : bytesL l) : MethOk Tryz.prog 96 [cB.enc false, (cI .i64).enc 2, (cE eAdr).enc k, cFind.enc (l, id, now)] (rdN true b q) (encRA (uniD b false 2 k (forDec l id now) q).1) (rdN true b (uniD b false 2 k (forDec l id now) q).2) := by
 obtain ⟨W, hW⟩ : ∃ W, uniD b false 2 k (forDec l id now) q = W := ⟨_, rfl⟩
 have eW : W = (if (numF b q 2).1.2 = 0 then (if mcast (jn llP.ip ((numF b q 2).1.1 + 1099478073344)) = true then ((zeroA, 5), (numF b q 2).2) else ((jn llP.ip ((numF b q 2).1.1 + 1099478073344), 0), (numF b q 2).2)) else ((zeroA, (numF b q 2).1.2), (numF b q 2).2)) := by
  rw [<- hW]
  simp (decide := true) only [uniD, uniV, thenD, prefD, if_true, if_false, true_and, and_true, false_and]
  by_cases hN : (numF b q 2).1.2 = 0
  . simp (decide := true) only [hN, if_true, if_false]
  . simp only [hN, if_false]
 rw [hW]
 clear hW
 obtain ⟨I, eI⟩ : ∃ I, iidF k = I := ⟨_, rfl⟩
 have v2 := num2_v (q := q) hr.bl
 obtain ⟨N, eN⟩ : ∃ N, numF b q 2 = N := ⟨_, rfl⟩
 rw [eN] at eW
 rw [eN] at v2
 have w2 : IntKind.u64.wrap (N.1.1 + 1099478073344) = N.1.1 + 1099478073344 := IntWalk.u64_in _ (by omega)
 have eJ : joinF llP (N.1.1 + 1099478073344) = (jn llP.ip (N.1.1 + 1099478073344), true) := if_pos ⟨llP_v, by decide⟩
 obtain ⟨A, eA'⟩ : ∃ A, jn llP.ip (N.1.1 + 1099478073344) = A := ⟨_, rfl⟩
 rw [eA'] at eW eJ
 obtain ⟨Mc, eMc⟩ : ∃ x, mcast A = x := ⟨_, rfl⟩
 rw [eMc] at eW
 have f0 : (¬ N.1.2 = 0) -> W = ((zeroA, N.1.2), N.2) := fun h0 => by rw [eW, if_neg h0]
 have f1 : (N.1.2 = 0) -> (Mc = true) -> W = ((zeroA, 5), N.2) := fun h0 h1 => by rw [eW, if_pos h0, if_pos h1]
 have f2 : (N.1.2 = 0) -> (¬ Mc = true) -> W = ((A, 0), N.2) := fun h0 h1 => by rw [eW, if_pos h0, if_neg h1]
 clear eW
 have g1 : True := trivial
 have g2 : True := trivial
 have g3 : True := trivial
 have g4 : True := trivial
 have g5 : True := trivial
 have g6 : True := trivial
 refine meth_intro (wd := 1) (Q := mkQ LRd3) (by decide) tysOk (q_of LRd3_ok) mixed Tryz.func96 rfl _ (by show 4 + 1 <= _; decide) (flatF_nff (encRA_flat _)) (rdN_nf) ?_
 repeat' (first | (apply And.intro <;> intro hc <;> (first | exact Bool.noConfusion hc | (exfalso; first | exact absurd hc (by decide) | exact absurd rfl hc | exact absurd hc (by assumption) | exact absurd (by assumption) hc | exact Bool.noConfusion ((by assumption : I.2 = true).symm.trans hc)) | (simp only [zb0, ne_eq, not_true_eq_false] at hc <;> first | exact absurd rfl hc | (exfalso; first | exact absurd hc (by decide) | exact absurd rfl hc | exact absurd hc (by assumption) | exact absurd (by assumption) hc | exact Bool.noConfusion ((by assumption : I.2 = true).symm.trans hc)) | skip) | skip)) | (refine And.intro (by first | exact trivial | decide | omega | (dsimp only; omega) | exact fun _ _ => rfl | exact ⟨by assumption, by first | exact trivial | decide | omega | (dsimp only; omega)⟩) ?_) | (apply And.intro) | (refine Exists.intro b (And.intro ⟨rfl, rfl, by first | exact ⟨by assumption, by decide, by decide⟩ | assumption⟩ ?_)) | (intro s hs; (first | (clear g1; have q : I = s := (hs.trans ((congrArg iidF (rd_adr k)).trans eI)).symm; clear hs; subst q) | (clear g2; have q : s = llP := hs; clear hs; subst q) | (clear g4; have q : N = s := (hs.trans eN).symm; clear hs; subst q) | (clear g5; have q : s = (A, true) := (by (dsimp only at hs; refine hs.trans ((congrArg (joinF · (IntKind.u64.wrap (N.1.1 + 1099478073344))) (pfx_is (p := llP) (fun j hj => ?_))).trans ((congrArg (joinF llP) w2).trans eJ)); (iterate 17 (rcases j with _ | j; exact rfl)); exact absurd hj (by omega))); clear hs; subst q) | (clear g6; have q : Mc = s := (by (dsimp only at hs; refine (hs.trans ((congrArg mcast (ip_is (a := A) (fun j hj => ?_))).trans eMc)).symm; (iterate 16 (rcases j with _ | j; exact rfl)); exact absurd hj (by omega))); clear hs; subst q) | skip)))
 all_goals try (first | exact rfl | exact Nat.le_of_ble_eq_true rfl)
 all_goals first
  | (show (toL eCtx l.length _).length <= _; rw [toL_len]; have := hl.n; omega)
  | exact fun _ => rfl
  | ((first | rw [f0 (by assumption)] | rw [f1 (by assumption) (by assumption)] | rw [f2 (by assumption) (fun h => Bool.noConfusion (h.symm.trans (by assumption : Mc = false)))])
     exact ⟨leF_tup ⟨leE_agg rfl (fun i hi => by (iterate 16 (rcases i with _ | i; exact leC_int rfl)); exact absurd hi (by omega)), leC_int rfl, trivial⟩, rdN_le rfl⟩)
  | skip
theorem unid_f3 (b : List Int) (q : Int) (k : Adr) (l : List Ctx) (id now : Int) (hr : RdOk b q) (hl : bytesL l) : MethOk Tryz.prog 96 [cB.enc false, (cI .i64).enc 3, (cE eAdr).enc k, cFind.enc (l, id, now)] (rdN true b q) (encRA (uniD b false 3 k (forDec l id now) q).1) (rdN true b (uniD b false 3 k (forDec l id now) q).2) := by
 obtain ⟨W, hW⟩ : ∃ W, uniD b false 3 k (forDec l id now) q = W := ⟨_, rfl⟩
 have eW : W = (if (iidF k).2 = false then ((zeroA, 5), q) else (if mcast (jn llP.ip (iidF k).1) = true then ((zeroA, 5), q) else ((jn llP.ip (iidF k).1, 0), q))) := by
  rw [<- hW]
  simp (decide := true) only [uniD, uniV, thenD, prefD, if_true, if_false, true_and, and_true, false_and]
 rw [hW]
 clear hW
 obtain ⟨I, eI⟩ : ∃ I, iidF k = I := ⟨_, rfl⟩
 rw [eI] at eW
 have eJ : joinF llP I.1 = (jn llP.ip I.1, true) := if_pos ⟨llP_v, by decide⟩
 obtain ⟨A, eA'⟩ : ∃ A, jn llP.ip I.1 = A := ⟨_, rfl⟩
 rw [eA'] at eW eJ
 obtain ⟨Mc, eMc⟩ : ∃ x, mcast A = x := ⟨_, rfl⟩
 rw [eMc] at eW
 have f0 : (I.2 = false) -> W = ((zeroA, 5), q) := fun h0 => by rw [eW, if_pos h0]
 have f1 : (¬ I.2 = false) -> (Mc = true) -> W = ((zeroA, 5), q) := fun h0 h1 => by rw [eW, if_neg h0, if_pos h1]
 have f2 : (¬ I.2 = false) -> (¬ Mc = true) -> W = ((A, 0), q) := fun h0 h1 => by rw [eW, if_neg h0, if_neg h1]
 clear eW
 have g1 : True := trivial
 have g2 : True := trivial
 have g3 : True := trivial
 have g4 : True := trivial
 have g5 : True := trivial
 have g6 : True := trivial
 refine meth_intro (wd := 1) (Q := mkQ LRd3) (by decide) tysOk (q_of LRd3_ok) mixed Tryz.func96 rfl _ (by show 4 + 1 <= _; decide) (flatF_nff (encRA_flat _)) (rdN_nf) ?_
 repeat' (first | (apply And.intro <;> intro hc <;> (first | exact Bool.noConfusion hc | (exfalso; first | exact absurd hc (by decide) | exact absurd rfl hc | exact absurd hc (by assumption) | exact absurd (by assumption) hc | exact Bool.noConfusion ((by assumption : I.2 = true).symm.trans hc)) | (simp only [zb0, ne_eq, not_true_eq_false] at hc <;> first | exact absurd rfl hc | (exfalso; first | exact absurd hc (by decide) | exact absurd rfl hc | exact absurd hc (by assumption) | exact absurd (by assumption) hc | exact Bool.noConfusion ((by assumption : I.2 = true).symm.trans hc)) | skip) | skip)) | (refine And.intro (by first | exact trivial | decide | omega | (dsimp only; omega) | exact fun _ _ => rfl | exact ⟨by assumption, by first | exact trivial | decide | omega | (dsimp only; omega)⟩) ?_) | (apply And.intro) | (refine Exists.intro b (And.intro ⟨rfl, rfl, by first | exact ⟨by assumption, by decide, by decide⟩ | assumption⟩ ?_)) | (intro s hs; (first | (clear g1; have q : I = s := (hs.trans ((congrArg iidF (rd_adr k)).trans eI)).symm; clear hs; subst q) | (clear g2; have q : s = llP := hs; clear hs; subst q) | (clear g5; have q : s = (A, true) := (by (dsimp only at hs; refine hs.trans ((congrArg (joinF · I.1) (pfx_is (p := llP) (fun j hj => ?_))).trans eJ); (iterate 17 (rcases j with _ | j; exact rfl)); exact absurd hj (by omega))); clear hs; subst q) | (clear g6; have q : Mc = s := (by (dsimp only at hs; refine (hs.trans ((congrArg mcast (ip_is (a := A) (fun j hj => ?_))).trans eMc)).symm; (iterate 16 (rcases j with _ | j; exact rfl)); exact absurd hj (by omega))); clear hs; subst q) | skip)))
 all_goals try (first | exact rfl | exact Nat.le_of_ble_eq_true rfl)
 all_goals first
  | (show (toL eCtx l.length _).length <= _; rw [toL_len]; have := hl.n; omega)
  | exact fun _ => rfl
  | ((first | rw [f0 (by assumption)] | rw [f1 (fun h => Bool.noConfusion (h.symm.trans (by assumption : I.2 = true))) (by assumption)] | rw [f2 (fun h => Bool.noConfusion (h.symm.trans (by assumption : I.2 = true))) (fun h => Bool.noConfusion (h.symm.trans (by assumption : Mc = false)))])
     exact ⟨leF_tup ⟨leE_agg rfl (fun i hi => by (iterate 16 (rcases i with _ | i; exact leC_int rfl)); exact absurd hi (by omega)), leC_int rfl, trivial⟩, rdN_le rfl⟩)
  | skip
end Go.Proofs.YtjknkfjhcapocaaGreatDoor.AX
namespace Go.Proofs.YtjknkfjhcapocaaGreatDoor.AX
open Go.RowKit
def grpB (n : Nat) (v : Int) : Fin 16 -> Int := fun i => if i.1 = 0 then 255 else if i.1 = 1 then (if n = 1 then 2 else byteM v n 0) else if i.1 + n < 17 /\ n ≠ 1 \/ i.1 < 15 /\ n = 1 then 0 else byteM v n (i.1 + n - 16)
theorem getD_byte {w : List Int} {n k : Nat} (hw : BL w) (hn : w.length = n) (h8 : n <= 8) (hk : k < n) : w.getD k default = byteM (beVal w) n k := by
 have e : beM (beVal w) n = w := (beM_eq _ _ h8).trans (beN_beVal n w hw hn)
 conv => lhs; rw [<- e]
 unfold beM
 rw [List.getD_eq_getElem?_getD, List.getElem?_map, List.getElem?_range hk]; rfl
theorem grpV_eq {w : List Int} {n : Nat} (hw : BL w) (hn : w.length = n) (h1 : 1 <= n) (h8 : n <= 8) : grpV n w = grpB n (beVal w) := by
 funext i
 have hi := i.2
 unfold grpV grpB
 by_cases c0 : i.1 = 0
 . rw [if_pos c0, if_pos c0]
 . rw [if_neg c0, if_neg c0]
   by_cases c1 : i.1 = 1
   . rw [if_pos c1, if_pos c1]
     by_cases c2 : n = 1
     . rw [if_pos c2, if_pos c2]
     . rw [if_neg c2, if_neg c2]
       exact getD_byte hw hn h8 (by omega)
   . rw [if_neg c1, if_neg c1]
     by_cases c2 : i.1 + n < 17 /\ n ≠ 1 \/ i.1 < 15 /\ n = 1
     . rw [if_pos c2, if_pos c2]
     . rw [if_neg c2, if_neg c2]
       exact getD_byte hw hn h8 (by omega)
theorem num_w {b : List Int} {q n : Int} (h : (numF b q n).1.2 = 0) : (numF b q n).1.1 = beVal ((b.drop q.toNat).take n.toNat) /\ ((b.drop q.toNat).take n.toNat).length = n.toNat := by
 unfold numF at h ⊢
 split at h
 . rename_i g
   have hU := uint_true g
   rw [if_pos g]
   refine ⟨?_, by rw [List.length_take, List.length_drop]; omega⟩
   show (uintF b q n).1 = _
   unfold uintF
   rw [if_pos hU]
 . cases h
theorem grp_val {b : List Int} {q n : Int} (hb : BL b) (h : (numF b q n).1.2 = 0) (h1 : 1 <= n) (h8 : n <= 8) : grpV n.toNat ((b.drop q.toNat).take n.toNat) = grpB n.toNat (numF b q n).1.1 := by
 obtain ⟨e1, e2⟩ := num_w h
 rw [e1]
 exact grpV_eq ((hb.drop _).take _) e2 (by omega) (by omega)
theorem grpd_0 (b : List Int) (q : Int) (hr : RdOk b q) : MethOk Tryz.prog 97 [(cI .i64).enc 0] (rdN true b q) (encRA (grpD b 0 q).1) (rdN true b (grpD b 0 q).2) := by
 obtain ⟨W, hW⟩ : ∃ W, grpD b 0 q = W := ⟨_, rfl⟩
 have eW : W = (if (ipRF b q).1.2 = 0 then (if mcast (ipRF b q).1.1 = true then (((ipRF b q).1.1, 0), (ipRF b q).2) else (((ipRF b q).1.1, 5), (ipRF b q).2)) else ((zeroA, (ipRF b q).1.2), (ipRF b q).2)) := hW.symm
 have ez : ¬ (ipRF b q).1.2 = 0 -> (ipRF b q).1.1 = zeroA := fun h => by
  unfold ipRF at h ⊢
  split
  . rfl
  . rename_i g; rw [if_neg g] at h; exact absurd rfl h
 rw [hW]
 obtain ⟨N, eN⟩ : ∃ N, ipRF b q = N := ⟨_, rfl⟩
 rw [eN] at eW ez
 obtain ⟨Mc, eMc⟩ : ∃ x, mcast N.1.1 = x := ⟨_, rfl⟩
 rw [eMc] at eW
 have f0 : ¬ N.1.2 = 0 -> W = ((N.1.1, N.1.2), N.2) := fun h => by rw [eW, if_neg h, ez h]
 have f1 : N.1.2 = 0 -> Mc = true -> W = ((N.1.1, 0), N.2) := fun h g => by rw [eW, if_pos h, if_pos g]
 have f2 : N.1.2 = 0 -> Mc = false -> W = ((N.1.1, 5), N.2) := fun h g => by rw [eW, if_pos h, if_neg (by rw [g]; decide)]
 clear eW hW
 have g1 : True := trivial
 refine meth_intro (wd := 1) (Q := mkQ LRd3) (by decide) tysOk (q_of LRd3_ok) mixed Tryz.func97 rfl _ (by show 1 + 1 <= _; decide) (flatF_nff (encRA_flat _)) (rdN_nf) ?_
 repeat' (first | (apply And.intro <;> intro hc <;> (first | exact Bool.noConfusion hc | (exfalso; first | exact absurd hc (by decide) | exact absurd rfl hc | exact absurd hc (by assumption) | exact absurd (by assumption) hc) | (simp only [zb0, ne_eq, not_true_eq_false] at hc <;> first | exact absurd rfl hc | (exfalso; first | exact absurd hc (by decide) | exact absurd rfl hc | exact absurd hc (by assumption) | exact absurd (by assumption) hc) | skip) | skip)) | (refine And.intro (by first | exact trivial | decide | omega | (dsimp only; omega) | exact fun _ _ => rfl | exact ⟨by assumption, by first | exact trivial | decide | omega | (dsimp only; omega)⟩) ?_) | (apply And.intro) | (refine Exists.intro b (And.intro ⟨rfl, rfl, by first | exact ⟨by assumption, by decide, by decide⟩ | assumption⟩ ?_)) | (intro s hs; (first | (clear g1; have q : N = s := (hs.trans eN).symm; clear hs; subst q) | (have q : Mc = s := (by (dsimp only at hs; refine (hs.trans ((congrArg mcast (ip_is (a := N.1.1) (fun j hj => ?_))).trans eMc)).symm; (iterate 16 (rcases j with _ | j; exact rfl)); exact absurd hj (by omega))); clear hs; subst q) | skip)))
 all_goals try (first | exact rfl | exact Nat.le_of_ble_eq_true rfl)
 all_goals first
  | (rw [f0 (by assumption)]
     exact ⟨leF_tup ⟨leE_agg rfl (fun i hi => by (iterate 16 (rcases i with _ | i; exact leC_int rfl)); exact absurd hi (by omega)), leC_int rfl, trivial⟩, rdN_le rfl⟩)
  | (rw [f1 (by assumption) (by assumption)]
     exact ⟨leF_tup ⟨leE_agg rfl (fun i hi => by (iterate 16 (rcases i with _ | i; exact leC_int rfl)); exact absurd hi (by omega)), leC_int (by assumption), trivial⟩, rdN_le rfl⟩)
  | (rw [f2 (by assumption) (by assumption)]
     exact ⟨leF_tup ⟨leE_agg rfl (fun i hi => by (iterate 16 (rcases i with _ | i; exact leC_int rfl)); exact absurd hi (by omega)), leC_int rfl, trivial⟩, rdN_le rfl⟩)
  | skip
theorem grpd_1 (b : List Int) (q : Int) (hr : RdOk b q) : MethOk Tryz.prog 97 [(cI .i64).enc 1] (rdN true b q) (encRA (grpD b 1 q).1) (rdN true b (grpD b 1 q).2) := by
 obtain ⟨W, hW⟩ : ∃ W, grpD b 1 q = W := ⟨_, rfl⟩
 have eW : W = (if (numF b q 6).1.2 = 0 then ((grpV 6 ((b.drop q.toNat).take 6), 0), (numF b q 6).2) else ((zeroA, (numF b q 6).1.2), (numF b q 6).2)) := hW.symm
 have eG := grp_val (q := q) (n := 6) hr.bl
 rw [hW]
 have f0 : ¬ (numF b q 6).1.2 = 0 -> W = ((zeroA, (numF b q 6).1.2), (numF b q 6).2) := fun h => by rw [eW, if_neg h]
 have f1 : (numF b q 6).1.2 = 0 -> W = ((grpB 6 (numF b q 6).1.1, 0), (numF b q 6).2) := fun h => by
  rw [eW, if_pos h]
  exact congrArg (fun x => ((x, 0), (numF b q 6).2)) (eG h (by decide) (by decide))
 clear eW hW eG
 obtain ⟨N, eN⟩ : ∃ N, numF b q 6 = N := ⟨_, rfl⟩
 rw [eN] at f0 f1
 have g1 : True := trivial
 refine meth_intro (wd := 1) (Q := mkQ LRd3) (by decide) tysOk (q_of LRd3_ok) mixed Tryz.func97 rfl _ (by show 1 + 1 <= _; decide) (flatF_nff (encRA_flat _)) (rdN_nf) ?_
 repeat' (first | (apply And.intro <;> intro hc <;> (first | exact Bool.noConfusion hc | (exfalso; first | exact absurd hc (by decide) | exact absurd rfl hc | exact absurd hc (by assumption) | exact absurd (by assumption) hc) | (simp only [zb0, ne_eq, not_true_eq_false] at hc <;> first | exact absurd rfl hc | (exfalso; first | exact absurd hc (by decide) | exact absurd rfl hc | exact absurd hc (by assumption) | exact absurd (by assumption) hc) | skip) | skip)) | (refine And.intro (by first | exact trivial | decide | omega | (dsimp only; omega) | exact fun _ _ => rfl | exact ⟨by assumption, by first | exact trivial | decide | omega | (dsimp only; omega)⟩) ?_) | (apply And.intro) | (refine Exists.intro b (And.intro ⟨rfl, rfl, by first | exact ⟨by assumption, by decide, by decide⟩ | assumption⟩ ?_)) | (intro s hs; (first | (clear g1; have q : N = s := (hs.trans eN).symm; clear hs; subst q) | skip)))
 all_goals try (first | exact rfl | exact Nat.le_of_ble_eq_true rfl)
 . rw [f0 (by assumption)]
   exact ⟨leF_tup ⟨leE_agg rfl (fun i hi => by (iterate 16 (rcases i with _ | i; exact leC_int rfl)); exact absurd hi (by omega)), leC_int rfl, trivial⟩, rdN_le rfl⟩
 . refine loop_intro (mono_of LRd3_ok) (fun s : {i : Nat // i <= 5} => (⟨[(4, one (.ptr 1 0 0 false)), (10, one (.int .u64 N.1.1)), (12, one (.ptr 23 0 0 false)), (56, one (.int .i64 5)), (57, one (.int .i64 (s.1 : Int)))],
    [(0, some (rdN true b N.2)), (1, some ⟨24, 1, 16, true, fun _ _ => .top⟩), (23, some ⟨24, 1, 16, true, fun _ j => .int .u8 (bif Nat.beq j 0 then 255 else bif Nat.beq j 1 then IntKind.u8.wrap (shrI .u64 N.1.1 (IntKind.i64.wrap (8 * 5))) else bif Nat.ble (16 - s.1) j then IntKind.u8.wrap (shrI .u64 N.1.1 (IntKind.i64.wrap (8 * ((15 - j : Nat) : Int)))) else 0)⟩)], 24⟩ : Hd)) (fun s => 5 - s.1) (fun _ => rfl) ?_ ⟨0, by omega⟩ [] ?_
   . rintro ⟨i, hi⟩
     rcases i with _ | i
     . repeat' (first | (apply And.intro <;> intro hc <;> (first | exact Bool.noConfusion hc | (exfalso; first | exact absurd hc (by decide) | exact hc (by decide)) | (simp only [zb0, ne_eq, not_true_eq_false] at hc <;> first | exact absurd rfl hc | (exfalso; first | exact absurd hc (by decide) | exact hc (by decide)) | skip) | skip)) | (refine And.intro (by first | exact trivial | decide | omega | (dsimp only; omega) | exact fun _ _ => rfl | exact ⟨by assumption, by first | exact trivial | decide | omega | (dsimp only; omega)⟩) ?_) | (apply And.intro) | (intro s hs; skip))
       all_goals try (first | (dsimp only; decide) | exact Nat.le_of_ble_eq_true rfl | exact rfl)
       all_goals (refine ⟨⟨1, by omega⟩, [], by dsimp only; omega, rfl, ?_, ?_⟩)
       all_goals skip
       . repeat' (first | exact zw0 | refine leF_int ?_ | refine leF_bool ?_ | exact zw1 | apply And.intro)
       . repeat' (first | exact zw0 | refine leF_int ?_ | refine leF_bool ?_ | exact zw1 | apply And.intro)
         all_goals first
          | exact rdN_le rfl
          | (refine leN_var ?_; repeat' (first | exact zw2 | refine leE_all ?_ | exact leC_bool (by assumption) | apply And.intro))
     rcases i with _ | i
     . repeat' (first | (apply And.intro <;> intro hc <;> (first | exact Bool.noConfusion hc | (exfalso; first | exact absurd hc (by decide) | exact hc (by decide)) | (simp only [zb0, ne_eq, not_true_eq_false] at hc <;> first | exact absurd rfl hc | (exfalso; first | exact absurd hc (by decide) | exact hc (by decide)) | skip) | skip)) | (refine And.intro (by first | exact trivial | decide | omega | (dsimp only; omega) | exact fun _ _ => rfl | exact ⟨by assumption, by first | exact trivial | decide | omega | (dsimp only; omega)⟩) ?_) | (apply And.intro) | (intro s hs; skip))
       all_goals try (first | (dsimp only; decide) | exact Nat.le_of_ble_eq_true rfl | exact rfl)
       all_goals (refine ⟨⟨2, by omega⟩, [], by dsimp only; omega, rfl, ?_, ?_⟩)
       all_goals skip
       . repeat' (first | exact zw0 | refine leF_int ?_ | refine leF_bool ?_ | exact zw1 | apply And.intro)
       . repeat' (first | exact zw0 | refine leF_int ?_ | refine leF_bool ?_ | exact zw1 | apply And.intro)
         all_goals first
          | exact rdN_le rfl
          | (refine leN_var ?_; repeat' (first | exact zw2 | refine leE_all ?_ | exact leC_bool (by assumption) | apply And.intro))
     rcases i with _ | i
     . repeat' (first | (apply And.intro <;> intro hc <;> (first | exact Bool.noConfusion hc | (exfalso; first | exact absurd hc (by decide) | exact hc (by decide)) | (simp only [zb0, ne_eq, not_true_eq_false] at hc <;> first | exact absurd rfl hc | (exfalso; first | exact absurd hc (by decide) | exact hc (by decide)) | skip) | skip)) | (refine And.intro (by first | exact trivial | decide | omega | (dsimp only; omega) | exact fun _ _ => rfl | exact ⟨by assumption, by first | exact trivial | decide | omega | (dsimp only; omega)⟩) ?_) | (apply And.intro) | (intro s hs; skip))
       all_goals try (first | (dsimp only; decide) | exact Nat.le_of_ble_eq_true rfl | exact rfl)
       all_goals (refine ⟨⟨3, by omega⟩, [], by dsimp only; omega, rfl, ?_, ?_⟩)
       all_goals skip
       . repeat' (first | exact zw0 | refine leF_int ?_ | refine leF_bool ?_ | exact zw1 | apply And.intro)
       . repeat' (first | exact zw0 | refine leF_int ?_ | refine leF_bool ?_ | exact zw1 | apply And.intro)
         all_goals first
          | exact rdN_le rfl
          | (refine leN_var ?_; repeat' (first | exact zw2 | refine leE_all ?_ | exact leC_bool (by assumption) | apply And.intro))
     rcases i with _ | i
     . repeat' (first | (apply And.intro <;> intro hc <;> (first | exact Bool.noConfusion hc | (exfalso; first | exact absurd hc (by decide) | exact hc (by decide)) | (simp only [zb0, ne_eq, not_true_eq_false] at hc <;> first | exact absurd rfl hc | (exfalso; first | exact absurd hc (by decide) | exact hc (by decide)) | skip) | skip)) | (refine And.intro (by first | exact trivial | decide | omega | (dsimp only; omega) | exact fun _ _ => rfl | exact ⟨by assumption, by first | exact trivial | decide | omega | (dsimp only; omega)⟩) ?_) | (apply And.intro) | (intro s hs; skip))
       all_goals try (first | (dsimp only; decide) | exact Nat.le_of_ble_eq_true rfl | exact rfl)
       all_goals (refine ⟨⟨4, by omega⟩, [], by dsimp only; omega, rfl, ?_, ?_⟩)
       all_goals skip
       . repeat' (first | exact zw0 | refine leF_int ?_ | refine leF_bool ?_ | exact zw1 | apply And.intro)
       . repeat' (first | exact zw0 | refine leF_int ?_ | refine leF_bool ?_ | exact zw1 | apply And.intro)
         all_goals first
          | exact rdN_le rfl
          | (refine leN_var ?_; repeat' (first | exact zw2 | refine leE_all ?_ | exact leC_bool (by assumption) | apply And.intro))
     rcases i with _ | i
     . repeat' (first | (apply And.intro <;> intro hc <;> (first | exact Bool.noConfusion hc | (exfalso; first | exact absurd hc (by decide) | exact hc (by decide)) | (simp only [zb0, ne_eq, not_true_eq_false] at hc <;> first | exact absurd rfl hc | (exfalso; first | exact absurd hc (by decide) | exact hc (by decide)) | skip) | skip)) | (refine And.intro (by first | exact trivial | decide | omega | (dsimp only; omega) | exact fun _ _ => rfl | exact ⟨by assumption, by first | exact trivial | decide | omega | (dsimp only; omega)⟩) ?_) | (apply And.intro) | (intro s hs; skip))
       all_goals try (first | (dsimp only; decide) | exact Nat.le_of_ble_eq_true rfl | exact rfl)
       all_goals (refine ⟨⟨5, by omega⟩, [], by dsimp only; omega, rfl, ?_, ?_⟩)
       all_goals skip
       . repeat' (first | exact zw0 | refine leF_int ?_ | refine leF_bool ?_ | exact zw1 | apply And.intro)
       . repeat' (first | exact zw0 | refine leF_int ?_ | refine leF_bool ?_ | exact zw1 | apply And.intro)
         all_goals first
          | exact rdN_le rfl
          | (refine leN_var ?_; repeat' (first | exact zw2 | refine leE_all ?_ | exact leC_bool (by assumption) | apply And.intro))
     rcases i with _ | i
     . repeat' (first | (apply And.intro <;> intro hc <;> (first | exact Bool.noConfusion hc | (exfalso; first | exact absurd hc (by decide) | exact hc (by decide)) | (simp only [zb0, ne_eq, not_true_eq_false] at hc <;> first | exact absurd rfl hc | (exfalso; first | exact absurd hc (by decide) | exact hc (by decide)) | skip) | skip)) | (refine And.intro (by first | exact trivial | decide | omega | (dsimp only; omega) | exact fun _ _ => rfl | exact ⟨by assumption, by first | exact trivial | decide | omega | (dsimp only; omega)⟩) ?_) | (apply And.intro) | (intro s hs; skip))
       rw [f1 (by assumption)]
       exact ⟨leF_tup ⟨leE_agg rfl (fun i hi => by (iterate 16 (rcases i with _ | i; exact leC_int rfl)); exact absurd hi (by omega)), leC_int rfl, trivial⟩, rdN_le rfl⟩
     . exact absurd hi (by omega)
   . refine ⟨rfl, ?_, ?_⟩
     . repeat' (first | exact zw0 | refine leF_int ?_ | refine leF_bool ?_ | exact zw1 | apply And.intro)
     . repeat' (first | exact zw0 | refine leF_int ?_ | refine leF_bool ?_ | exact zw1 | apply And.intro)
       all_goals first
        | exact rdN_le rfl
        | (refine leN_var ?_; repeat' (first | exact zw2 | refine leE_all ?_ | exact leC_bool (by assumption) | apply And.intro))
theorem grpd_2 (b : List Int) (q : Int) (hr : RdOk b q) : MethOk Tryz.prog 97 [(cI .i64).enc 2] (rdN true b q) (encRA (grpD b 2 q).1) (rdN true b (grpD b 2 q).2) := by
 obtain ⟨W, hW⟩ : ∃ W, grpD b 2 q = W := ⟨_, rfl⟩
 have eW : W = (if (numF b q 4).1.2 = 0 then ((grpV 4 ((b.drop q.toNat).take 4), 0), (numF b q 4).2) else ((zeroA, (numF b q 4).1.2), (numF b q 4).2)) := hW.symm
 have eG := grp_val (q := q) (n := 4) hr.bl
 rw [hW]
 have f0 : ¬ (numF b q 4).1.2 = 0 -> W = ((zeroA, (numF b q 4).1.2), (numF b q 4).2) := fun h => by rw [eW, if_neg h]
 have f1 : (numF b q 4).1.2 = 0 -> W = ((grpB 4 (numF b q 4).1.1, 0), (numF b q 4).2) := fun h => by
  rw [eW, if_pos h]
  exact congrArg (fun x => ((x, 0), (numF b q 4).2)) (eG h (by decide) (by decide))
 clear eW hW eG
 obtain ⟨N, eN⟩ : ∃ N, numF b q 4 = N := ⟨_, rfl⟩
 rw [eN] at f0 f1
 have g1 : True := trivial
 refine meth_intro (wd := 1) (Q := mkQ LRd3) (by decide) tysOk (q_of LRd3_ok) mixed Tryz.func97 rfl _ (by show 1 + 1 <= _; decide) (flatF_nff (encRA_flat _)) (rdN_nf) ?_
 repeat' (first | (apply And.intro <;> intro hc <;> (first | exact Bool.noConfusion hc | (exfalso; first | exact absurd hc (by decide) | exact absurd rfl hc | exact absurd hc (by assumption) | exact absurd (by assumption) hc) | (simp only [zb0, ne_eq, not_true_eq_false] at hc <;> first | exact absurd rfl hc | (exfalso; first | exact absurd hc (by decide) | exact absurd rfl hc | exact absurd hc (by assumption) | exact absurd (by assumption) hc) | skip) | skip)) | (refine And.intro (by first | exact trivial | decide | omega | (dsimp only; omega) | exact fun _ _ => rfl | exact ⟨by assumption, by first | exact trivial | decide | omega | (dsimp only; omega)⟩) ?_) | (apply And.intro) | (refine Exists.intro b (And.intro ⟨rfl, rfl, by first | exact ⟨by assumption, by decide, by decide⟩ | assumption⟩ ?_)) | (intro s hs; (first | (clear g1; have q : N = s := (hs.trans eN).symm; clear hs; subst q) | skip)))
 all_goals try (first | exact rfl | exact Nat.le_of_ble_eq_true rfl)
 . rw [f0 (by assumption)]
   exact ⟨leF_tup ⟨leE_agg rfl (fun i hi => by (iterate 16 (rcases i with _ | i; exact leC_int rfl)); exact absurd hi (by omega)), leC_int rfl, trivial⟩, rdN_le rfl⟩
 . refine loop_intro (mono_of LRd3_ok) (fun s : {i : Nat // i <= 3} => (⟨[(4, one (.ptr 1 0 0 false)), (10, one (.int .u64 N.1.1)), (12, one (.ptr 23 0 0 false)), (56, one (.int .i64 3)), (57, one (.int .i64 (s.1 : Int)))],
    [(0, some (rdN true b N.2)), (1, some ⟨24, 1, 16, true, fun _ _ => .top⟩), (23, some ⟨24, 1, 16, true, fun _ j => .int .u8 (bif Nat.beq j 0 then 255 else bif Nat.beq j 1 then IntKind.u8.wrap (shrI .u64 N.1.1 (IntKind.i64.wrap (8 * 3))) else bif Nat.ble (16 - s.1) j then IntKind.u8.wrap (shrI .u64 N.1.1 (IntKind.i64.wrap (8 * ((15 - j : Nat) : Int)))) else 0)⟩)], 24⟩ : Hd)) (fun s => 3 - s.1) (fun _ => rfl) ?_ ⟨0, by omega⟩ [] ?_
   . rintro ⟨i, hi⟩
     rcases i with _ | i
     . repeat' (first | (apply And.intro <;> intro hc <;> (first | exact Bool.noConfusion hc | (exfalso; first | exact absurd hc (by decide) | exact hc (by decide)) | (simp only [zb0, ne_eq, not_true_eq_false] at hc <;> first | exact absurd rfl hc | (exfalso; first | exact absurd hc (by decide) | exact hc (by decide)) | skip) | skip)) | (refine And.intro (by first | exact trivial | decide | omega | (dsimp only; omega) | exact fun _ _ => rfl | exact ⟨by assumption, by first | exact trivial | decide | omega | (dsimp only; omega)⟩) ?_) | (apply And.intro) | (intro s hs; skip))
       all_goals try (first | (dsimp only; decide) | exact Nat.le_of_ble_eq_true rfl | exact rfl)
       all_goals (refine ⟨⟨1, by omega⟩, [], by dsimp only; omega, rfl, ?_, ?_⟩)
       all_goals skip
       . repeat' (first | exact zw0 | refine leF_int ?_ | refine leF_bool ?_ | exact zw1 | apply And.intro)
       . repeat' (first | exact zw0 | refine leF_int ?_ | refine leF_bool ?_ | exact zw1 | apply And.intro)
         all_goals first
          | exact rdN_le rfl
          | (refine leN_var ?_; repeat' (first | exact zw2 | refine leE_all ?_ | exact leC_bool (by assumption) | apply And.intro))
     rcases i with _ | i
     . repeat' (first | (apply And.intro <;> intro hc <;> (first | exact Bool.noConfusion hc | (exfalso; first | exact absurd hc (by decide) | exact hc (by decide)) | (simp only [zb0, ne_eq, not_true_eq_false] at hc <;> first | exact absurd rfl hc | (exfalso; first | exact absurd hc (by decide) | exact hc (by decide)) | skip) | skip)) | (refine And.intro (by first | exact trivial | decide | omega | (dsimp only; omega) | exact fun _ _ => rfl | exact ⟨by assumption, by first | exact trivial | decide | omega | (dsimp only; omega)⟩) ?_) | (apply And.intro) | (intro s hs; skip))
       all_goals try (first | (dsimp only; decide) | exact Nat.le_of_ble_eq_true rfl | exact rfl)
       all_goals (refine ⟨⟨2, by omega⟩, [], by dsimp only; omega, rfl, ?_, ?_⟩)
       all_goals skip
       . repeat' (first | exact zw0 | refine leF_int ?_ | refine leF_bool ?_ | exact zw1 | apply And.intro)
       . repeat' (first | exact zw0 | refine leF_int ?_ | refine leF_bool ?_ | exact zw1 | apply And.intro)
         all_goals first
          | exact rdN_le rfl
          | (refine leN_var ?_; repeat' (first | exact zw2 | refine leE_all ?_ | exact leC_bool (by assumption) | apply And.intro))
     rcases i with _ | i
     . repeat' (first | (apply And.intro <;> intro hc <;> (first | exact Bool.noConfusion hc | (exfalso; first | exact absurd hc (by decide) | exact hc (by decide)) | (simp only [zb0, ne_eq, not_true_eq_false] at hc <;> first | exact absurd rfl hc | (exfalso; first | exact absurd hc (by decide) | exact hc (by decide)) | skip) | skip)) | (refine And.intro (by first | exact trivial | decide | omega | (dsimp only; omega) | exact fun _ _ => rfl | exact ⟨by assumption, by first | exact trivial | decide | omega | (dsimp only; omega)⟩) ?_) | (apply And.intro) | (intro s hs; skip))
       all_goals try (first | (dsimp only; decide) | exact Nat.le_of_ble_eq_true rfl | exact rfl)
       all_goals (refine ⟨⟨3, by omega⟩, [], by dsimp only; omega, rfl, ?_, ?_⟩)
       all_goals skip
       . repeat' (first | exact zw0 | refine leF_int ?_ | refine leF_bool ?_ | exact zw1 | apply And.intro)
       . repeat' (first | exact zw0 | refine leF_int ?_ | refine leF_bool ?_ | exact zw1 | apply And.intro)
         all_goals first
          | exact rdN_le rfl
          | (refine leN_var ?_; repeat' (first | exact zw2 | refine leE_all ?_ | exact leC_bool (by assumption) | apply And.intro))
     rcases i with _ | i
     . repeat' (first | (apply And.intro <;> intro hc <;> (first | exact Bool.noConfusion hc | (exfalso; first | exact absurd hc (by decide) | exact hc (by decide)) | (simp only [zb0, ne_eq, not_true_eq_false] at hc <;> first | exact absurd rfl hc | (exfalso; first | exact absurd hc (by decide) | exact hc (by decide)) | skip) | skip)) | (refine And.intro (by first | exact trivial | decide | omega | (dsimp only; omega) | exact fun _ _ => rfl | exact ⟨by assumption, by first | exact trivial | decide | omega | (dsimp only; omega)⟩) ?_) | (apply And.intro) | (intro s hs; skip))
       rw [f1 (by assumption)]
       exact ⟨leF_tup ⟨leE_agg rfl (fun i hi => by (iterate 16 (rcases i with _ | i; exact leC_int rfl)); exact absurd hi (by omega)), leC_int rfl, trivial⟩, rdN_le rfl⟩
     . exact absurd hi (by omega)
   . refine ⟨rfl, ?_, ?_⟩
     . repeat' (first | exact zw0 | refine leF_int ?_ | refine leF_bool ?_ | exact zw1 | apply And.intro)
     . repeat' (first | exact zw0 | refine leF_int ?_ | refine leF_bool ?_ | exact zw1 | apply And.intro)
       all_goals first
        | exact rdN_le rfl
        | (refine leN_var ?_; repeat' (first | exact zw2 | refine leE_all ?_ | exact leC_bool (by assumption) | apply And.intro))
theorem grpd_3 (b : List Int) (q : Int) (hr : RdOk b q) : MethOk Tryz.prog 97 [(cI .i64).enc 3] (rdN true b q) (encRA (grpD b 3 q).1) (rdN true b (grpD b 3 q).2) := by
 obtain ⟨W, hW⟩ : ∃ W, grpD b 3 q = W := ⟨_, rfl⟩
 have eW : W = (if (numF b q 1).1.2 = 0 then ((grpV 1 ((b.drop q.toNat).take 1), 0), (numF b q 1).2) else ((zeroA, (numF b q 1).1.2), (numF b q 1).2)) := hW.symm
 have eG := grp_val (q := q) (n := 1) hr.bl
 rw [hW]
 have f0 : ¬ (numF b q 1).1.2 = 0 -> W = ((zeroA, (numF b q 1).1.2), (numF b q 1).2) := fun h => by rw [eW, if_neg h]
 have f1 : (numF b q 1).1.2 = 0 -> W = ((grpB 1 (numF b q 1).1.1, 0), (numF b q 1).2) := fun h => by
  rw [eW, if_pos h]
  exact congrArg (fun x => ((x, 0), (numF b q 1).2)) (eG h (by decide) (by decide))
 clear eW hW eG
 obtain ⟨N, eN⟩ : ∃ N, numF b q 1 = N := ⟨_, rfl⟩
 rw [eN] at f0 f1
 have g1 : True := trivial
 refine meth_intro (wd := 1) (Q := mkQ LRd3) (by decide) tysOk (q_of LRd3_ok) mixed Tryz.func97 rfl _ (by show 1 + 1 <= _; decide) (flatF_nff (encRA_flat _)) (rdN_nf) ?_
 repeat' (first | (apply And.intro <;> intro hc <;> (first | exact Bool.noConfusion hc | (exfalso; first | exact absurd hc (by decide) | exact absurd rfl hc | exact absurd hc (by assumption) | exact absurd (by assumption) hc) | (simp only [zb0, ne_eq, not_true_eq_false] at hc <;> first | exact absurd rfl hc | (exfalso; first | exact absurd hc (by decide) | exact absurd rfl hc | exact absurd hc (by assumption) | exact absurd (by assumption) hc) | skip) | skip)) | (refine And.intro (by first | exact trivial | decide | omega | (dsimp only; omega) | exact fun _ _ => rfl | exact ⟨by assumption, by first | exact trivial | decide | omega | (dsimp only; omega)⟩) ?_) | (apply And.intro) | (refine Exists.intro b (And.intro ⟨rfl, rfl, by first | exact ⟨by assumption, by decide, by decide⟩ | assumption⟩ ?_)) | (intro s hs; (first | (clear g1; have q : N = s := (hs.trans eN).symm; clear hs; subst q) | skip)))
 all_goals try (first | exact rfl | exact Nat.le_of_ble_eq_true rfl)
 . rw [f0 (by assumption)]
   exact ⟨leF_tup ⟨leE_agg rfl (fun i hi => by (iterate 16 (rcases i with _ | i; exact leC_int rfl)); exact absurd hi (by omega)), leC_int rfl, trivial⟩, rdN_le rfl⟩
 . refine loop_intro (mono_of LRd3_ok) (fun s : {i : Nat // i <= 1} => (⟨[(4, one (.ptr 1 0 0 false)), (10, one (.int .u64 N.1.1)), (12, one (.ptr 23 0 0 false)), (56, one (.int .i64 1)), (57, one (.int .i64 (s.1 : Int)))],
    [(0, some (rdN true b N.2)), (1, some ⟨24, 1, 16, true, fun _ _ => .top⟩), (23, some ⟨24, 1, 16, true, fun _ j => .int .u8 (bif Nat.beq j 0 then 255 else bif Nat.beq j 1 then 2 else bif Nat.ble (16 - s.1) j then IntKind.u8.wrap (shrI .u64 N.1.1 (IntKind.i64.wrap (8 * ((15 - j : Nat) : Int)))) else 0)⟩)], 24⟩ : Hd)) (fun s => 1 - s.1) (fun _ => rfl) ?_ ⟨0, by omega⟩ [] ?_
   . rintro ⟨i, hi⟩
     rcases i with _ | i
     . repeat' (first | (apply And.intro <;> intro hc <;> (first | exact Bool.noConfusion hc | (exfalso; first | exact absurd hc (by decide) | exact hc (by decide)) | (simp only [zb0, ne_eq, not_true_eq_false] at hc <;> first | exact absurd rfl hc | (exfalso; first | exact absurd hc (by decide) | exact hc (by decide)) | skip) | skip)) | (refine And.intro (by first | exact trivial | decide | omega | (dsimp only; omega) | exact fun _ _ => rfl | exact ⟨by assumption, by first | exact trivial | decide | omega | (dsimp only; omega)⟩) ?_) | (apply And.intro) | (intro s hs; skip))
       all_goals try (first | (dsimp only; decide) | exact Nat.le_of_ble_eq_true rfl | exact rfl)
       all_goals (refine ⟨⟨1, by omega⟩, [], by dsimp only; omega, rfl, ?_, ?_⟩)
       all_goals skip
       . repeat' (first | exact zw0 | refine leF_int ?_ | refine leF_bool ?_ | exact zw1 | apply And.intro)
       . repeat' (first | exact zw0 | refine leF_int ?_ | refine leF_bool ?_ | exact zw1 | apply And.intro)
         all_goals first
          | exact rdN_le rfl
          | (refine leN_var ?_; repeat' (first | exact zw2 | refine leE_all ?_ | exact leC_bool (by assumption) | apply And.intro))
     rcases i with _ | i
     . repeat' (first | (apply And.intro <;> intro hc <;> (first | exact Bool.noConfusion hc | (exfalso; first | exact absurd hc (by decide) | exact hc (by decide)) | (simp only [zb0, ne_eq, not_true_eq_false] at hc <;> first | exact absurd rfl hc | (exfalso; first | exact absurd hc (by decide) | exact hc (by decide)) | skip) | skip)) | (refine And.intro (by first | exact trivial | decide | omega | (dsimp only; omega) | exact fun _ _ => rfl | exact ⟨by assumption, by first | exact trivial | decide | omega | (dsimp only; omega)⟩) ?_) | (apply And.intro) | (intro s hs; skip))
       rw [f1 (by assumption)]
       exact ⟨leF_tup ⟨leE_agg rfl (fun i hi => by (iterate 16 (rcases i with _ | i; exact leC_int rfl)); exact absurd hi (by omega)), leC_int rfl, trivial⟩, rdN_le rfl⟩
     . exact absurd hi (by omega)
   . refine ⟨rfl, ?_, ?_⟩
     . repeat' (first | exact zw0 | refine leF_int ?_ | refine leF_bool ?_ | exact zw1 | apply And.intro)
     . repeat' (first | exact zw0 | refine leF_int ?_ | refine leF_bool ?_ | exact zw1 | apply And.intro)
       all_goals first
        | exact rdN_le rfl
        | (refine leN_var ?_; repeat' (first | exact zw2 | refine leE_all ?_ | exact leC_bool (by assumption) | apply And.intro))
theorem uniR_ok (b : List Int) (q : Int) (ctx : Bool) (m : Int) (k : Adr) (l : List Ctx) (id now : Int) (hr : RdOk b q) (hl : bytesL l) (hm : 0 <= m /\ m <= 3) : MethOk Tryz.prog 96 [cB.enc ctx, (cI .i64).enc m, (cE eAdr).enc k, cFind.enc (l, id, now)] (rdN true b q) (encRA (uniD b ctx m k (forDec l id now) q).1) (rdN true b (uniD b ctx m k (forDec l id now) q).2) := by
 have h : m = 0 \/ m = 1 \/ m = 2 \/ m = 3 := by omega
 cases ctx with
 | true =>
   rcases h with rfl | rfl | rfl | rfl
   . exact unid_t0 b q k l id now hr hl
   . exact unid_t1 b q k l id now hr hl
   . exact unid_t2 b q k l id now hr hl
   . exact unid_t3 b q k l id now hr hl
 | false =>
   rcases h with rfl | rfl | rfl | rfl
   . exact unid_f0 b q k l id now hr hl
   . exact unid_f1 b q k l id now hr hl
   . exact unid_f2 b q k l id now hr hl
   . exact unid_f3 b q k l id now hr hl
theorem grpR_ok (b : List Int) (q m : Int) (hr : RdOk b q) (hm : 0 <= m /\ m <= 3) : MethOk Tryz.prog 97 [(cI .i64).enc m] (rdN true b q) (encRA (grpD b m q).1) (rdN true b (grpD b m q).2) := by
 have h : m = 0 \/ m = 1 \/ m = 2 \/ m = 3 := by omega
 rcases h with rfl | rfl | rfl | rfl
 . exact grpd_0 b q hr
 . exact grpd_1 b q hr
 . exact grpd_2 b q hr
 . exact grpd_3 b q hr
abbrev uniRA : AC (Bool × Int × Adr × (List Ctx × Int × Int) × Unit) := AC.cons cB (AC.cons (cI .i64) (AC.cons (cE eAdr) (AC.cons cFind AC.nil)))
abbrev uniRE : Entry := rdE uniRA (fun b q a => RdOk b q /\ bytesL a.2.2.2.1.1 /\ 0 <= a.2.1 /\ a.2.1 <= 3) (fun b q a => uniD b a.1 a.2.1 a.2.2.1 (forDec a.2.2.2.1.1 a.2.2.2.1.2.1 a.2.2.2.1.2.2) q) encRA
abbrev grpRE : Entry := rdE (AC.cons (cI .i64) AC.nil) (fun b q a => RdOk b q /\ 0 <= a.1 /\ a.1 <= 3) (fun b q a => grpD b a.1 q) encRA
def mkfE : Entry := inl0E T (mkQ LRd3) 1 Tryz.f93.ntmps Tryz.f93.results.toList (Tryz.f93.body.getD Code.ret)
theorem mkfE_ok : EntOk Tryz.prog 93 mkfE := inl0E_ok (by decide) tysOk (q_of LRd3_ok) (mono_of LRd3_ok) mixed Tryz.func93 rfl rfl
theorem thenD_r {α β : Type} {b : List Int} {x : RD α} {z : β} {f : α -> Int -> RD β} (hx : RdOk b x.2) (hf : ∀ v q, RdOk b q -> RdOk b (f v q).2) : RdOk b (thenD x z f).2 := by
 unfold thenD
 split
 . exact hf _ _ hx
 . exact hx
theorem ite_r {α : Type} {b : List Int} {p : Prop} [Decidable p] {x y : RD α} (hx : RdOk b x.2) (hy : RdOk b y.2) : RdOk b (if p then x else y).2 := by
 split
 . exact hx
 . exact hy
theorem ip_r {b : List Int} {q : Int} (h : RdOk b q) : RdOk b (ipRF b q).2 := by
 have h1 := h.lo
 have h2 := h.hi
 unfold ipRF
 split
 . exact h
 . exact ⟨h.bl, h.len, by dsimp only; omega, by dsimp only; omega⟩
theorem fieldsD_r {b : List Int} {x q : Int} (h : RdOk b q) : RdOk b (fieldsD b x q).2 := by
 unfold fieldsD
 refine thenD_r (ite_r (num_ok h) h) fun c q h => thenD_r (ite_r (num_ok h) h) fun fl q h => ite_r h (thenD_r (ite_r (num_ok h) h) fun nx q h => ite_r h (thenD_r (ite_r (num_ok h) h) fun hp q h => h))
theorem thenD_p {α β : Type} {P : β -> Prop} {x : RD α} {z : β} {f : α -> Int -> RD β} (hz : P z) (hf : ∀ v q, P (f v q).1.1) : P (thenD x z f).1.1 := by
 unfold thenD
 split
 . exact hf _ _
 . exact hz
theorem ite_p {α : Type} {P : α -> Prop} {c : Prop} [Decidable c] {x y : RD α} (hx : P x.1.1) (hy : P y.1.1) : P (if c then x else y).1.1 := by
 split
 . exact hx
 . exact hy
theorem fieldsD_src (b : List Int) (x q : Int) : (fieldsD b x q).1.1.src = zeroA :=
 thenD_p (P := fun h : Hdr => h.src = zeroA) rfl fun c q => thenD_p (P := fun h : Hdr => h.src = zeroA) rfl fun fl q => ite_p (P := fun h : Hdr => h.src = zeroA) rfl (thenD_p (P := fun h : Hdr => h.src = zeroA) rfl fun nx q => ite_p (P := fun h : Hdr => h.src = zeroA) rfl (thenD_p (P := fun h : Hdr => h.src = zeroA) rfl fun hp q => rfl))
theorem uniD_r {b : List Int} {ctx : Bool} {m q : Int} {k : Adr} {C : Ctx × Bool} (h : RdOk b q) : RdOk b (uniD b ctx m k C q).2 := by
 unfold uniD uniV
 exact ite_r h (ite_r h (ite_r h (thenD_r (ite_r (ip_r h) (ite_r (thenD_r (num_ok h) fun v q h => h) (ite_r (thenD_r (num_ok h) fun v q h => h) h))) fun a q h => ite_r h h)))
theorem grpD_r {b : List Int} {m q : Int} (h : RdOk b q) : RdOk b (grpD b m q).2 := by
 unfold grpD
 exact ite_r (thenD_r (ip_r h) fun a q h => ite_r h h) (thenD_r (num_ok h) fun v q h => h)
theorem startF_r {b : List Int} {q : Int} (h : RdOk b q) : RdOk b (startF b q).2 := by
 unfold startF
 exact thenD_r (num_ok h) fun x q h => ite_r h (thenD_r (num_ok h) fun y q h => ite_r h (ite_r (thenD_r (num_ok h) fun i q h => h) h))
structure StR (s : I3) : Prop where
 x : 96 <= s.1 /\ s.1 <= 127
 y : 0 <= s.2.1 /\ s.2.1 < 256
 ids : 0 <= s.2.2 /\ s.2.2 < 256
 bad : badY s.2.1 = false
theorem startF_v {b : List Int} {q : Int} (hb : BL b) (h : (startF b q).1.2 = 0) : StR (startF b q).1.1 := by
 unfold startF thenD at h ⊢
 have v1 := num1_v (q := q) hb
 have v2 := num1_v (q := (numF b q 1).2) hb
 have v3 := num1_v (q := (numF b (numF b q 1).2 1).2) hb
 dsimp only at h ⊢
 split at h
 . rename_i c1
   rw [if_pos c1]
   split at h
   . exact absurd (show (5 : Int) = 0 from h) (by decide)
   . rename_i c2
     rw [if_neg c2]
     split at h
     . rename_i c3
       rw [if_pos c3]
       split at h
       . exact absurd (show (5 : Int) = 0 from h) (by decide)
       . rename_i c4
         rw [if_neg c4]
         have c4' : badY (numF b (numF b q 1).2 1).1.1 = false := by
          cases hc : badY (numF b (numF b q 1).2 1).1.1 with
          | false => rfl
          | true => exact absurd hc c4
         split at h
         . rename_i c5
           rw [if_pos c5]
           split at h
           . rename_i c6
             rw [if_pos c6]
             exact ⟨by dsimp only; omega, v2, v3, c4'⟩
           . rename_i c6
             exact absurd h c6
         . rename_i c5
           rw [if_neg c5]
           exact ⟨by dsimp only; omega, v2, ⟨Int.le_refl 0, (by decide : (0 : Int) < 256)⟩, c4'⟩
     . rename_i c3
       exact absurd h c3
 . rename_i c1
   exact absurd h c1
theorem raw_bits : ∀ y : Fin 256, (bits .and .i64 (y.1 : Int) 64 != 0) = bitAt y.1 64 /\ (bits .and .i64 (y.1 : Int) 4 != 0) = bitAt y.1 4 /\ (bits .and .i64 (y.1 : Int) 8 != 0) = bitAt y.1 8 /\ bits .and .i64 (shrI .i64 (y.1 : Int) 4) 3 = y.1 / 16 % 4 /\ bits .and .i64 (y.1 : Int) 3 = y.1 % 4 /\ shrI .i64 (y.1 : Int) 4 = y.1 / 16 /\ bits .and .i64 (y.1 : Int) 15 = y.1 % 16 := by decide +kernel
theorem raw_of {y : Int} (h : 0 <= y /\ y < 256) : (bits .and .i64 y 64 != 0) = bitAt y 64 /\ (bits .and .i64 y 4 != 0) = bitAt y 4 /\ (bits .and .i64 y 8 != 0) = bitAt y 8 /\ bits .and .i64 (shrI .i64 y 4) 3 = y / 16 % 4 /\ bits .and .i64 y 3 = y % 4 /\ shrI .i64 y 4 = y / 16 /\ bits .and .i64 y 15 = y % 16 := by
 obtain ⟨m, rfl⟩ : ∃ m : Nat, y = m := ⟨y.toNat, by omega⟩
 exact raw_bits ⟨m, by omega⟩
abbrev encDec (r : (Pkt × Int) × Int) : FV := .tup [tailR eHd eB r.1.1, .c (.int .i64 r.1.2), .c (.int .i64 r.2)]
section
variable {b : List Int} {f t : Adr} {l : List Ctx} {now : Int}
theorem decI_0 {Ck : Int} (hC : checkF f t l now = Ck) (h : ¬ Ck = 0) : decI b f t l now = (((zeroH, []), 0), Ck) := by
 subst hC
 exact if_pos h
theorem decI_e {R : RD Hdr} {e : Int} (h : checkF f t l now = 0) (hR : readD b f t l now = R) (hee : R.1.2 = e) (he : ¬ e = 0) : decI b f t l now = (((zeroH, []), 0), e) := by
 subst hR
 subst hee
 unfold decI
 rw [if_neg (fun x => x h), if_neg he]
theorem decI_v {H : Hdr} {q : Int} (h : checkF f t l now = 0) (hR : readD b f t l now = ((H, 0), q)) : decI b f t l now = (((H, []), q), 0) := by
 unfold decI
 rw [if_neg (fun x => x h), hR]
 exact if_pos rfl
theorem read_1 {S : RD I3} (hS : startF b 0 = S) (h : ¬ S.1.2 = 0) : readD b f t l now = ((zeroH, S.1.2), S.2) := by
 subst hS
 exact if_neg h
theorem read_2 {S : RD I3} {F : RD Hdr} (hS : startF b 0 = S) (hF : fieldsD b S.1.1.1 S.2 = F) (h : S.1.2 = 0) (h2 : ¬ F.1.2 = 0) : readD b f t l now = ((zeroH, F.1.2), F.2) := by
 subst hS
 subst hF
 exact (if_pos h).trans (if_neg h2)
theorem read_3 {S : RD I3} {F : RD Hdr} {X : RD (Fin 16 -> Int)} (hS : startF b 0 = S) (hF : fieldsD b S.1.1.1 S.2 = F) (hX : srcD b S.1.1.2.1 S.1.1.2.2 f l now F.2 = X) (h : S.1.2 = 0) (h2 : F.1.2 = 0) (h3 : ¬ X.1.2 = 0) : readD b f t l now = ((zeroH, X.1.2), X.2) := by
 subst hS
 subst hF
 subst hX
 exact (if_pos h).trans ((if_pos h2).trans (if_neg h3))
theorem read_4 {S : RD I3} {F : RD Hdr} {X Y : RD (Fin 16 -> Int)} (hS : startF b 0 = S) (hF : fieldsD b S.1.1.1 S.2 = F) (hX : srcD b S.1.1.2.1 S.1.1.2.2 f l now F.2 = X) (hY : dstD b S.1.1.2.1 S.1.1.2.2 t l now X.2 = Y) (h : S.1.2 = 0) (h2 : F.1.2 = 0) (h3 : X.1.2 = 0) (h4 : ¬ Y.1.2 = 0) : readD b f t l now = ((zeroH, Y.1.2), Y.2) := by
 subst hS
 subst hF
 subst hX
 subst hY
 exact (if_pos h).trans ((if_pos h2).trans ((if_pos h3).trans (if_neg h4)))
theorem read_5 {S : RD I3} {F : RD Hdr} {X Y : RD (Fin 16 -> Int)} (hS : startF b 0 = S) (hF : fieldsD b S.1.1.1 S.2 = F) (hX : srcD b S.1.1.2.1 S.1.1.2.2 f l now F.2 = X) (hY : dstD b S.1.1.2.1 S.1.1.2.2 t l now X.2 = Y) (h : S.1.2 = 0) (h2 : F.1.2 = 0) (h3 : X.1.2 = 0) (h4 : Y.1.2 = 0) : readD b f t l now = (({ F.1.1 with src := X.1.1, dst := Y.1.1 }, 0), Y.2) := by
 subst hS
 subst hF
 subst hX
 subst hY
 exact (if_pos h).trans ((if_pos h2).trans ((if_pos h3).trans (if_pos h4)))
end
structure J (R : RD Hdr) (e : Int) (rest : RD Hdr) : Prop where
 ok : e = 0 -> R = rest
 err : e ≠ 0 -> R.1.2 = e
section
variable {R : RD Hdr} {b : List Int} {e q : Int}
end
section
variable (b : List Int) (f t : Adr) (l : List Ctx) (now : Int)
def K2 (y ids : Int) (h : Hdr) (q : Int) : RD Hdr := thenD (dstD b y ids t l now q) zeroH fun dst q => (({ h with dst := dst }, 0), q)
def K1 (y ids : Int) (h : Hdr) (q : Int) : RD Hdr := thenD (srcD b y ids f l now q) zeroH fun src q => K2 b t l now y ids { h with src := src } q
def KH (x y ids c fl nx q : Int) : RD Hdr := thenD (if x % 4 = 0 then numF b q 1 else ((hopV (x % 4), 0), q)) zeroH fun hp q => K1 b f t l now y ids ⟨c, fl, nx, hp, zeroA, zeroA, 0, 0⟩ q
def KN (x y ids c fl q : Int) : RD Hdr := thenD (if x / 4 % 2 = 0 then numF b q 1 else ((17, 0), q)) zeroH fun nx q => if x / 4 % 2 = 0 /\ nx = 17 then ((zeroH, 5), q) else KH b f t l now x y ids c fl nx q
def KL (x y ids c fl q : Int) : RD Hdr := if 1048575 < fl then ((zeroH, 5), q) else KN b f t l now x y ids c fl q
def K0 (x y ids q : Int) : RD Hdr :=
 thenD (if x / 8 % 4 = 0 \/ x / 8 % 4 = 2 then numF b q 1 else ((0, 0), q)) zeroH fun c q =>
 thenD (if x / 8 % 4 = 0 \/ x / 8 % 4 = 1 then numF b q 3 else ((0, 0), q)) zeroH fun fl q => KL b f t l now x y ids c fl q
def KI (x y q : Int) : RD Hdr := if 128 <= y then thenD (numF b q 1) zeroH fun i q => K0 b f t l now x y i q else K0 b f t l now x y 0 q
end
end Go.Proofs.YtjknkfjhcapocaaGreatDoor.AX
namespace Go.Proofs.YtjknkfjhcapocaaGreatDoor.AX
open Go.RowKit
section
variable (b : List Int) (f t : Adr) (l : List Ctx) (now : Int)
structure RS1 where
 x : Int
 q : Int
 e : Int
 hr : RdOk b q
 hx : 0 <= x /\ x < 256
 j : J (readD b f t l now) e (thenD (numF b q 1) zeroH fun y q => if badY y = true then ((zeroH, 5), q) else KI b f t l now x y q)
structure RS2 where
 x : Int
 y : Int
 q : Int
 e : Int
 hr : RdOk b q
 hx : 0 <= x /\ x < 256
 hy : 0 <= y /\ y < 256
 j : J (readD b f t l now) e (KI b f t l now x y q)
structure RS3 where
 x : Int
 y : Int
 ids : Int
 q : Int
 e : Int
 hr : RdOk b q
 hx : 0 <= x /\ x < 256
 hy : 0 <= y /\ y < 256
 hi : 0 <= ids /\ ids < 256
 j : J (readD b f t l now) e (K0 b f t l now x y ids q)
structure RS4 where
 x : Int
 y : Int
 ids : Int
 c : Int
 fl : Int
 q : Int
 e : Int
 hr : RdOk b q
 hx : 0 <= x /\ x < 256
 hy : 0 <= y /\ y < 256
 hi : 0 <= ids /\ ids < 256
 hf : 0 <= fl /\ fl < 16777216
 j : J (readD b f t l now) e (KL b f t l now x y ids c fl q)
structure RS5 where
 x : Int
 y : Int
 ids : Int
 c : Int
 fl : Int
 nx : Int
 q : Int
 e : Int
 hr : RdOk b q
 hx : 0 <= x /\ x < 256
 hy : 0 <= y /\ y < 256
 hi : 0 <= ids /\ ids < 256
 j : J (readD b f t l now) e (KH b f t l now x y ids c fl nx q)
structure RS6 where
 y : Int
 ids : Int
 h : Hdr
 q : Int
 e : Int
 hr : RdOk b q
 hy : 0 <= y /\ y < 256
 hi : 0 <= ids /\ ids < 256
 hs : h.src = zeroA
 hd : h.dst = zeroA
 j : J (readD b f t l now) e (K1 b f t l now y ids h q)
structure RS7 where
 y : Int
 ids : Int
 h : Hdr
 q : Int
 e : Int
 hr : RdOk b q
 hy : 0 <= y /\ y < 256
 hi : 0 <= ids /\ ids < 256
 hd : h.dst = zeroA
 j : J (readD b f t l now) e (K2 b t l now y ids h q)
structure RS8 where
 y : Int
 h : Hdr
 q : Int
 e : Int
 hr : RdOk b q
 hy : 0 <= y /\ y < 256
 j : J (readD b f t l now) (failS e (mcast h.dst != bitAt y 8) 5) ((h, 0), q)
end
theorem encB_up (p : Pkt) (s : Int) : encB p s = ((((beB (1610612736 + p.1.cls * 1048576 + p.1.flow) 4 ++ beB (sizeP p - 40) 2) ++ [p.1.nxt, p.1.hops]) ++ ipL p.1.src) ++ ipL p.1.dst) ++ upB p s := by
 unfold encB upB encU
 rw [List.append_assoc _ _ p.2]
theorem rencode_ok (p : Pkt) (s0 : Int) (hp : PkW p) (hl : p.2.length <= 70368744170000) (hs0 : 0 <= s0 /\ s0 < 65536) : NewOk Tryz.prog 58 [cPk.enc p, (cI .u16).enc s0] (some (encB p s0).length) none (ents eB 5 (encB p s0)) := by
 obtain ⟨w, eW⟩ : ∃ w, encB p s0 = w := ⟨_, rfl⟩
 rw [eW]
 have c1 := hp.cls
 have c2 := hp.flow
 have w1 : IntKind.u64.wrap p.1.cls = p.1.cls := IntWalk.u64_in _ (by omega)
 have w2 : shlI .u64 (IntKind.u64.wrap p.1.cls) 20 = p.1.cls * 1048576 := by
  rw [w1]
  unfold shlI
  rw [show min (20 : Int).toNat (IntKind.bits .u64) = 20 from rfl]
  exact IntWalk.u64_in _ (by omega)
 have w3 : IntKind.u64.wrap (IntKind.u64.wrap (1610612736 + shlI .u64 (IntKind.u64.wrap p.1.cls) 20) + IntKind.u64.wrap p.1.flow) = 1610612736 + p.1.cls * 1048576 + p.1.flow := by
  rw [w2, IntWalk.u64_in p.1.flow (by omega), IntWalk.u64_in (1610612736 + p.1.cls * 1048576) (by omega)]
  exact IntWalk.u64_in _ (by omega)
 have w4 := wlen (p := p) (by omega)
 refine new_intro (wd := 1) (Q := mkQ LRp2) (by decide) tysOk (q_of LRp2_ok) mixed Tryz.func58 rfl _ (by show 2 <= _; decide) (fun i _ j _ => row_nf eB _ i j) ?_
 repeat' (first | (apply And.intro <;> intro hc <;> (first | exact Bool.noConfusion hc | (simp only [zb0, ne_eq, not_true_eq_false] at hc <;> first | exact absurd rfl hc | skip) | skip)) | (refine And.intro zp1 ?_) | (apply And.intro) | (intro s hs; (first | (have q : s = sizeP p := hs.trans (congrArg sizeP (pk_eq p _)); clear hs; subst q) | (have hq2 : s = upB p s0 := hs.trans (congrArg (fun x => upB x s0) (pk_eq p _)); clear hs; have hun := upB_len p s0; rw [<- hq2] at hun) | (dsimp only at hs; (first | rw [toL_b0] at hs | rw [toL_nil] at hs); have hln := app_le hs; try rw [List.length_nil] at hln) | skip)))
 all_goals first
  | (dsimp only; rw [toL_b]; omega)
  | (dsimp only; rw [toL_b0]; omega)
  | (dsimp only; rw [toL_nil]; decide)
  | (dsimp only; rw [pk_eq]; exact hp)
  | exact rfl
  | (dsimp only; omega)
  | omega
  | skip
 . rename_i z1 hz1 l1 s2
   have hz2 := hs
   clear hs
   have e : w = (((s2 ++ [p.1.nxt, p.1.hops]) ++ ipL p.1.src) ++ ipL p.1.dst) ++ s := by
    rw [<- eW, encB_up, hz2, hz1, hq2, w3, w4]; rfl
   rw [e]
   clear e hz1 hz2 hq2 hun
   refine ⟨⟨some _, leF_c (leC_os rfl ?_), leN_is ?_ (isRow_sel ?_ (isRow_sel ?_ (isRow_sel ?_ (isRow_sel rfl (isRow_row _) fun k hk => ?_) fun k hk => ?_) fun k hk => ?_) fun k hk => ?_)⟩⟩
   . simp only [List.length_append, ipL_len, List.length_cons, List.length_nil]
   . simp only [List.length_append, ipL_len, List.length_cons, List.length_nil]
   . simp only [List.length_append, ipL_len, List.length_cons, List.length_nil]
   . simp only [List.length_append, ipL_len, List.length_cons, List.length_nil]
   . simp only [List.length_append, ipL_len, List.length_cons, List.length_nil]
   . rw [show s2.length + k - s2.length = k by omega]
     rcases k with _ | _ | k
     . rfl
     . rfl
     . exact absurd hk (by show ¬ _ < 2; omega)
   . have h16 : k < 16 := by rw [ipL_len] at hk; exact hk
     exact (tailC_src (k := k) (by omega) h16).trans (ip_at rfl hk)
   . have h16 : k < 16 := by rw [ipL_len] at hk; exact hk
     exact (tailC_dst (k := k) (by omega) h16).trans (ip_at rfl hk)
   . show CV.int .u8 (s.getD (0 + (s2.length + 2 + (16 - 0) + (16 - 0) + k - (s2.length + 2 + (16 - 0) + (16 - 0)))) default) = _
     rw [show 0 + (s2.length + 2 + (16 - 0) + (16 - 0) + k - (s2.length + 2 + (16 - 0) + (16 - 0))) = k by omega]
abbrev rencE0 : Entry := newE (AC.cons cPk (AC.cons (cI .u16) AC.nil)) (fun a => PkW a.1 /\ a.1.2.length <= 70368744170000 /\ 0 <= a.2.1 /\ a.2.1 < 65536) (fun a => encB a.1 a.2.1) (fun L => some L.length) (fun _ => none) (fun L => ents eB 5 L)
def LRp3 : CsL := (58, some rencE0) :: LRp2
theorem LRp3_ok : AllOk Tryz.prog LRp3 := ⟨newE_ok ⟨_, Tryz.func58, rfl, by kernel_rfl⟩ (fun s l h => by cases h) fun a h => rencode_ok a.1 a.2.1 h.1 h.2.1 h.2.2, LRp2_ok⟩
theorem rEncode_ok (p : Pkt) (hp : PkW p) (hl : p.2.length <= 140737488355328) : NewOk Tryz.prog 34 [cPk.enc p] (some ((encR p).getD []).length) (some [i64V (ecR (encR p))]) (ents eB 5 ((encR p).getD [])) := by
 refine new_intro (wd := 1) (Q := mkQ LRp3) (by decide) tysOk (q_of LRp3_ok) mixed Tryz.func34 rfl _ (by show 1 <= _; decide) (fun i _ j _ => row_nf eB _ i j) ?_
 repeat' (first | (apply And.intro <;> intro hc <;> (first | exact Bool.noConfusion hc | (simp only [zb0, ne_eq, not_true_eq_false] at hc <;> first | exact absurd rfl hc | skip) | skip)) | (refine And.intro zp1 ?_) | (apply And.intro) | (intro s hs; (first | (have hs' : s = validP p := hs.trans (congrArg validP (pk_eq p _)); clear hs; subst hs') | (have hs' : s = sumP p := hs.trans (congrArg sumP (pk_eq p _)); clear hs; subst hs') | (have hq : s = encB p (sumP p) := hs.trans (congrArg (fun x => encB x (sumP p)) (pk_eq p _)); clear hs) | skip)))
 all_goals
  try (have hvv : validP p = true := by assumption)
  try (have hvl := valid_len hvv)
 all_goals first
  | (dsimp only; rw [pk_eq]; exact hp)
  | (dsimp only; rw [toL_b]; omega)
  | exact (sumP_r p).1
  | exact (sumP_r p).2
  | skip
 . have e : encR p = none := if_neg (fun h => by simp_all)
   rw [e]
   exact ⟨⟨none, leF_tup ⟨leC_nils_os rfl, leC_int rfl, trivial⟩, rfl, rfl, by decide⟩⟩
 . have hv : validP p = true := by simp_all
   have e : encR p = some s := by unfold encR; rw [if_pos hv, hq]
   rw [e]
   exact ⟨⟨some _, leF_tup ⟨leC_os rfl rfl, leC_int rfl, trivial⟩, leN_ents⟩⟩
abbrev rencE : Entry := newE PA (fun a => PkW a.1 /\ a.1.2.length <= 140737488355328) (fun a => encR a.1) (fun s => some (s.getD []).length) (fun s => some [i64V (ecR s)]) (fun s => ents eB 5 (s.getD []))
def LRp4 : CsL := (34, some rencE) :: LRp3
theorem LRp4_ok : AllOk Tryz.prog LRp4 := ⟨newE_ok ⟨_, Tryz.func34, rfl, by kernel_rfl⟩ (fun s l h x hx => by injection h with h; subst h; obtain rfl := List.mem_singleton.1 hx; exact nfE_c nf_int) fun a h => rEncode_ok a.1 h.1 h.2, LRp3_ok⟩
def upTo (b : List Int) (o i : Nat) : Fin 16 -> Int := fun q => if q.1 < i then b.getD (o + q.1) default else 0
def hdI (b : List Int) (v : Int) (i : Nat) : Hdr := ⟨IntKind.u8.wrap (shrI .u64 v 20), IntKind.u32.wrap (v.tmod 1048576), b.getD 6 default, b.getD 7 default, upTo b 8 i, upTo b 24 i, 0, 0⟩
theorem upTo_step (b : List Int) (o i q : Nat) (hq : q < 16) : vget (upTo b o (i + 1)) q = if q = i then b.getD (o + i) default else vget (upTo b o i) q := by
 rw [vget_lt _ hq, vget_lt _ hq]
 unfold upTo
 dsimp only
 by_cases h : q = i
 . subst h; rw [if_pos (by omega), if_pos rfl]
 . rw [if_neg h]
   by_cases h2 : q < i
   . rw [if_pos (by omega), if_pos h2]
   . rw [if_neg (by omega), if_neg h2]
theorem hd_step {c : Wc} {b : List Int} {v : Int} {i : Nat} (hi : i < 16) {o1 o2 : Nat} (h1 : o1 = 4 + i) (h2 : o2 = 20 + i) {x1 x2 : Int} (e1 : x1 = b.getD (8 + i) default) (e2 : x2 = b.getD (24 + i) default) (j : Nat) (hj : j < 39) :
 LeC c (ovs (ovs (tailC eHd (hdI b v i) .nils) o1 1 fun _ => .int .u8 x1) o2 1 (fun _ => .int .u8 x2) j) (tailC eHd (hdI b v (i + 1)) .nils j) := by
 subst h1 h2 e1 e2
 rw [ovs_eq, ovs_eq]
 rcases Nat.lt_or_ge j 38 with hj2 | hj2
 . by_cases c2 : j = 20 + i
   . subst c2
     rw [ovrI (by omega), tailC_dst (k := i) rfl hi, show (hdI b v (i + 1)).dst = upTo b 24 (i + 1) from rfl, upTo_step _ _ _ _ hi, if_pos rfl]
     exact leC_int rfl
   . rw [ovrO (by omega)]
     by_cases c1 : j = 4 + i
     . subst c1
       rw [ovrI (by omega), tailC_src (k := i) rfl hi, show (hdI b v (i + 1)).src = upTo b 8 (i + 1) from rfl, upTo_step _ _ _ _ hi, if_pos rfl]
       exact leC_int rfl
     . rw [ovrO (by omega)]
       rcases Nat.lt_or_ge j 4 with g | g
       . rcases j with _ | _ | _ | _ | j
         . exact leC_int rfl
         . exact leC_int rfl
         . exact leC_int rfl
         . exact leC_int rfl
         . omega
       . rcases Nat.lt_or_ge j 20 with g2 | g2
         . obtain ⟨q, rfl⟩ : ∃ q, j = 4 + q := ⟨j - 4, by omega⟩
           rw [tailC_src (k := q) rfl (by omega), tailC_src (k := q) rfl (by omega), show (hdI b v (i + 1)).src = upTo b 8 (i + 1) from rfl, upTo_step _ _ _ _ (by omega), if_neg (by omega)]
           exact leC_int rfl
         . rcases Nat.lt_or_ge j 36 with g3 | g3
           . obtain ⟨q, rfl⟩ : ∃ q, j = 20 + q := ⟨j - 20, by omega⟩
             rw [tailC_dst (k := q) rfl (by omega), tailC_dst (k := q) rfl (by omega), show (hdI b v (i + 1)).dst = upTo b 24 (i + 1) from rfl, upTo_step _ _ _ _ (by omega), if_neg (by omega)]
             exact leC_int rfl
           . rcases (show j = 36 \/ j = 37 by omega) with rfl | rfl
             . exact leC_int rfl
             . exact leC_int rfl
 . obtain rfl : j = 38 := by omega
   rw [ovrO (by omega), ovrO (by omega)]
   exact leC_nils
theorem isRow_b0 {b : List Int} {Z : Nat -> Nat -> CV} (a : Nat) : IsRow (fun q j => selC (Nat.blt (0 + q) 0) (Z (0 + q) j) (rowF eB b (a + (0 + q - 0)) j)) (b.drop a) := ⟨fun k hk => by
 rw [getD_dropI]
 show selC false _ (.int .u8 (b.getD (a + (0 + k - 0)) default)) = _
 rw [selC_false, show 0 + k - 0 = k by omega]⟩
theorem tail_le {c : Wc} {h : Hdr} {j : Nat} : LeC c (tailC eHd h .nils j) (tailC eHd h .nils j) := by
 unfold tailC
 cases Nat.blt j eHd.sz with
 | true => exact (eHd.flat _ _).le
 | false => exact leC_nils
theorem parse_ok (b : List Int) (hb : BL b) (hl : 40 <= b.length /\ b.length <= 1280) (h17 : b.getD 6 default = 17 -> 48 <= b.length) : PureOk Tryz.prog 99 [(cSl eB eB_sz).enc b] (.tup [tailR eHd eB (pkF b), .c (.int .u16 (rsumB b))]) := by
 obtain ⟨W, eW⟩ : ∃ W : Pkt × Int, (pkF b, rsumB b) = W := ⟨_, rfl⟩
 rw [show pkF b = W.1 from congrArg Prod.fst eW, show rsumB b = W.2 from congrArg Prod.snd eW]
 have hl2 : b.length <= 70368744177664 := by omega
 refine pure_intro (wd := 1) (Q := mkQ LRp4) (by decide) tysOk (q_of LRp4_ok) mixed Tryz.func99 rfl _ (by show 1 <= _; decide) _ ?_
 repeat' (first | (apply And.intro <;> intro hc <;> (first | exact Bool.noConfusion hc | (simp only [zb0, ne_eq, not_true_eq_false] at hc <;> first | exact absurd rfl hc | skip) | skip)) | (refine And.intro zp1 ?_) | (apply And.intro) | (intro s hs; skip))
 . dsimp only; rw [toL_b]; exact hb
 . dsimp only; rw [toL_b]; exact hl2
 have ev : s.1 = uI b 0 4 := congrArg Prod.fst (hs.trans (congrArg (fun x => uintF x 0 4) (toL_b b)))
 clear hs
 obtain ⟨v, vb⟩ := s
 have ev : v = uI b 0 4 := ev
 have hf : IntKind.u32.wrap (v.tmod 1048576) = IntKind.u32.wrap (bits .and .u64 (uI b 0 4) 1048575) := by
  have h0 := hb.get 0; have h1 := hb.get 1; have h2 := hb.get 2; have h3 := hb.get 3
  have e4 := uI_4 (b := b) (by omega)
  rw [ev, and20 (by omega), Int.tmod_eq_emod_of_nonneg (by omega)]
 refine loop_intro (mono_of LRp4_ok) (fun i : {i : Nat // i <= 16} => (⟨[(0, one (.sl false b.length eB.sz (rowF eB b))), (2, one (.ptr 0 0 0 false)), (3, one (.int .u16 0)), (6, one (.ptr 22 0 0 false)), (7, one (.int .i64 (i.1 : Int)))],
  [(0, some ⟨28, 1, 39, true, fun _ => tailC eHd pk0.1 .nils⟩), (22, some ⟨28, 1, 39, true, fun _ => tailC eHd (hdI b v i.1) .nils⟩)], 25⟩ : Hd)) (fun i => 16 - i.1) (fun _ => rfl) ?_ ⟨0, by omega⟩ [] ?_
 . rintro ⟨i, hi⟩
   dsimp only at hi ⊢
   have w8 : IntKind.i64.wrap (8 + (i : Int)) = 8 + i := IntWalk.i64_in _ (by omega)
   have w24 : IntKind.i64.wrap (24 + (i : Int)) = 24 + i := IntWalk.i64_in _ (by omega)
   repeat' (first | (apply And.intro <;> intro hc <;> (first | exact Bool.noConfusion hc | (simp only [zb0, ne_eq, not_true_eq_false] at hc <;> first | exact absurd rfl hc | skip) | skip)) | (refine And.intro zp1 ?_) | (apply And.intro) | (intro s hs; (dsimp only at hs; rw [toL_b] at hs)))
   all_goals first
    | (rw [w8]; omega)
    | (rw [w24]; omega)
    | (dsimp only; rw [toL_b]; exact hb)
    | (dsimp only; rw [toL_b]; exact hl2)
    | (show (0 : Int) <= _; omega)
    | skip
   . refine ⟨⟨i + 1, by omega⟩, [], by dsimp only; omega, rfl, ?_, ?_⟩
     . repeat' (first | exact zw0 | refine leF_int ?_ | refine leF_bool ?_ | exact zw1 | apply And.intro)
       refine (IntWalk.i64_in _ ?_).trans ?_
       . constructor <;> omega
       . dsimp only
         omega
     . repeat' (first | exact zw0 | refine leF_int ?_ | refine leF_bool ?_ | exact zw1 | apply And.intro)
       all_goals first
        | exact leN_varA fun j _ => tail_le
        | (refine leN_varA fun j hj => hd_step (by omega) ?_ ?_ ?_ ?_ j hj
           . omega
           . omega
           . exact congrArg (fun z => b.getD (Int.toNat z) default) w8
           . exact congrArg (fun z => b.getD (Int.toNat z) default) w24)
        | skip
   . have h48 := h17 (by assumption)
     omega
   . obtain rfl : i = 16 := by omega
     have h6 : b.getD 6 default = 17 := by assumption
     have h48 := h17 h6
     rename_i z1 hz1 z2 hz2 _
     have e : W = (pkU b, IntKind.u16.wrap (uI b 46 2)) := by rw [<- eW]; unfold pkF rsumB; rw [if_pos h6, if_pos h6]
     rw [e]
     have e1 : z1.1 = uI b 40 2 := congrArg Prod.fst hz1
     have e2 : z2.1 = uI b 42 2 := congrArg Prod.fst hz2
     have e3 : s.1 = uI b 46 2 := congrArg Prod.fst hs
     refine Done.mk (leF_tup ⟨leE_tail rfl (fun j hj => ?_) (leC_os_is (l := b.drop 48) rfl rfl rfl ?_ ?_ ?_), leC_int (by rw [e3]), trivial⟩)
     . rcases j with _ | _ | j
       . exact leC_int (by rw [ev]; rfl)
       . exact leC_int hf
       . iterate 34 (rcases j with _ | j; exact leC_int rfl)
         rcases j with _ | _ | j
         . exact leC_int (by rw [e1]; rfl)
         . exact leC_int (by rw [e2]; rfl)
         . exact absurd hj (by show ¬ _ < 38; omega)
     . rw [List.length_drop]; show 0 + (b.length - 48) = _; omega
     . exact Nat.le_refl _
     . exact isRow_b0 (Z := fun _ => nth [.int .u8 0]) 48
   . obtain rfl : i = 16 := by omega
     have h6 : b.getD 6 default ≠ 17 := by assumption
     have e : W = (pkN b, 0) := by rw [<- eW]; unfold pkF rsumB; rw [if_neg h6, if_neg h6]
     rw [e]
     refine Done.mk (leF_tup ⟨leE_tail rfl (fun j hj => ?_) (leC_os_is (l := b.drop 40) rfl rfl rfl ?_ ?_ ?_), leC_int rfl, trivial⟩)
     . rcases j with _ | _ | j
       . exact leC_int (by rw [ev]; rfl)
       . exact leC_int hf
       . iterate 36 (rcases j with _ | j; exact leC_int rfl)
         exact absurd hj (by show ¬ _ < 38; omega)
     . rw [List.length_drop]; show 0 + (b.length - 40) = _; omega
     . exact Nat.le_refl _
     . exact isRow_b0 (Z := fun _ => nth [.int .u8 0]) 40
 . refine ⟨rfl, ?_, ?_⟩
   . repeat' (first | exact zw0 | refine leF_int ?_ | refine leF_bool ?_ | exact zw1 | apply And.intro)
   . repeat' (first | exact zw0 | refine leF_int ?_ | refine leF_bool ?_ | exact zw1 | apply And.intro)
     all_goals
      refine leN_var ?_
      repeat' (first | exact trivial | exact leC_int rfl | exact leC_nils | apply And.intro)
def encPS (s : Pkt × Int) : FV := .tup [tailR eHd eB s.1, .c (.int .u16 s.2)]
abbrev parseE : Entry := pureE (AC.cons (cSl eB eB_sz) AC.nil) (fun a => BL a.1 /\ (40 <= a.1.length /\ a.1.length <= 1280) /\ (a.1.getD 6 default = 17 -> 48 <= a.1.length)) (fun a => (pkF a.1, rsumB a.1)) encPS
def LRp5 : CsL := (99, some parseE) :: LRp4
theorem LRp5_ok : AllOk Tryz.prog LRp5 := ⟨pureE_ok ⟨_, Tryz.func99, rfl, by kernel_rfl⟩ fun a h => parse_ok a.1 h.1 h.2.1 h.2.2, LRp4_ok⟩
theorem rdecode_ok (b : List Int) (hb : BL b) (hl : b.length <= 140737488355328) : PureOk Tryz.prog 64 [(cSl eB eB_sz).enc b] (encPE (rdecF b)) := by
 obtain ⟨P, eP⟩ : ∃ P, pkF b = P := ⟨_, rfl⟩
 obtain ⟨R, eR⟩ : ∃ R, rsumB b = R := ⟨_, rfl⟩
 have hR : 0 <= R /\ R < 65536 := by
  rw [<- eR]
  unfold rsumB
  split
  . exact u16r' _
  . omega
 obtain ⟨W, eW⟩ : ∃ W, rdecF b = W := ⟨_, rfl⟩
 rw [eW]
 have hP : 40 <= b.length -> b.length <= 1280 -> PkW P /\ P.2.length <= 1280 := fun h1 h2 => by
  rw [<- eP]
  refine ⟨pkF_w hb h1, ?_⟩
  rw [pkF_pay]
  split
  . rw [List.length_drop]; omega
  . rw [List.length_drop]; omega
 unfold rdecF at eW
 rw [eP, eR] at eW
 have hn : P.1.nxt = b.getD 6 default := by rw [<- eP]; exact pkF_nxt b
 refine pure_intro (wd := 1) (Q := mkQ LRp5) (by decide) tysOk (q_of LRp5_ok) mixed Tryz.func64 rfl _ (by show 1 <= _; decide) _ ?_
 repeat' (first | (apply And.intro <;> intro hc <;> (first | exact Bool.noConfusion hc | (simp only [zb0, ne_eq, not_true_eq_false] at hc <;> first | exact absurd rfl hc | skip) | skip)) | (refine And.intro zp1 ?_) | (apply And.intro) | (intro s hs; (first | (have q : s = (P, R) := (by (rw [hs]; dsimp only; rw [toL_b, eP, eR])); clear hs; subst q) | (have q : s = validP P := hs.trans (congrArg validP (pk_eq P _)); clear hs; subst q) | (have q : s = sumP P := hs.trans (congrArg sumP (pk_eq P _)); clear hs; subst q) | (have hE : s = encB P R := hs.trans (congrArg (fun x => encB x R) (pk_eq P _)); clear hs) | (have hS := hs; dsimp only at hS; rw [toL_b0, toL_b] at hS; clear hs) | skip)))
 all_goals
  try (have h6 : b.getD 6 default = 17 := by assumption)
  try (have h6 : ¬ b.getD 6 default = 17 := by assumption)
 all_goals first
  | (dsimp only; rw [toL_b]; exact hb)
  | (dsimp only; rw [toL_b]; omega)
  | exact rfl
  | exact Eq.mp (congrArg PkW (pk_eq P _).symm) (hP (by omega) (by omega)).1
  | (show (toL eB _ _).length <= _; rw [toL_len]; have := (hP (by omega) (by omega)).2; omega)
  | (have hq := encB_len P R; have hz := (hP (by omega) (by omega)).2; dsimp only; rw [toL_b0, hE]; unfold sizeP at hq; split at hq <;> omega)
  | exact hR.1
  | exact hR.2
  | (dsimp only; rw [toL_b]; intro h; omega)
  | (have e : W = (pk0, 3) := by rw [<- eW, if_pos (by omega)]
     rw [e]
     refine Done.mk (leF_tup ⟨leE_tail rfl (fun j hj => ?_) (leC_nils_sl rfl), leC_int rfl, trivial⟩)
     iterate 38 (rcases j with _ | j; exact leC_int rfl)
     exact absurd hj (by show ¬ _ < 38; omega))
  | (have e : W = (pk0, 4) := by rw [<- eW, if_neg (by omega), if_pos (by omega)]
     rw [e]
     refine Done.mk (leF_tup ⟨leE_tail rfl (fun j hj => ?_) (leC_nils_sl rfl), leC_int rfl, trivial⟩)
     iterate 38 (rcases j with _ | j; exact leC_int rfl)
     exact absurd hj (by show ¬ _ < 38; omega))
  | (have hv : validP P = false := by assumption
     have e : W = (pk0, 5) := by rw [<- eW, if_neg (by omega), if_neg (by omega), if_pos (.inl hv)]
     rw [e]
     refine Done.mk (leF_tup ⟨leE_tail rfl (fun j hj => ?_) (leC_nils_sl rfl), leC_int rfl, trivial⟩)
     iterate 38 (rcases j with _ | j; exact leC_int rfl)
     exact absurd hj (by show ¬ _ < 38; omega))
  | (have hv := of_decide_eq_false (hS.symm.trans (by assumption))
     rw [hE] at hv
     have e : W = (pk0, 5) := by rw [<- eW, if_neg (by omega), if_neg (by omega), if_pos (.inr hv)]
     rw [e]
     refine Done.mk (leF_tup ⟨leE_tail rfl (fun j hj => ?_) (leC_nils_sl rfl), leC_int rfl, trivial⟩)
     iterate 38 (rcases j with _ | j; exact leC_int rfl)
     exact absurd hj (by show ¬ _ < 38; omega))
  | (have hv := of_decide_eq_true (hS.symm.trans (by assumption))
     rw [hE] at hv
     have hvv : validP P = true := by assumption
     have n5 : ¬ (validP P = false \/ encB P R ≠ b) := fun h => h.elim (fun h => Bool.noConfusion (hvv.symm.trans h)) (fun h => h hv)
     first
      | (have e : W = (pk0, 6) := by rw [<- eW, if_neg (by omega), if_neg (by omega), if_neg n5, if_pos ⟨by omega, by assumption⟩]
         rw [e]
         refine Done.mk (leF_tup ⟨leE_tail rfl (fun j hj => ?_) (leC_nils_sl rfl), leC_int rfl, trivial⟩)
         iterate 38 (rcases j with _ | j; exact leC_int rfl)
         exact absurd hj (by show ¬ _ < 38; omega))
      | (have e : W = (P, 0) := by rw [<- eW, if_neg (by omega), if_neg (by omega), if_neg n5, if_neg (fun h => by first | exact h.2 (by assumption) | omega)]
         rw [e]
         refine Done.mk (leF_tup ⟨leE_tail rfl (fun j hj => ?_) (leC_sl (fun _ => rfl) rfl rfl fun i _ j _ => leC_int rfl), leC_int rfl, trivial⟩)
         iterate 38 (rcases j with _ | j; exact leC_int rfl)
         exact absurd hj (by show ¬ _ < 38; omega)))
  | skip
def LRp6 : CsL := (64, some decE) :: LRp5
theorem LRp6_ok : AllOk Tryz.prog LRp6 := ⟨pureE_ok ⟨_, Tryz.func64, rfl, by kernel_rfl⟩ fun a h => (rdec_eq h.1) ▸ rdecode_ok a.1 h.1 h.2, LRp5_ok⟩
def LRp7 : CsL := LRp6
theorem LRp7_ok : AllOk Tryz.prog LRp7 := LRp6_ok
theorem eqFrom_self {f : Nat -> CV} : ∀ (n off : Nat), (∀ i, i < n -> eqCell (f (off + i)) (f (off + i)) = true) -> eqFrom f f n off = true := fun n off h => eqFrom_iff.2 h
theorem ip_self (a : Fin 16 -> Int) (g : Nat -> CV) (h : ∀ j, j < 16 -> g j = .int .u8 (vget a j)) : eqFrom g g 16 0 = true := eqFrom_self 16 0 fun i hi => by
 rw [Nat.zero_add, h i hi]
 show (vget a i == vget a i) = true
 exact beq_self_eq_true _
theorem rsame_ok (p : Pkt) (hl : p.2.length <= 140737488355328) : PureOk Tryz.prog 37 [cPk.enc p, cPk.enc p] (cB.enc true) := by
 refine pure_intro (wd := 1) (Q := mkQ LRp7) (by decide) tysOk (q_of LRp7_ok) mixed Tryz.func37 rfl _ (by show 2 <= _; decide) _ ?_
 repeat' (first | (apply And.intro <;> intro hc <;> (first | exact Bool.noConfusion hc | (exfalso; first | exact absurd rfl hc | exact absurd (beq_self_eq_true _) (by rw [hc]; decide) | exact Bool.noConfusion ((ip_self p.1.src _ fun j hj => tailC_src (by omega) hj).symm.trans hc) | exact Bool.noConfusion ((ip_self p.1.dst _ fun j hj => tailC_dst (by omega) hj).symm.trans hc)) | (simp only [zb0, ne_eq, not_true_eq_false] at hc <;> first | exact absurd rfl hc | (exfalso; first | exact absurd rfl hc | exact absurd (beq_self_eq_true _) (by rw [hc]; decide) | exact Bool.noConfusion ((ip_self p.1.src _ fun j hj => tailC_src (by omega) hj).symm.trans hc) | exact Bool.noConfusion ((ip_self p.1.dst _ fun j hj => tailC_dst (by omega) hj).symm.trans hc)) | skip) | skip)) | (refine And.intro zp1 ?_) | (apply And.intro) | (intro s hs; skip))
 . exact fun _ => rfl
 . exact fun _ => rfl
 . dsimp only; rw [toL_b]; omega
 . have q : s = true := by
    rw [hs]
    dsimp only
    exact decide_eq_true rfl
   exact Done.mk (leF_bool q)
abbrev rsameE : Entry := pureE (AC.cons cPk (AC.cons cPk AC.nil)) (fun a => a.1 = a.2.1 /\ a.1.2.length <= 140737488355328) (fun a => true) cB.enc
def LRp : CsL := (37, some rsameE) :: LRp7
theorem LRp_ok : AllOk Tryz.prog LRp := ⟨pureE_ok ⟨_, Tryz.func37, rfl, by kernel_rfl⟩ fun a h => by
 obtain ⟨p, q, u⟩ := a
 obtain ⟨h1, h2⟩ := h
 have h1 : p = q := h1
 subst h1
 exact rsame_ok p h2, LRp7_ok⟩
theorem fin_mk {n : Nat} {l : List Int} {H : Hp} {g : Nat -> CV} {m : Nat} (cls flow nxt hops : Int) (src dst : Fin 16 -> Int) (sp dp : Int) (pay : List Int) (q : Int) (hm : m = 39)
 (hc : ∀ j, j < 38 -> LeC ⟨H, [(0, some (tapeN n (rI l) q))], [], 1, true⟩ (g j) (eHd.cell ⟨cls, flow, nxt, hops, src, dst, sp, dp⟩ j))
 (hl : LeC ⟨H, [(0, some (tapeN n (rI l) q))], [], 1, true⟩ (g 38) (slR eB pay))
 (hE : WkE ⟨H, [(0, some (tapeN n (rI l) q))], [], 1, true⟩ (tapeN n (rI l) q) (some 0)) (hT : TapeOk n (rI l) q) (hP : PkM (⟨cls, flow, nxt, hops, src, dst, sp, dp⟩, pay)) :
 ∃ r : Pkt × Int, (PkM r.1 /\ TapeOk n (rI l) r.2) /\ FinM (.e (tailR eHd eB r.1)) (tapeN n (rI l) r.2) (.e (.agg m g)) H :=
 ⟨((⟨cls, flow, nxt, hops, src, dst, sp, dp⟩, pay), q), ⟨hP, hT⟩, ⟨leF_e (leE_tail hm hc hl), hE⟩⟩
theorem sz_r (p : Pkt) (h : p.2.length = 0) : sizeP p = 40 \/ sizeP p = 48 := by
 unfold sizeP
 split <;> omega
theorem sz_eq (p : Pkt) (h : p.2.length = 0) : sizeP p = if p.1.nxt = 17 then 48 else 40 := by
 unfold sizeP
 rw [h]
 exact Int.add_zero _
theorem flow_r {s : Int} (h : 0 <= s /\ s < 1048576) : 0 <= IntKind.u32.wrap s /\ IntKind.u32.wrap s < 1048576 := by
 rw [IntWalk.u32_in s (by omega)]; exact h
theorem nff_tail {p : Pkt} : NFF (.e (tailR eHd eB p)) := nfE_tail
theorem fill_sz {nxt : Int} {zl : List Int} {z1 z0 : Int} {p : Pkt} (hz1 : z1 = sizeP p) (hp : p.2.length = 0) (hn : p.1.nxt = nxt) (h0 : 0 <= z0 /\ z0 < 2) (h : BL zl /\ (zl.length : Int) = IntKind.i64.wrap (IntKind.i64.wrap (1280 - z1) - z0)) : (if nxt = 17 then (48 : Int) else 40) + zl.length <= 1280 := by
 rw [sz_eq p hp, hn] at hz1
 have e1 : z1 = 40 \/ z1 = 48 := by rw [hz1]; split <;> omega
 have w1 : IntKind.i64.wrap (1280 - z1) = 1280 - z1 := IntWalk.i64_in _ (by omega)
 have w2 : IntKind.i64.wrap (1280 - z1 - z0) = 1280 - z1 - z0 := IntWalk.i64_in _ (by omega)
 have h2 := h.2
 rw [w1, w2] at h2
 rw [<- hz1]; omega
theorem byte_sz {nxt : Int} {zl : List Int} (h : BL zl /\ (zl.length : Int) <= 12) : (if nxt = 17 then (48 : Int) else 40) + zl.length <= 1280 := by
 have := h.2
 split <;> omega
theorem mc_no {a' : Fin 16 -> Int} {s : Bool} (hs : s = mcast a') (hc : s = false) : vget a' 0 ≠ 255 := by
 rw [hs] at hc
 unfold mcast at hc
 exact of_decide_eq_false hc
theorem zz256 : (0 : Int) <= 0 /\ (0 : Int) < 256 := by decide
theorem zzf : (0 : Int) <= 0 /\ (0 : Int) < 1048576 := by decide
theorem zz16 : (0 : Int) <= 0 /\ (0 : Int) < 65536 := by decide
theorem packet_ok (n : Nat) (l : List Int) (q : Int) (a1 a2 : Adr) (ht : TapeOk n (rI l) q) :
 ∃ (r : Pkt) (q' : Int), PkM r /\ TapeOk n (rI l) q' /\ MethOk Tryz.prog 8 [(cE eAdr).enc a1, (cE eAdr).enc a2] (tapeN n (rI l) q) (.e (tailR eHd eB r)) (tapeN n (rI l) q') := by
 refine tape_intro (S := PkM) (enc := fun r => .e (tailR eHd eB r)) (wd := 1) (Q := mkQ LM) (by decide) tysOk (q_of LM_ok) mixed Tryz.func8 rfl _ (by show 2 + 1 <= _; decide) (fun _ => nff_tail) ?_
 repeat' (first | (apply And.intro <;> intro hc <;> (first | exact Bool.noConfusion hc | (simp only [zb0] at hc) | skip)) | (refine And.intro zp1 ?_) | (apply And.intro) | (intro s hs))
 all_goals first
  | exact Nat.le_trans (Nat.le_of_eq (toL_len _ _ _)) (Nat.zero_le _)
  | (rename_i s1 hs1 s0 hs0
     have e1 : s1 = 40 \/ s1 = 48 := by rw [hs1]; exact sz_r _ rfl
     have e0 : 0 <= s0 /\ s0 < 2 := hs0
     have w1 : IntKind.i64.wrap (1280 - s1) = 1280 - s1 := IntWalk.i64_in _ (by omega)
     have w2 : IntKind.i64.wrap (1280 - s1 - s0) = 1280 - s1 - s0 := IntWalk.i64_in _ (by omega)
     first
      | (show 0 <= IntKind.i64.wrap (IntKind.i64.wrap (1280 - s1) - s0); rw [w1, w2]; omega)
      | (show IntKind.i64.wrap (IntKind.i64.wrap (1280 - s1) - s0) <= 2000; rw [w1, w2]; omega))
  | skip
 all_goals first
  | (apply fin_mk (src := setV _ 0 32)
     . rfl
     . intro j hj
       iterate 38 (rcases j with _ | j; exact leC_int rfl)
       exact absurd hj (by omega)
     . exact leC_sl (fun _ => rfl) rfl rfl fun i _ j _ => leC_int rfl
     . exact tapeN_le
     . assumption
     . apply pkM_mk
       . first | exact u8r _ | exact zz256
       . first | exact flow_r (by assumption) | exact zzf
       . exact pick5 0 _ _ _ _ _ (by omega) _
       . exact pick5 0 _ _ _ _ _ (by omega) _
       . exact setV_ok (by assumption) (by omega)
       . assumption
       . first | assumption | exact zz16
       . first | assumption | exact zz16
       . exact (show BL _ /\ _ from by assumption).1
       . show (32 : Int) ≠ 255; decide
       . first
          | exact byte_sz (by assumption)
          | (refine fill_sz (by assumption) ?_ ?_ (by assumption) (by assumption)
             . exact toL_len _ _ _
             . rfl)
       . first | exact .inl (by assumption) | exact .inr ⟨rfl, rfl⟩)
  | (apply fin_mk
     . rfl
     . intro j hj
       iterate 38 (rcases j with _ | j; exact leC_int rfl)
       exact absurd hj (by omega)
     . exact leC_sl (fun _ => rfl) rfl rfl fun i _ j _ => leC_int rfl
     . exact tapeN_le
     . assumption
     . apply pkM_mk
       . first | exact u8r _ | exact zz256
       . first | exact flow_r (by assumption) | exact zzf
       . exact pick5 0 _ _ _ _ _ (by omega) _
       . exact pick5 0 _ _ _ _ _ (by omega) _
       . assumption
       . assumption
       . first | assumption | exact zz16
       . first | assumption | exact zz16
       . exact (show BL _ /\ _ from by assumption).1
       . (have hmc := mc_no (by assumption) (by assumption); exact hmc)
       . first
          | exact byte_sz (by assumption)
          | (refine fill_sz (by assumption) ?_ ?_ (by assumption) (by assumption)
             . exact toL_len _ _ _
             . rfl)
       . first | exact .inl (by assumption) | exact .inr ⟨rfl, rfl⟩)
  | skip
abbrev packE : Entry := tapeE (AC.cons (cE eAdr) (AC.cons (cE eAdr) AC.nil)) (fun _ => True) (fun a (r : Pkt) => PkM r) (fun r => .e (tailR eHd eB r))
def LMp : CsL := (8, some packE) :: LM0
theorem LMp_ok : AllOk Tryz.prog LMp := ⟨tapeE_ok ⟨_, Tryz.func8, rfl, by kernel_rfl⟩ fun n l q a ht hp => packet_ok n l q a.1 a.2.1 ht, LM0_ok⟩
structure IsB (F : Nat -> Nat -> CV) (n : Nat) : Prop where
 at_ : ∀ k, k < n -> ∃ x, F k 0 = .int .u8 x /\ 0 <= x /\ x < 256
theorem encI_len (p : Pkt) (f t : Adr) (l : List Ctx) (now : Int) : (encI p f t l now).1.length <= 41 := by
 have h1 := uni_len p.1.src f true l now
 have h2 := dst_len p t l now
 have h3 := inl_len p
 unfold encI
 split
 . exact Nat.zero_le _
 . split
   . exact Nat.zero_le _
   . dsimp only
     rw [join_len]
     split <;> omega
theorem beVal_1 (x : Int) : beVal [x] = x := by
 have := beVal_snoc [] x
 rw [List.nil_append] at this
 rw [this]
 show beVal [] * 256 + x = x
 rw [show beVal [] = 0 from rfl]
 omega
theorem readD_r {b : List Int} {f t : Adr} {l : List Ctx} {now : Int} (h : RdOk b 0) : RdOk b (readD b f t l now).2 := by
 unfold readD
 refine thenD_r (startF_r h) fun s q h => thenD_r (fieldsD_r h) fun hh q h => thenD_r ?_ fun src q h => thenD_r ?_ fun d q h => h
 . unfold srcD
   exact ite_r (uniD_r h) h
 . unfold dstD
   exact ite_r (grpD_r h) (uniD_r h)
structure Dif (X Y : List Int) (x y : Int) : Prop where
 d : ∃ A B, X = A ++ x :: B /\ Y = A ++ y :: B
theorem Dif.left {X Y Z : List Int} {x y : Int} (h : Dif X Y x y) : Dif (Z ++ X) (Z ++ Y) x y := by
 obtain ⟨A, B, rfl, rfl⟩ := h.d
 exact ⟨Z ++ A, B, by simp, by simp⟩
theorem Dif.right {X Y Z : List Int} {x y : Int} (h : Dif X Y x y) : Dif (X ++ Z) (Y ++ Z) x y := by
 obtain ⟨A, B, rfl, rfl⟩ := h.d
 exact ⟨A, B ++ Z, by simp, by simp⟩
theorem Dif.set {X : List Int} {i : Nat} {y : Int} (h : i < X.length) : Dif X (X.set i y) (X.getD i default) y := by
 refine ⟨X.take i, X.drop (i + 1), ?_, ?_⟩
 . rw [<- drop_at h, List.take_append_drop]
 . rw [List.set_eq_take_append_cons_drop, if_pos h]
def s0 (t : Nat) : Int := if (65535 - (foldN t : Int)) = 0 then 65535 else 65535 - (foldN t : Int)
structure AdrW (a : Adr) : Prop where
 v : adrValid a = true
 short : 0 <= a.short /\ a.short < 65536
 eui : 0 <= a.eui /\ a.eui < 18446744073709551616
structure DevW (a : Adr) : Prop where
 s : adrSome a = true
 w : AdrW a
theorem wr16 (z : Int) : 0 <= IntKind.u16.wrap z /\ IntKind.u16.wrap z < 65536 := by
 simp only [IntKind.wrap, IntKind.signed, IntKind.bits]
 constructor
 . exact Int.emod_nonneg _ (by decide)
 . exact Int.emod_lt_of_pos _ (by decide)
theorem wr64 (z : Int) : 0 <= IntKind.u64.wrap z /\ IntKind.u64.wrap z < 18446744073709551616 := by
 simp only [IntKind.wrap, IntKind.signed, IntKind.bits]
 constructor
 . exact Int.emod_nonneg _ (by decide)
 . exact Int.emod_lt_of_pos _ (by decide)
theorem z16 : (0 : Int) <= 0 /\ (0 : Int) < 65536 := by decide
theorem z64 : (0 : Int) <= 0 /\ (0 : Int) < 18446744073709551616 := by decide
theorem dev_3 {e : Int} (h : 0 <= e /\ e < 18446744073709551616) : DevW ⟨3, 0, e⟩ := ⟨rfl, rfl, z16, h⟩
theorem dev_2 {e : Int} (h : 0 <= e /\ e < 65536) : DevW ⟨2, e, 0⟩ := ⟨rfl, rfl, h, z64⟩
theorem device2_ok (n : Nat) (l : List Int) (q : Int) (ht : TapeOk n (rI l) q) :
 ∃ (r : Adr) (q' : Int), DevW r /\ TapeOk n (rI l) q' /\ MethOk Tryz.prog 17 [] (tapeN n (rI l) q) ((cE eAdr).enc r) (tapeN n (rI l) q') := by
 refine tape_intro (wd := 1) (Q := mkQ LT1) (by decide) tysOk (q_of LT1_ok) mixed Tryz.func17 rfl _ (by show 0 + 1 <= _; decide) (nff_elem eAdr) ?_
 repeat' (first | (apply And.intro <;> intro hc <;> (first | exact Bool.noConfusion hc | (simp only [zb0] at hc) | skip)) | (refine And.intro zp1 ?_) | (apply And.intro) | (intro s hs))
 . exact ⟨(⟨3, 0, _⟩, _), ⟨dev_3 (wr64 _), by assumption⟩, ⟨leF_e (leE_all ⟨⟨⟨trivial, leC_int rfl⟩, leC_int rfl⟩, leC_int rfl⟩), tapeN_le⟩⟩
 . exact ⟨(⟨2, _, 0⟩, _), ⟨dev_2 (wr16 _), by assumption⟩, ⟨leF_e (leE_all ⟨⟨⟨trivial, leC_int rfl⟩, leC_int rfl⟩, leC_int rfl⟩), tapeN_le⟩⟩
abbrev dev2E : Entry := tapeE AC.nil (fun _ => True) (fun a (r : Adr) => DevW r) (cE eAdr).enc
def LT3 : CsL := (17, some dev2E) :: LT2
theorem LT3_ok : AllOk Tryz.prog LT3 := ⟨tapeE_ok ⟨_, Tryz.func17, rfl, by kernel_rfl⟩ fun n l q a ht hp => device2_ok n l q ht, LT2_ok⟩
theorem addr2_ok (n : Nat) (l : List Int) (q : Int) (ht : TapeOk n (rI l) q) :
 ∃ (r : Adr) (q' : Int), AdrW r /\ TapeOk n (rI l) q' /\ MethOk Tryz.prog 6 [] (tapeN n (rI l) q) ((cE eAdr).enc r) (tapeN n (rI l) q') := by
 refine tape_intro (wd := 1) (Q := mkQ LT3) (by decide) tysOk (q_of LT3_ok) mixed Tryz.func6 rfl _ (by show 0 + 1 <= _; decide) (nff_elem eAdr) ?_
 repeat' (first | (apply And.intro <;> intro hc <;> (first | exact Bool.noConfusion hc | (simp only [zb0] at hc) | skip)) | (refine And.intro zp1 ?_) | (apply And.intro) | (intro s hs))
 . exact ⟨(⟨2, 65535, 0⟩, _), ⟨(dev_2 (e := 65535) (by decide)).w, by assumption⟩, ⟨leF_e (leE_all ⟨⟨⟨trivial, leC_int rfl⟩, leC_int rfl⟩, leC_int rfl⟩), tapeN_le⟩⟩
 . exact ⟨(⟨0, 0, 0⟩, _), ⟨⟨rfl, z16, z64⟩, by assumption⟩, ⟨leF_e (leE_all ⟨⟨⟨trivial, leC_int rfl⟩, leC_int rfl⟩, leC_int rfl⟩), tapeN_le⟩⟩
 . rename_i r hr
   exact ⟨(r, _), ⟨hr.w, by assumption⟩, ⟨leF_e (leE_all ⟨⟨⟨trivial, leC_int rfl⟩, leC_int rfl⟩, leC_int rfl⟩), tapeN_le⟩⟩
abbrev addr2E : Entry := tapeE AC.nil (fun _ => True) (fun a (r : Adr) => AdrW r) (cE eAdr).enc
theorem valid_snoc {x : Ctx} (h1 : vpf (pfxOf x) = true) (h2 : vt x.til = true) (h3 : x.id < 16) : ∀ (L : List Ctx) (b : Int), validFrom b L = true -> (∀ c ∈ L, c.id < x.id) -> b < x.id -> validFrom b (L ++ [x]) = true := by
 intro L
 induction L with
 | nil => intro b _ _ hb; simp [validFrom, h1, h2, h3, hb]
 | cons c L ih =>
   intro b hv hid hb
   simp only [List.cons_append, validFrom, Bool.and_eq_true] at hv ⊢
   exact ⟨hv.1, ih c.id hv.2 (fun d hd => hid d (List.mem_cons_of_mem _ hd)) (hid c (List.mem_cons_self ..))⟩
structure madeL (L : List Ctx) : Prop where
 v : validT L = true
 n : L.length <= 16
 b : ∀ c ∈ L, byteOk c.ip
structure CtxS (n : Nat) (l : List Int) where
 i : Nat
 L : List Ctx
 q : Int
 hi : i <= 16
 hv : validT L = true
 hid : ∀ c ∈ L, c.id < i
 hn : L.length <= i
 hb : ∀ c ∈ L, byteOk c.ip
 ht : TapeOk n (rI l) q
theorem nff_slR {L : List Ctx} : NFF (.e (.c (slR eCtx L))) := nff_c (nf_sl fun i _ j _ => (eCtx.flat _ _).nf)
theorem contexts_ok (n : Nat) (l : List Int) (q : Int) (ht : TapeOk n (rI l) q) :
 ∃ (r : List Ctx) (q' : Int), madeL r /\ TapeOk n (rI l) q' /\ MethOk Tryz.prog 7 [] (tapeN n (rI l) q) (.e (.c (slR eCtx r))) (tapeN n (rI l) q') := by
 refine tape_intro (enc := fun r => .e (.c (slR eCtx r))) (wd := 1) (Q := mkQ LT2) (by decide) tysOk (q_of LT2_ok) mixed Tryz.func7 rfl _ (by show 0 + 1 <= _; decide) (fun _ => nff_slR) ?_
 refine loop_intro (mono_of LT2_ok) (fun s : CtxS n l => (⟨[(0, one (.ptr 0 0 0 false)), (3, one (.os 7 0 s.L.length)), (4, one (.int .i64 (s.i : Int)))],
  [(0, some (tapeN n (rI l) s.q)), (7, some (ents eCtx 60 s.L))], 8⟩ : Hd)) (fun s => 16 - s.i) (fun _ => rfl) ?_ ⟨0, [], q, by omega, rfl, by simp, by simp, by simp, ht⟩ [(7, none)] ?_
 . rintro ⟨i, L, q1, hi, hv, hid, hn, hb, ht1⟩
   dsimp only at hi hv hid hn hb ⊢
   repeat' (first | (apply And.intro <;> intro hc <;> (first | exact Bool.noConfusion hc | (simp only [zb0] at hc) | skip)) | (refine And.intro zp1 ?_) | (apply And.intro) | (intro s hs))
   . rename_i sb hsb sq1 hsq1 p hp sq2 hsq2 v hv' sq3 hsq3 u hu
     have hu' : 0 <= u /\ u < 50 := hu
     refine ⟨⟨i + 1, L ++ [⟨i, p.ip, p.bits, decide (0 < v), u⟩], _, by omega, ?_, ?_, by simp; omega, ?_, hs⟩, [(7, some 23)], by dsimp only; omega, rfl, ?_, ?_⟩
     . refine valid_snoc ?_ ?_ ?_ L (-1) hv hid ?_
       . exact hp.1
       . simp [vt]; omega
       . show (i : Int) < 16; omega
       . show (-1 : Int) < i; omega
     . intro c hc
       rcases List.mem_append.1 hc with h | h
       . have := hid c h; omega
       . rw [List.mem_singleton.1 h]; show (i : Int) < ((i + 1 : Nat) : Int); omega
     . intro c hc
       rcases List.mem_append.1 hc with h | h
       . exact hb c h
       . rw [List.mem_singleton.1 h]; exact hp.2
     . repeat' (first | exact zw0 | refine leF_int ?_ | refine leF_bool ?_ | exact zw1 | apply And.intro)
       . exact leF_c (leC_os rfl (by simp))
       . refine (IntWalk.i64_in _ ?_).trans ?_
         . constructor <;> omega
         . dsimp only
           omega
     . repeat' (first | exact zw0 | refine leF_int ?_ | refine leF_bool ?_ | exact zw1 | apply And.intro)
       . exact tapeN_le
       . (change LeN _ _ _; refine leN_snoc (E := eCtx) (L := L) (x := ⟨i, p.ip, p.bits, decide (0 < v), u⟩) rfl (fun i hi j hj => selC_in (Nat.ble_eq_true_of_le hi) (Elem.flat _ _ _).le) ?_; repeat' (first | exact trivial | (refine selC_out (blt_self _) ?_; rw [Nat.sub_self]; first | exact leC_int rfl | exact leC_bool rfl | exact leC_bool (by assumption)) | apply And.intro))
   . refine ⟨⟨i + 1, L, _, by omega, hv, fun c hc => by have := hid c hc; omega, by omega, hb, hs⟩, [], by dsimp only; omega, rfl, ?_, ?_⟩
     . repeat' (first | exact zw0 | refine leF_int ?_ | refine leF_bool ?_ | exact zw1 | apply And.intro)
       refine (IntWalk.i64_in _ ?_).trans ?_
       . constructor <;> omega
       . dsimp only
         omega
     . repeat' (first | exact zw0 | refine leF_int ?_ | refine leF_bool ?_ | exact zw1 | apply And.intro)
       . exact tapeN_le
       . exact leN_ents
   . exact ⟨(L, q1), ⟨⟨hv, (show L.length <= 16 by omega), hb⟩, ht1⟩, ⟨leF_c (leC_row_fin rfl rfl), tapeN_le⟩⟩
 . refine ⟨rfl, ?_, ?_⟩
   . repeat' (first | exact zw0 | refine leF_int ?_ | refine leF_bool ?_ | exact zw1 | apply And.intro)
     exact leF_c (leC_nils_os rfl)
   . repeat' (first | exact zw0 | refine leF_int ?_ | refine leF_bool ?_ | exact zw1 | apply And.intro)
     . exact tapeN_le
     . exact eCtx_sz
abbrev ctxsE : Entry := tapeE AC.nil (fun _ => True) (fun a (r : List Ctx) => madeL r) (fun r => .e (.c (slR eCtx r)))
def LT4 : CsL := (6, some addr2E) :: (7, some ctxsE) :: LT3
theorem LT4_ok : AllOk Tryz.prog LT4 := ⟨tapeE_ok ⟨_, Tryz.func6, rfl, by kernel_rfl⟩ fun n l q a ht hp => addr2_ok n l q ht, tapeE_ok ⟨_, Tryz.func7, rfl, by kernel_rfl⟩ fun n l q a ht hp => contexts_ok n l q ht, LT3_ok⟩
def k1 : Adr := ⟨2, 1, 0⟩
def k2 : Adr := ⟨2, 2, 0⟩
theorem k_link1 : linkF k1 = (jn llP.ip 1099478073345, true) := rfl
theorem k_link2 : linkF k2 = (jn llP.ip 1099478073346, true) := rfl
theorem k_enc : encI (hP 64 (jn llP.ip 1099478073345) (jn llP.ip 1099478073346)) k1 k2 [] 0 = ([126, 51], 0) := by decide +kernel
theorem bytes_nil : bytesL [] := ⟨(fun c h => by cases h), Nat.zero_le _⟩
def LIe : CsL := (44, some enIE) :: (LT4 ++ (LMp ++ (LRa ++ LAd)))
theorem LIe_ok : AllOk Tryz.prog LIe := ⟨enIE_ok, append_ok LT4_ok (append_ok LMp_ok (append_ok LRa_ok LAd_ok))⟩
def half (x : Int) : Bool := decide (61616 <= x) && decide (x < 61632)
def byt (x : Int) : Bool := decide (61440 <= x) && decide (x < 61696)
theorem half_iff {x : Int} : half x = true ↔ 61616 <= x /\ x < 61632 := by unfold half; simp
theorem byt_iff {x : Int} : byt x = true ↔ 61440 <= x /\ x < 61696 := by unfold byt; simp
def portsF (s d : Int) : List Int :=
 if half s = true /\ half d = true then [243, (s - 61616) * 16 + (d - 61616)]
 else if byt d = true then [241, s / 256 % 256, s % 256, d - 61440]
 else if byt s = true then [242, s - 61440, d / 256 % 256, d % 256]
 else [240, s / 256 % 256, s % 256, d / 256 % 256, d % 256]
def udpF (p : Pkt) : List Int := portsF p.1.sp p.1.dp ++ beB (sumP p) 2
def encC (p : Pkt) (f t : Adr) (l : List Ctx) (now : Int) : List Int × Int :=
 if (encI p f t l now).2 = 0 then ((encI p f t l now).1 ++ ((if p.1.nxt = 17 then udpF p else []) ++ p.2), 0) else ([], (encI p f t l now).2)
def plainZ (p : Pkt) : List Int × Int := if validP p = true then (65 :: encB p (sumP p), 0) else ([], 1)
def gB (r : List Int) (i : Nat) : Int := r.getD i default
def pN (k : Int) : Nat := if k = 0 then 4 else if k = 3 then 1 else 3
def pB (k : Int) (r : List Int) : List Int :=
 if k = 0 then [gB r 1, gB r 2, gB r 3, gB r 4] else if k = 1 then [gB r 1, gB r 2, 240, gB r 3] else if k = 2 then [240, gB r 1, gB r 2, gB r 3] else [240, 176 + gB r 1 / 16, 240, 176 + gB r 1 % 16]
def rdU (k : Int) (r : List Int) : (Int × Int) × Int × Int :=
 ((gB (pB k r) 0 * 256 + gB (pB k r) 1, gB (pB k r) 2 * 256 + gB (pB k r) 3), gB r (1 + pN k) * 256 + gB r (2 + pN k), (pN k + 3 : Int))
def udpD (r : List Int) : ((Int × Int) × Int × Int) × Int :=
 if r.length = 0 then (((0, 0), 0, 0), 4) else if gB r 0 < 240 \/ 243 < gB r 0 then (((0, 0), 0, 0), 5)
 else if r.length < pN (gB r 0 - 240) + 3 then (((0, 0), 0, 0), 4) else (rdU (gB r 0 - 240) r, 0)
def finC (p : Pkt) (sum : Int) : Pkt × Int := if 1280 < sizeP p then (pk0, 3) else if p.1.nxt = 17 /\ sum ≠ sumP p then (pk0, 6) else (p, 0)
def restC (h : Hdr) (r : List Int) : Pkt × Int :=
 if h.nxt = 17 then (if (udpD r).2 = 0 then finC ({ h with sp := (udpD r).1.1.1, dp := (udpD r).1.1.2 }, r.drop (udpD r).1.2.2.toNat) (udpD r).1.2.1 else (pk0, (udpD r).2)) else finC (h, r) 0
def decC (b : List Int) (f t : Adr) (l : List Ctx) (now : Int) : Pkt × Int :=
 if b.length = 0 then (pk0, 4) else if gB b 0 = 65 then decF (b.drop 1)
 else if (decI b f t l now).2 = 0 then restC (decI b f t l now).1.1.1 (b.drop (decI b f t l now).1.2.toNat) else (pk0, (decI b f t l now).2)
theorem ports_len (s d : Int) : 2 <= (portsF s d).length /\ (portsF s d).length <= 5 := by
 unfold portsF
 split
 . exact ⟨by simp, by simp⟩
 . split
   . exact ⟨by simp, by simp⟩
   . split
     . exact ⟨by simp, by simp⟩
     . exact ⟨by simp, by simp⟩
theorem udp_len (p : Pkt) : (udpF p).length = (portsF p.1.sp p.1.dp).length + 2 := by
 unfold udpF
 rw [List.length_append, beB2]; rfl
theorem encC_ok {p : Pkt} {f t : Adr} {l : List Ctx} {now : Int} (hp : validP p = true) (hf : adrValid f = true) (ht : adrValid t = true) (hl : validT l = true) (hn : vt now = true) : encC p f t l now = ((encI p f t l now).1 ++ ((if p.1.nxt = 17 then udpF p else []) ++ p.2), 0) := by
 unfold encC
 rw [if_pos (by rw [encI_ok hp hf ht hl hn])]
theorem tail_len {p : Pkt} : ((if p.1.nxt = 17 then udpF p else []) ++ p.2).length <= 7 + p.2.length := by
 rw [List.length_append]
 split
 . rw [udp_len]; have := (ports_len p.1.sp p.1.dp).2; omega
 . simp
def lX : Fin 16 -> Int := jn llP.ip 1099478073345
def lY : Fin 16 -> Int := jn llP.ip 1099478073346
def locP (s d : Int) (b : List Int) : Pkt := (⟨0, 0, 17, 64, lX, lY, s, d⟩, b)
theorem lX_b : byteOk lX := jn_ok llP_b _
theorem lY_b : byteOk lY := jn_ok llP_b _
theorem lX_0 : vget lX 0 = 254 := by decide +kernel
theorem locP_m {s d : Int} {b : List Int} (hs : 0 <= s /\ s < 65536) (hd : 0 <= d /\ d < 65536) (hb : BL b) (hbl : b.length <= 100) : PkM (locP s d b) :=
 pkM_mk (by decide) (by decide) (by decide) (by decide) lX_b lY_b hs hd hb (by rw [lX_0]; decide) (by rw [if_pos rfl]; omega) (.inl rfl)
theorem k_val : adrValid k1 = true /\ adrValid k2 = true := by decide
theorem locP_I {s d : Int} {b : List Int} (hs : 0 <= s /\ s < 65536) (hd : 0 <= d /\ d < 65536) (hb : BL b) (hbl : b.length <= 100) : encI (locP s d b) k1 k2 [] 0 = ([126, 51], 0) := by
 rw [encI_ok (locP_m hs hd hb hbl).v k_val.1 k_val.2 rfl rfl, <- k_enc]
 rw [encI_ok (hP_v (by show vget lX 0 ≠ 255; rw [lX_0]; decide)) k_val.1 k_val.2 rfl rfl]
 rfl
theorem locP_C {s d : Int} {b : List Int} (hs : 0 <= s /\ s < 65536) (hd : 0 <= d /\ d < 65536) (hb : BL b) (hbl : b.length <= 100) : encC (locP s d b) k1 k2 [] 0 = ([126, 51] ++ ((portsF s d ++ beB (sumP (locP s d b)) 2) ++ b), 0) := by
 rw [encC_ok (locP_m hs hd hb hbl).v k_val.1 k_val.2 rfl rfl, locP_I hs hd hb hbl]
 rfl
def H0 : Hdr := (locP 0 0 []).1
theorem thenD_q {α β : Type} {P : α -> Prop} {R : β -> Prop} {x : RD α} {z : β} {f : α -> Int -> RD β} (hx : P x.1.1) (hz : R z) (hf : ∀ v q, P v -> R (f v q).1.1) : R (thenD x z f).1.1 := by
 unfold thenD
 split
 . exact hf _ _ hx
 . exact hz
abbrev by8 (v : Int) : Prop := 0 <= v /\ v < 256
structure HdW (h : Hdr) : Prop where
 cls : by8 h.cls
 flow : 0 <= h.flow /\ h.flow < 4294967296
 nxt : by8 h.nxt
 hops : by8 h.hops
 sp : h.sp = 0
 dp : h.dp = 0
structure HdO (h : Hdr) : Prop where
 w : HdW h
 src : byteOk h.src
 dst : byteOk h.dst
theorem zA_b : byteOk zeroA := ⟨fun q => ⟨Int.le_refl 0, (by decide : (0 : Int) < 256)⟩⟩
theorem zH_w : HdW zeroH := ⟨by decide, by decide, by decide, by decide, rfl, rfl⟩
theorem zH_o : HdO zeroH := ⟨zH_w, zA_b, zA_b⟩
theorem hop_w8 (x : Int) : by8 (hopV x) := by
 unfold hopV by8
 split
 . decide
 . split
   . decide
   . split <;> decide
theorem fieldsD_w {b : List Int} {x q : Int} (hb : BL b) : HdW (fieldsD b x q).1.1 := by
 unfold fieldsD
 refine thenD_q (P := by8) (R := HdW) (ite_p (P := by8) (num1_v hb) (show by8 0 by decide)) zH_w fun c q hc => ?_
 refine thenD_q (P := fun v => 0 <= v /\ v < 16777216) (R := HdW) (ite_p (P := fun v : Int => 0 <= v /\ v < 16777216) (num3_v hb) (show (0 : Int) <= 0 /\ (0 : Int) < 16777216 by decide)) zH_w fun fl q hf => ite_p (P := HdW) zH_w ?_
 refine thenD_q (P := by8) (R := HdW) (ite_p (P := by8) (num1_v hb) (show by8 17 by decide)) zH_w fun nx q hn => ite_p (P := HdW) zH_w ?_
 refine thenD_q (P := by8) (R := HdW) (ite_p (P := by8) (num1_v hb) (hop_w8 _)) zH_w fun hp q hh => ?_
 exact ⟨hc, ⟨hf.1, by dsimp only; omega⟩, hn, hh, rfl, rfl⟩
theorem ipRF_w {b : List Int} {q : Int} (hb : BL b) : byteOk (ipRF b q).1.1 := by
 unfold ipRF
 split
 . exact zA_b
 . exact ⟨fun i => hb.get _⟩
theorem findDec_b {id now : Int} : ∀ {l : List Ctx}, (∀ c ∈ l, byteOk c.ip) -> byteOk (findDec id now l).1.ip := by
 intro l
 induction l with
 | nil => intro _; exact zA_b
 | cons c l ih =>
   intro h
   unfold findDec
   split
   . exact h c (List.mem_cons_self ..)
   . exact ih fun d hd => h d (List.mem_cons_of_mem _ hd)
theorem forDec_b {l : List Ctx} (hl : bytesL l) (id now : Int) : byteOk (forDec l id now).1.ip := by
 unfold forDec
 split
 . exact findDec_b hl.b
 . exact zA_b
theorem uniD_w {b : List Int} {c : Bool} {m q : Int} {k : Adr} {C : Ctx × Bool} (hb : BL b) (hC : byteOk C.1.ip) : byteOk (uniD b c m k C q).1.1 := by
 have hp : byteOk (prefD c C).ip := by
  unfold prefD
  split
  . exact hC
  . exact llP_b
 unfold uniD uniV
 refine ite_p (P := byteOk) zA_b (ite_p (P := byteOk) zA_b (ite_p (P := byteOk) zA_b (thenD_q (P := byteOk) (R := byteOk) (ite_p (P := byteOk) (ipRF_w hb) (ite_p (P := byteOk) (thenD_p (P := byteOk) zA_b fun v q => jn_ok hp _) (ite_p (P := byteOk) (thenD_p (P := byteOk) zA_b fun v q => jn_ok hp _) (jn_ok hp _)))) zA_b fun a q ha => ite_p (P := byteOk) zA_b ha)))
theorem grpV_w {n : Nat} {w : List Int} (h : BL w) : byteOk (grpV n w) := ⟨fun i => by
 unfold grpV
 split
 . decide
 . split
   . split
     . decide
     . exact h.get _
   . split
     . decide
     . exact h.get _⟩
theorem grpD_w {b : List Int} {m q : Int} (hb : BL b) : byteOk (grpD b m q).1.1 := by
 unfold grpD
 exact ite_p (P := byteOk) (thenD_q (P := byteOk) (R := byteOk) (ipRF_w hb) zA_b fun a q ha => ite_p (P := byteOk) ha ha) (thenD_p (P := byteOk) zA_b fun v q => grpV_w ((hb.drop _).take _))
theorem readD_w {b : List Int} {f t : Adr} {l : List Ctx} {now : Int} (hb : BL b) (hl : bytesL l) : HdO (readD b f t l now).1.1 := by
 unfold readD
 refine thenD_p (P := HdO) zH_o fun s q => thenD_q (P := HdW) (R := HdO) (fieldsD_w hb) zH_o fun h q hh => thenD_q (P := byteOk) (R := HdO) ?_ zH_o fun x q hx => thenD_q (P := byteOk) (R := HdO) ?_ zH_o fun y q hy => ⟨⟨hh.cls, hh.flow, hh.nxt, hh.hops, hh.sp, hh.dp⟩, hx, hy⟩
 . unfold srcD
   exact ite_p (P := byteOk) (uniD_w hb (forDec_b hl _ _)) zA_b
 . unfold dstD
   exact ite_p (P := byteOk) (grpD_w hb) (uniD_w hb (forDec_b hl _ _))
theorem decI_w {b : List Int} {f t : Adr} {l : List Ctx} {now : Int} (hb : BL b) (hbl : b.length <= 140737488355328) (hl : bytesL l) : HdO (decI b f t l now).1.1.1 /\ 0 <= (decI b f t l now).1.2 /\ (decI b f t l now).1.2 <= b.length := by
 have r0 : RdOk b 0 := ⟨hb, hbl, Int.le_refl 0, Int.natCast_nonneg _⟩
 have h1 : RdOk b (readD b f t l now).2 := readD_r r0
 have h2 : HdO (readD b f t l now).1.1 := readD_w hb hl
 unfold decI
 split
 . exact ⟨zH_o, Int.le_refl 0, Int.natCast_nonneg _⟩
 . split
   . exact ⟨h2, h1.lo, h1.hi⟩
   . exact ⟨zH_o, Int.le_refl 0, Int.natCast_nonneg _⟩
theorem gB_r {b : List Int} (h : BL b) (i : Nat) : 0 <= gB b i /\ gB b i < 256 := h.get i
theorem udpD_w {r : List Int} (hr : BL r) : (0 <= (udpD r).1.1.1 /\ (udpD r).1.1.1 < 65536) /\ (0 <= (udpD r).1.1.2 /\ (udpD r).1.1.2 < 65536) /\ (0 <= (udpD r).1.2.1 /\ (udpD r).1.2.1 < 65536) := by
 have g := gB_r hr
 unfold udpD
 split
 . exact ⟨by decide, by decide, by decide⟩
 . split
   . exact ⟨by decide, by decide, by decide⟩
   . split
     . exact ⟨by decide, by decide, by decide⟩
     . have hp : ∀ i, i < 4 -> 0 <= gB (pB (gB r 0 - 240) r) i /\ gB (pB (gB r 0 - 240) r) i < 256 := by
        have q0 := g 1
        have q1 := g 2
        have q2 := g 3
        have q3 := g 4
        intro i hi
        unfold pB
        split
        . rcases i with _ | _ | _ | _ | i <;> first | assumption | omega
        . split
          . rcases i with _ | _ | _ | _ | i <;> first | assumption | (show (0 : Int) <= 240 /\ (240 : Int) < 256; omega) | omega
          . split
            . rcases i with _ | _ | _ | _ | i <;> first | assumption | (show (0 : Int) <= 240 /\ (240 : Int) < 256; omega) | omega
            . rcases i with _ | _ | _ | _ | i
              . show (0 : Int) <= 240 /\ (240 : Int) < 256; omega
              . show 0 <= 176 + gB r 1 / 16 /\ 176 + gB r 1 / 16 < 256; omega
              . show (0 : Int) <= 240 /\ (240 : Int) < 256; omega
              . show 0 <= 176 + gB r 1 % 16 /\ 176 + gB r 1 % 16 < 256; omega
              . omega
       have h0 := hp 0 (by decide)
       have h1 := hp 1 (by decide)
       have h2 := hp 2 (by decide)
       have h3 := hp 3 (by decide)
       have h4 := g (1 + pN (gB r 0 - 240))
       have h5 := g (2 + pN (gB r 0 - 240))
       unfold rdU
       dsimp only
       omega
theorem udpD_n {r : List Int} (hr : BL r) (h : (udpD r).2 = 0) : 4 <= (udpD r).1.2.2 /\ (udpD r).1.2.2 <= r.length := by
 unfold udpD at h ⊢
 split at h
 . exact absurd (show (4 : Int) = 0 from h) (by decide)
 . split at h
   . exact absurd (show (5 : Int) = 0 from h) (by decide)
   . split at h
     . exact absurd (show (4 : Int) = 0 from h) (by decide)
     . rename_i h1 h2 h3
       rw [if_neg h1, if_neg h2, if_neg h3]
       show (4 : Int) <= (pN (gB r 0 - 240) : Int) + 3 /\ (pN (gB r 0 - 240) : Int) + 3 <= r.length
       have : 1 <= pN (gB r 0 - 240) := by
        unfold pN
        split
        . decide
        . split <;> decide
       omega
theorem pkw_of {h : Hdr} {r : List Int} (hh : HdO h) (hr : BL r) {s d : Int} (hs : 0 <= s /\ s < 65536) (hd : 0 <= d /\ d < 65536) : PkW ({ h with sp := s, dp := d }, r) :=
 ⟨hh.w.cls, hh.w.flow, hh.w.nxt, hh.w.hops, fun i => hh.src.v i, fun i => hh.dst.v i, hs, hd, hr⟩
def wthF (x f c : Int) : Bool := decide (f <= x) && decide (x < f + c)
theorem wth_half (x : Int) : wthF x 61616 16 = half x := rfl
theorem wth_byt (x : Int) : wthF x 61440 256 = byt x := rfl
theorem wth_ok (x f c : Int) (hx : 0 <= x /\ x < 65536) (hf : 0 <= f /\ f <= 65536) (hc : 0 <= c /\ c <= 65536) : PureOk Tryz.prog 76 [(cI .u16).enc x, (cI .i64).enc f, (cI .i64).enc c] (cB.enc (wthF x f c)) := by
 have w1 : IntKind.i64.wrap x = x := IntWalk.i64_in _ (by omega)
 have w2 : IntKind.i64.wrap (f + c) = f + c := IntWalk.i64_in _ (by omega)
 unfold wthF
 refine pure_intro (wd := 1) (Q := mkQ LE0) (by decide) tysOk (q_of LE0_ok) mixed Tryz.func76 rfl _ (by show 3 <= _; decide) _ ?_
 repeat' (first | (apply And.intro <;> intro hc <;> (first | exact Bool.noConfusion hc | (simp only [zb0] at hc) | skip)) | (refine And.intro zp1 ?_) | (apply And.intro) | (intro s hs))
 . rw [w1] at hc
   refine Done.mk (leF_bool ?_)
   show decide (IntKind.i64.wrap x < IntKind.i64.wrap (f + c)) = (decide (f <= x) && decide (x < f + c))
   rw [w1, w2, decide_eq_true hc]; rfl
 . rw [w1] at hc
   refine Done.mk (leF_bool ?_)
   show false = (decide (f <= x) && decide (x < f + c))
   rw [decide_eq_false hc]; rfl
abbrev wthE : Entry := pureE (AC.cons (cI .u16) (AC.cons (cI .i64) (AC.cons (cI .i64) AC.nil))) (fun a => (0 <= a.1 /\ a.1 < 65536) /\ (0 <= a.2.1 /\ a.2.1 <= 65536) /\ 0 <= a.2.2.1 /\ a.2.2.1 <= 65536) (fun a => wthF a.1 a.2.1 a.2.2.1) cB.enc
def LCa0 : CsL := (78, some oappE) :: []
theorem LCa0_ok : AllOk Tryz.prog LCa0 := ⟨oappE_ok, trivial⟩
def adE : Entry := inlE T (mkQ LCa0) 1 Tryz.f77.ntmps Tryz.f77.results.toList (Tryz.f77.body.getD Code.ret)
theorem adE_ok : EntOk Tryz.prog 77 adE := inlE_ok (by decide) tysOk (q_of LCa0_ok) (mono_of LCa0_ok) mixed Tryz.func77 rfl rfl
def LCa : CsL := (76, some wthE) :: (77, some adE) :: (63, some sumE) :: []
theorem LCa_ok : AllOk Tryz.prog LCa := ⟨pureE_ok ⟨_, Tryz.func76, rfl, by kernel_rfl⟩ fun a h => wth_ok a.1 a.2.1 a.2.2.1 h.1 h.2.1 h.2.2, adE_ok, pureE_ok ⟨_, Tryz.func63, rfl, by kernel_rfl⟩ fun a h => psum_ok a.1 h.1 h.2, trivial⟩
theorem ports_3 {s d : Int} (h1 : half s = true) (h2 : half d = true) : portsF s d = [243, (s - 61616) * 16 + (d - 61616)] := if_pos ⟨h1, h2⟩
theorem ports_1 {s d : Int} (h : ¬ (half s = true /\ half d = true)) (h1 : byt d = true) : portsF s d = [241, s / 256 % 256, s % 256, d - 61440] := by unfold portsF; rw [if_neg h, if_pos h1]
theorem ports_2 {s d : Int} (h : ¬ (half s = true /\ half d = true)) (h1 : byt d = false) (h2 : byt s = true) : portsF s d = [242, s - 61440, d / 256 % 256, d % 256] := by unfold portsF; rw [if_neg h, if_neg (by rw [h1]; decide), if_pos h2]
theorem ports_0 {s d : Int} (h : ¬ (half s = true /\ half d = true)) (h1 : byt d = false) (h2 : byt s = false) : portsF s d = [240, s / 256 % 256, s % 256, d / 256 % 256, d % 256] := by unfold portsF; rw [if_neg h, if_neg (by rw [h1]; decide), if_neg (by rw [h2]; decide)]
theorem ap_eq {s l l' w : List Int} {v v' n : Int} (hs : s = l' ++ beB v' n) (h1 : l' = l) (h2 : v' = v) (h3 : beB v n = w) : s = l ++ w := by rw [hs, h1, h2, h3]
theorem aud_3 (b : List Int) (p : Pkt) (hbl : b.length <= 70368744170000) (hp : PkW p) (hpl : p.2.length <= 140737488355328) (h1 : half p.1.sp = true) (h2 : half p.1.dp = true) : NewOk Tryz.prog 45 [(cSl eB eB_sz).enc b, cPk.enc p] (some (b ++ udpF p).length) none (ents eB 5 (b ++ udpF p)) := by
 obtain ⟨M, eM⟩ : ∃ M, sumP p = M := ⟨_, rfl⟩
 have hM := sumP_r p
 rw [eM] at hM
 have hsp := hp.sp
 have hdp := hp.dp
 have b1 := half_iff.1 h1
 have b2 := half_iff.1 h2
 have wS : IntKind.u64.wrap p.1.sp = p.1.sp := IntWalk.u64_in _ (by omega)
 have wD : IntKind.u64.wrap p.1.dp = p.1.dp := IntWalk.u64_in _ (by omega)
 have wM : IntKind.u64.wrap M = M := IntWalk.u64_in _ (by omega)
 have wX : IntKind.u64.wrap (IntKind.u64.wrap (IntKind.u64.wrap (IntKind.u64.wrap (IntKind.u64.wrap p.1.sp - 61616) * 16) + IntKind.u64.wrap p.1.dp) - 61616) = (p.1.sp - 61616) * 16 + (p.1.dp - 61616) := by
  simp (disch := omega) only [IntWalk.u64_in]
  try omega
 obtain ⟨B1, e1⟩ : ∃ x, b ++ [243] = x := ⟨_, rfl⟩
 have l1 : B1.length = b.length + 1 := by rw [<- e1, List.length_append]; rfl
 obtain ⟨B2, e2⟩ : ∃ x, B1 ++ [(p.1.sp - 61616) * 16 + (p.1.dp - 61616)] = x := ⟨_, rfl⟩
 have l2 : B2.length = B1.length + 1 := by rw [<- e2, List.length_append]; rfl
 obtain ⟨B3, e3⟩ : ∃ x, B2 ++ beB M 2 = x := ⟨_, rfl⟩
 have l3 : B3.length = B2.length + 2 := by rw [<- e3, List.length_append, beB2]; rfl
 have eF : b ++ udpF p = B3 := by
  unfold udpF
  rw [eM, ports_3 h1 h2, <- e3, <- e2, <- e1]
  simp only [List.append_assoc, List.cons_append, List.nil_append]
 rw [eF]
 have g0 : True := trivial
 have g1 : True := trivial
 have g2 : True := trivial
 refine new_intro (wd := 64) (Q := mkQ LCa) (by decide) tysOk (q_of LCa_ok) mixed Tryz.func45 rfl _ (by show 2 <= _; decide) (fun i _ j _ => row_nf eB _ i j) ?_
 repeat' (first | (apply And.intro <;> intro hc <;> (first | exact Bool.noConfusion hc | (exfalso; first | exact absurd hc (by assumption) | exact absurd (by assumption) hc | exact Bool.noConfusion (hc.symm.trans h1) | exact Bool.noConfusion (hc.symm.trans h2)) | (simp only [zb0, ne_eq, not_true_eq_false] at hc <;> first | exact absurd rfl hc | (exfalso; first | exact absurd hc (by assumption) | exact absurd (by assumption) hc | exact Bool.noConfusion (hc.symm.trans h1) | exact Bool.noConfusion (hc.symm.trans h2)) | skip) | skip)) | (refine And.intro zp1 ?_) | (apply And.intro) | (intro s hs; (first | (have q : s = half p.1.sp := hs.trans (wth_half _); clear hs; subst q) | (have q : s = half p.1.dp := hs.trans (wth_half _); clear hs; subst q) | (have q : s = byt p.1.sp := hs.trans (wth_byt _); clear hs; subst q) | (have q : s = byt p.1.dp := hs.trans (wth_byt _); clear hs; subst q) | (have q : M = s := (hs.trans ((congrArg sumP (pk_eq p _)).trans eM)).symm; clear hs; subst q) | (clear g0; have q : B1 = s := ((ap_eq (v := 243) (n := 1) hs (toL_b b) rfl (beB1 _ (by decide))).trans e1).symm; clear hs; subst q) | (clear g1; have q : B2 = s := ((ap_eq (v := (p.1.sp - 61616) * 16 + (p.1.dp - 61616)) (n := 1) hs (toL_b0 _) wX (beB1 _ (by omega))).trans e2).symm; clear hs; subst q) | (clear g2; have q : B3 = s := ((ap_eq (v := M) (n := 2) hs (toL_b0 _) wM rfl).trans e3).symm; clear hs; subst q) | skip)))
 all_goals first
  | exact Nat.le_of_ble_eq_true rfl
  | exact rfl
  | exact fun _ => rfl
  | (show (toL eB _ _).length <= _; rw [toL_len]; omega)
  | exact Eq.mp (congrArg PkW (pk_eq p _).symm) hp
  | exact ⟨⟨some _, leF_c (leC_os rfl rfl), leN_ents⟩⟩
  | skip
theorem aud_1 (b : List Int) (p : Pkt) (hbl : b.length <= 70368744170000) (hp : PkW p) (hpl : p.2.length <= 140737488355328) (h : ¬ (half p.1.sp = true /\ half p.1.dp = true)) (h1 : byt p.1.dp = true) : NewOk Tryz.prog 45 [(cSl eB eB_sz).enc b, cPk.enc p] (some (b ++ udpF p).length) none (ents eB 5 (b ++ udpF p)) := by
 obtain ⟨M, eM⟩ : ∃ M, sumP p = M := ⟨_, rfl⟩
 have hM := sumP_r p
 rw [eM] at hM
 have hsp := hp.sp
 have hdp := hp.dp
 have b1 := byt_iff.1 h1
 have wS : IntKind.u64.wrap p.1.sp = p.1.sp := IntWalk.u64_in _ (by omega)
 have wD : IntKind.u64.wrap p.1.dp = p.1.dp := IntWalk.u64_in _ (by omega)
 have wM : IntKind.u64.wrap M = M := IntWalk.u64_in _ (by omega)
 have wX : IntKind.u64.wrap (IntKind.u64.wrap p.1.dp - 61440) = p.1.dp - 61440 := by
  simp (disch := omega) only [IntWalk.u64_in]
  try omega
 obtain ⟨B1, e1⟩ : ∃ x, b ++ [241] = x := ⟨_, rfl⟩
 have l1 : B1.length = b.length + 1 := by rw [<- e1, List.length_append]; rfl
 obtain ⟨B2, e2⟩ : ∃ x, B1 ++ [p.1.sp / 256 % 256, p.1.sp % 256] = x := ⟨_, rfl⟩
 have l2 : B2.length = B1.length + 2 := by rw [<- e2, List.length_append]; rfl
 obtain ⟨B3, e3⟩ : ∃ x, B2 ++ [p.1.dp - 61440] = x := ⟨_, rfl⟩
 have l3 : B3.length = B2.length + 1 := by rw [<- e3, List.length_append]; rfl
 obtain ⟨B4, e4⟩ : ∃ x, B3 ++ beB M 2 = x := ⟨_, rfl⟩
 have l4 : B4.length = B3.length + 2 := by rw [<- e4, List.length_append, beB2]; rfl
 have eF : b ++ udpF p = B4 := by
  unfold udpF
  rw [eM, ports_1 h h1, <- e4, <- e3, <- e2, <- e1]
  simp only [List.append_assoc, List.cons_append, List.nil_append]
 rw [eF]
 have g0 : True := trivial
 have g1 : True := trivial
 have g2 : True := trivial
 have g3 : True := trivial
 refine new_intro (wd := 64) (Q := mkQ LCa) (by decide) tysOk (q_of LCa_ok) mixed Tryz.func45 rfl _ (by show 2 <= _; decide) (fun i _ j _ => row_nf eB _ i j) ?_
 repeat' (first | (apply And.intro <;> intro hc <;> (first | exact Bool.noConfusion hc | (exfalso; first | exact absurd hc (by assumption) | exact absurd (by assumption) hc | exact h ⟨by assumption, hc⟩ | exact Bool.noConfusion (hc.symm.trans h1)) | (simp only [zb0, ne_eq, not_true_eq_false] at hc <;> first | exact absurd rfl hc | (exfalso; first | exact absurd hc (by assumption) | exact absurd (by assumption) hc | exact h ⟨by assumption, hc⟩ | exact Bool.noConfusion (hc.symm.trans h1)) | skip) | skip)) | (refine And.intro zp1 ?_) | (apply And.intro) | (intro s hs; (first | (have q : s = half p.1.sp := hs.trans (wth_half _); clear hs; subst q) | (have q : s = half p.1.dp := hs.trans (wth_half _); clear hs; subst q) | (have q : s = byt p.1.sp := hs.trans (wth_byt _); clear hs; subst q) | (have q : s = byt p.1.dp := hs.trans (wth_byt _); clear hs; subst q) | (have q : M = s := (hs.trans ((congrArg sumP (pk_eq p _)).trans eM)).symm; clear hs; subst q) | (clear g0; have q : B1 = s := ((ap_eq (v := 241) (n := 1) hs (toL_b b) rfl (beB1 _ (by decide))).trans e1).symm; clear hs; subst q) | (clear g1; have q : B2 = s := ((ap_eq (v := p.1.sp) (n := 2) hs (toL_b0 _) wS (beB2 _)).trans e2).symm; clear hs; subst q) | (clear g2; have q : B3 = s := ((ap_eq (v := p.1.dp - 61440) (n := 1) hs (toL_b0 _) wX (beB1 _ (by omega))).trans e3).symm; clear hs; subst q) | (clear g3; have q : B4 = s := ((ap_eq (v := M) (n := 2) hs (toL_b0 _) wM rfl).trans e4).symm; clear hs; subst q) | skip)))
 all_goals first
  | exact Nat.le_of_ble_eq_true rfl
  | exact rfl
  | exact fun _ => rfl
  | (show (toL eB _ _).length <= _; rw [toL_len]; omega)
  | exact Eq.mp (congrArg PkW (pk_eq p _).symm) hp
  | exact ⟨⟨some _, leF_c (leC_os rfl rfl), leN_ents⟩⟩
  | skip
theorem aud_2 (b : List Int) (p : Pkt) (hbl : b.length <= 70368744170000) (hp : PkW p) (hpl : p.2.length <= 140737488355328) (h : ¬ (half p.1.sp = true /\ half p.1.dp = true)) (h1 : byt p.1.dp = false) (h2 : byt p.1.sp = true) : NewOk Tryz.prog 45 [(cSl eB eB_sz).enc b, cPk.enc p] (some (b ++ udpF p).length) none (ents eB 5 (b ++ udpF p)) := by
 obtain ⟨M, eM⟩ : ∃ M, sumP p = M := ⟨_, rfl⟩
 have hM := sumP_r p
 rw [eM] at hM
 have hsp := hp.sp
 have hdp := hp.dp
 have b2 := byt_iff.1 h2
 have wS : IntKind.u64.wrap p.1.sp = p.1.sp := IntWalk.u64_in _ (by omega)
 have wD : IntKind.u64.wrap p.1.dp = p.1.dp := IntWalk.u64_in _ (by omega)
 have wM : IntKind.u64.wrap M = M := IntWalk.u64_in _ (by omega)
 have wX : IntKind.u64.wrap (IntKind.u64.wrap p.1.sp - 61440) = p.1.sp - 61440 := by
  simp (disch := omega) only [IntWalk.u64_in]
  try omega
 obtain ⟨B1, e1⟩ : ∃ x, b ++ [242] = x := ⟨_, rfl⟩
 have l1 : B1.length = b.length + 1 := by rw [<- e1, List.length_append]; rfl
 obtain ⟨B2, e2⟩ : ∃ x, B1 ++ [p.1.sp - 61440] = x := ⟨_, rfl⟩
 have l2 : B2.length = B1.length + 1 := by rw [<- e2, List.length_append]; rfl
 obtain ⟨B3, e3⟩ : ∃ x, B2 ++ [p.1.dp / 256 % 256, p.1.dp % 256] = x := ⟨_, rfl⟩
 have l3 : B3.length = B2.length + 2 := by rw [<- e3, List.length_append]; rfl
 obtain ⟨B4, e4⟩ : ∃ x, B3 ++ beB M 2 = x := ⟨_, rfl⟩
 have l4 : B4.length = B3.length + 2 := by rw [<- e4, List.length_append, beB2]; rfl
 have eF : b ++ udpF p = B4 := by
  unfold udpF
  rw [eM, ports_2 h h1 h2, <- e4, <- e3, <- e2, <- e1]
  simp only [List.append_assoc, List.cons_append, List.nil_append]
 rw [eF]
 have g0 : True := trivial
 have g1 : True := trivial
 have g2 : True := trivial
 have g3 : True := trivial
 refine new_intro (wd := 64) (Q := mkQ LCa) (by decide) tysOk (q_of LCa_ok) mixed Tryz.func45 rfl _ (by show 2 <= _; decide) (fun i _ j _ => row_nf eB _ i j) ?_
 repeat' (first | (apply And.intro <;> intro hc <;> (first | exact Bool.noConfusion hc | (exfalso; first | exact absurd hc (by assumption) | exact absurd (by assumption) hc | exact h ⟨by assumption, hc⟩ | exact Bool.noConfusion (hc.symm.trans h1) | exact Bool.noConfusion (hc.symm.trans h2)) | (simp only [zb0, ne_eq, not_true_eq_false] at hc <;> first | exact absurd rfl hc | (exfalso; first | exact absurd hc (by assumption) | exact absurd (by assumption) hc | exact h ⟨by assumption, hc⟩ | exact Bool.noConfusion (hc.symm.trans h1) | exact Bool.noConfusion (hc.symm.trans h2)) | skip) | skip)) | (refine And.intro zp1 ?_) | (apply And.intro) | (intro s hs; (first | (have q : s = half p.1.sp := hs.trans (wth_half _); clear hs; subst q) | (have q : s = half p.1.dp := hs.trans (wth_half _); clear hs; subst q) | (have q : s = byt p.1.sp := hs.trans (wth_byt _); clear hs; subst q) | (have q : s = byt p.1.dp := hs.trans (wth_byt _); clear hs; subst q) | (have q : M = s := (hs.trans ((congrArg sumP (pk_eq p _)).trans eM)).symm; clear hs; subst q) | (clear g0; have q : B1 = s := ((ap_eq (v := 242) (n := 1) hs (toL_b b) rfl (beB1 _ (by decide))).trans e1).symm; clear hs; subst q) | (clear g1; have q : B2 = s := ((ap_eq (v := p.1.sp - 61440) (n := 1) hs (toL_b0 _) wX (beB1 _ (by omega))).trans e2).symm; clear hs; subst q) | (clear g2; have q : B3 = s := ((ap_eq (v := p.1.dp) (n := 2) hs (toL_b0 _) wD (beB2 _)).trans e3).symm; clear hs; subst q) | (clear g3; have q : B4 = s := ((ap_eq (v := M) (n := 2) hs (toL_b0 _) wM rfl).trans e4).symm; clear hs; subst q) | skip)))
 all_goals first
  | exact Nat.le_of_ble_eq_true rfl
  | exact rfl
  | exact fun _ => rfl
  | (show (toL eB _ _).length <= _; rw [toL_len]; omega)
  | exact Eq.mp (congrArg PkW (pk_eq p _).symm) hp
  | exact ⟨⟨some _, leF_c (leC_os rfl rfl), leN_ents⟩⟩
  | skip
theorem aud_0 (b : List Int) (p : Pkt) (hbl : b.length <= 70368744170000) (hp : PkW p) (hpl : p.2.length <= 140737488355328) (h : ¬ (half p.1.sp = true /\ half p.1.dp = true)) (h1 : byt p.1.dp = false) (h2 : byt p.1.sp = false) : NewOk Tryz.prog 45 [(cSl eB eB_sz).enc b, cPk.enc p] (some (b ++ udpF p).length) none (ents eB 5 (b ++ udpF p)) := by
 obtain ⟨M, eM⟩ : ∃ M, sumP p = M := ⟨_, rfl⟩
 have hM := sumP_r p
 rw [eM] at hM
 have hsp := hp.sp
 have hdp := hp.dp
 have wS : IntKind.u64.wrap p.1.sp = p.1.sp := IntWalk.u64_in _ (by omega)
 have wD : IntKind.u64.wrap p.1.dp = p.1.dp := IntWalk.u64_in _ (by omega)
 have wM : IntKind.u64.wrap M = M := IntWalk.u64_in _ (by omega)
 obtain ⟨B1, e1⟩ : ∃ x, b ++ [240] = x := ⟨_, rfl⟩
 have l1 : B1.length = b.length + 1 := by rw [<- e1, List.length_append]; rfl
 obtain ⟨B2, e2⟩ : ∃ x, B1 ++ [p.1.sp / 256 % 256, p.1.sp % 256] = x := ⟨_, rfl⟩
 have l2 : B2.length = B1.length + 2 := by rw [<- e2, List.length_append]; rfl
 obtain ⟨B3, e3⟩ : ∃ x, B2 ++ [p.1.dp / 256 % 256, p.1.dp % 256] = x := ⟨_, rfl⟩
 have l3 : B3.length = B2.length + 2 := by rw [<- e3, List.length_append]; rfl
 obtain ⟨B4, e4⟩ : ∃ x, B3 ++ beB M 2 = x := ⟨_, rfl⟩
 have l4 : B4.length = B3.length + 2 := by rw [<- e4, List.length_append, beB2]; rfl
 have eF : b ++ udpF p = B4 := by
  unfold udpF
  rw [eM, ports_0 h h1 h2, <- e4, <- e3, <- e2, <- e1]
  simp only [List.append_assoc, List.cons_append, List.nil_append]
 rw [eF]
 have g0 : True := trivial
 have g1 : True := trivial
 have g2 : True := trivial
 have g3 : True := trivial
 refine new_intro (wd := 64) (Q := mkQ LCa) (by decide) tysOk (q_of LCa_ok) mixed Tryz.func45 rfl _ (by show 2 <= _; decide) (fun i _ j _ => row_nf eB _ i j) ?_
 repeat' (first | (apply And.intro <;> intro hc <;> (first | exact Bool.noConfusion hc | (exfalso; first | exact absurd hc (by assumption) | exact absurd (by assumption) hc | exact h ⟨by assumption, hc⟩ | exact Bool.noConfusion (hc.symm.trans h1) | exact Bool.noConfusion (hc.symm.trans h2)) | (simp only [zb0, ne_eq, not_true_eq_false] at hc <;> first | exact absurd rfl hc | (exfalso; first | exact absurd hc (by assumption) | exact absurd (by assumption) hc | exact h ⟨by assumption, hc⟩ | exact Bool.noConfusion (hc.symm.trans h1) | exact Bool.noConfusion (hc.symm.trans h2)) | skip) | skip)) | (refine And.intro zp1 ?_) | (apply And.intro) | (intro s hs; (first | (have q : s = half p.1.sp := hs.trans (wth_half _); clear hs; subst q) | (have q : s = half p.1.dp := hs.trans (wth_half _); clear hs; subst q) | (have q : s = byt p.1.sp := hs.trans (wth_byt _); clear hs; subst q) | (have q : s = byt p.1.dp := hs.trans (wth_byt _); clear hs; subst q) | (have q : M = s := (hs.trans ((congrArg sumP (pk_eq p _)).trans eM)).symm; clear hs; subst q) | (clear g0; have q : B1 = s := ((ap_eq (v := 240) (n := 1) hs (toL_b b) rfl (beB1 _ (by decide))).trans e1).symm; clear hs; subst q) | (clear g1; have q : B2 = s := ((ap_eq (v := p.1.sp) (n := 2) hs (toL_b0 _) wS (beB2 _)).trans e2).symm; clear hs; subst q) | (clear g2; have q : B3 = s := ((ap_eq (v := p.1.dp) (n := 2) hs (toL_b0 _) wD (beB2 _)).trans e3).symm; clear hs; subst q) | (clear g3; have q : B4 = s := ((ap_eq (v := M) (n := 2) hs (toL_b0 _) wM rfl).trans e4).symm; clear hs; subst q) | skip)))
 all_goals first
  | exact Nat.le_of_ble_eq_true rfl
  | exact rfl
  | exact fun _ => rfl
  | (show (toL eB _ _).length <= _; rw [toL_len]; omega)
  | exact Eq.mp (congrArg PkW (pk_eq p _).symm) hp
  | exact ⟨⟨some _, leF_c (leC_os rfl rfl), leN_ents⟩⟩
  | skip
theorem aud_ok (b : List Int) (p : Pkt) (hbl : b.length <= 70368744170000) (hp : PkW p) (hpl : p.2.length <= 140737488355328) : NewOk Tryz.prog 45 [(cSl eB eB_sz).enc b, cPk.enc p] (some (b ++ udpF p).length) none (ents eB 5 (b ++ udpF p)) := by
 by_cases h : half p.1.sp = true /\ half p.1.dp = true
 . exact aud_3 b p hbl hp hpl h.1 h.2
 . cases h1 : byt p.1.dp with
   | true => exact aud_1 b p hbl hp hpl h h1
   | false =>
     cases h2 : byt p.1.sp with
     | true => exact aud_2 b p hbl hp hpl h h1 h2
     | false => exact aud_0 b p hbl hp hpl h h1 h2
theorem encI_congr {p p' : Pkt} {a a' b b' : Adr} {l l' : List Ctx} {n : Int} (h1 : p' = p) (h2 : a' = a) (h3 : b' = b) (h4 : l' = l) : encI p' a' b' l' n = encI p a b l n := by rw [h1, h2, h3, h4]
abbrev audE : Entry := newE (AC.cons (cSl eB eB_sz) (AC.cons cPk AC.nil)) (fun a => a.1.length <= 70368744170000 /\ PkW a.2.1 /\ a.2.1.2.length <= 140737488355328) (fun a => a.1 ++ udpF a.2.1) (fun s => some s.length) (fun _ => none) (fun s => ents eB 5 s)
def LCe : CsL := (45, some audE) :: (44, some enIE) :: (47, some encE) :: []
theorem LCe_ok : AllOk Tryz.prog LCe := ⟨newE_ok ⟨_, Tryz.func45, rfl, by kernel_rfl⟩ (fun s l h => by cases h) fun a h => aud_ok a.1 a.2.1 h.1 h.2.1 h.2.2, enIE_ok, (LPf_ok).1, trivial⟩
theorem encI_v {p : Pkt} {f t : Adr} {l : List Ctx} {now : Int} {C : List Int × Int} (eC : encI p f t l now = C) (h : C.2 = 0) : p.2.length <= 1280 := by
 cases hv : validP p with
 | true => have := valid_len hv; omega
 | false =>
   subst eC
   unfold encI at h
   rw [hv] at h
   exact absurd (show (1 : Int) = 0 from h) (by decide)
theorem encC_1 {p : Pkt} {f t : Adr} {l : List Ctx} {now : Int} {C : List Int × Int} (eC : encI p f t l now = C) (h : ¬ C.2 = 0) : encC p f t l now = ([], C.2) := by subst eC; exact if_neg h
theorem encC_2 {p : Pkt} {f t : Adr} {l : List Ctx} {now : Int} {C : List Int × Int} (eC : encI p f t l now = C) (h : C.2 = 0) (hu : p.1.nxt = 17) : encC p f t l now = (C.1 ++ udpF p ++ p.2, 0) := by
 subst eC; unfold encC; rw [if_pos h, if_pos hu, List.append_assoc]
theorem encC_3 {p : Pkt} {f t : Adr} {l : List Ctx} {now : Int} {C : List Int × Int} (eC : encI p f t l now = C) (h : C.2 = 0) (hu : ¬ p.1.nxt = 17) : encC p f t l now = (C.1 ++ p.2, 0) := by
 subst eC; unfold encC; rw [if_pos h, if_neg hu, List.nil_append]
theorem cenc_ok (p : Pkt) (f t : Adr) (l : List Ctx) (now : Int) (hp : PkW p) (hpl : p.2.length <= 140737488355328) (hl : bytesL l) : NewOk Tryz.prog 26 [cPk.enc p, (cE eAdr).enc f, (cE eAdr).enc t, (cSl eCtx eCtx_sz).enc l, (cI .i64).enc now] (some (encC p f t l now).1.length) (some [i64V (encC p f t l now).2]) (ents eB 5 (encC p f t l now).1) := by
 obtain ⟨W, eW⟩ : ∃ W, encC p f t l now = W := ⟨_, rfl⟩
 have hCl := encI_len p f t l now
 obtain ⟨C, eC⟩ : ∃ C, encI p f t l now = C := ⟨_, rfl⟩
 rw [eC] at hCl
 have hsm := encI_v eC
 have e1 := fun h => eW.symm.trans (encC_1 (p := p) (f := f) (t := t) (l := l) (now := now) eC h)
 have e2 := fun h g => eW.symm.trans (encC_2 (p := p) (f := f) (t := t) (l := l) (now := now) eC h g)
 have e3 := fun h g => eW.symm.trans (encC_3 (p := p) (f := f) (t := t) (l := l) (now := now) eC h g)
 rw [eW]
 clear eW
 have hU := udp_len p
 have hP := ports_len p.1.sp p.1.dp
 obtain ⟨U, eU⟩ : ∃ U, udpF p = U := ⟨_, rfl⟩
 rw [eU] at hU e2
 have g1 : True := trivial
 refine new_intro (wd := 1) (Q := mkQ LCe) (by decide) tysOk (q_of LCe_ok) mixed Tryz.func26 rfl _ (by show 5 <= _; decide) (fun i _ j _ => row_nf eB _ i j) ?_
 repeat' (first | (apply And.intro <;> intro hc <;> (first | exact Bool.noConfusion hc | (exfalso; first | exact absurd hc (by assumption) | exact absurd (by assumption) hc) | (simp only [zb0, ne_eq, not_true_eq_false] at hc <;> first | exact absurd rfl hc | (exfalso; first | exact absurd hc (by assumption) | exact absurd (by assumption) hc) | skip) | skip)) | (refine And.intro zp1 ?_) | (apply And.intro) | (intro s hs; (first | (clear g1; have q : C = s := (hs.trans ((encI_congr (pk_eq p _) (rd_adr f) (rd_adr t) (toL_ctx l)).trans eC)).symm; clear hs; subst q) | (have q : s = C.1 ++ U := hs.trans ((congr (congrArg (fun a b => a ++ udpF b) (toL_b0 C.1)) (pk_eq p _)).trans (congrArg (fun x => C.1 ++ x) eU)); clear hs; subst q) | skip)))
 all_goals first
  | exact fun _ => rfl
  | exact Eq.mp (congrArg PkW (pk_eq p _).symm) hp
  | (show (toL eB _ _).length <= _; rw [toL_len]; omega)
  | exact Eq.mp (congrArg bytesL (toL_ctx l).symm) hl
  | (rw [e1 (by assumption)]
     exact ⟨⟨none, leF_tup ⟨leC_nils_os rfl, leC_int rfl, trivial⟩, rfl, rfl, (by show 0 < 1; omega)⟩⟩)
  | omega
  | (have := hsm (by assumption); rw [List.length_append]; omega)
  | (have := hsm (by assumption); omega)
  | exact rfl
  | (rw [e2 (by assumption) (by assumption)]
     refine ⟨⟨some _, leF_tup ⟨leC_os rfl ?_, leC_int rfl, trivial⟩, leN_is ?_ (isRow_sel rfl (isRow_row _) (fun k hk => rowF_at (by omega)))⟩⟩
     . exact (List.length_append ..).symm
     . exact (List.length_append ..).symm)
  | (rw [e3 (by assumption) (by assumption)]
     refine ⟨⟨some _, leF_tup ⟨leC_os rfl ?_, leC_int rfl, trivial⟩, leN_is ?_ (isRow_sel rfl (isRow_row _) (fun k hk => rowF_at (by omega)))⟩⟩
     . exact (List.length_append ..).symm
     . exact (List.length_append ..).symm)
  | skip
theorem plain_ok (p : Pkt) (hp : PkW p) (hpl : p.2.length <= 140737488355328) : NewOk Tryz.prog 28 [cPk.enc p] (some (plainZ p).1.length) (some [i64V (plainZ p).2]) (ents eB 5 (plainZ p).1) := by
 obtain ⟨W, eW⟩ : ∃ W, plainZ p = W := ⟨_, rfl⟩
 have hl : ((encR p).getD []).length <= 1280 := by
  unfold encR
  split
  . rename_i h
    have h1 := encB_len p (sumP p)
    have h2 := valid_size h
    show (encB p (sumP p)).length <= 1280
    omega
  . exact Nat.zero_le _
 obtain ⟨E, eE⟩ : ∃ E, encR p = E := ⟨_, rfl⟩
 have e0 : ¬ ecR E = 0 -> W = ([], 1) := fun h => by
  rw [<- eW]
  unfold plainZ
  rw [if_neg]
  intro hv
  apply h
  rw [<- eE]
  unfold encR
  rw [if_pos hv]; rfl
 have e1 : ecR E = 0 -> W = (65 :: E.getD [], 0) := fun h => by
  rw [<- eW]
  unfold plainZ
  by_cases hv : validP p = true
  . rw [if_pos hv, <- eE]
    unfold encR
    rw [if_pos hv]; rfl
  . exfalso
    rw [<- eE] at h
    unfold encR at h
    rw [if_neg hv] at h
    exact absurd h (by decide)
 rw [eE] at hl
 rw [eW]
 clear eW
 refine new_intro (wd := 1) (Q := mkQ LCe) (by decide) tysOk (q_of LCe_ok) mixed Tryz.func28 rfl _ (by show 1 <= _; decide) (fun i _ j _ => row_nf eB _ i j) ?_
 repeat' (first | (apply And.intro <;> intro hc <;> (first | exact Bool.noConfusion hc | (exfalso; first | exact absurd hc (by assumption) | exact absurd (by assumption) hc) | (simp only [zb0, ne_eq, not_true_eq_false] at hc <;> first | exact absurd rfl hc | (exfalso; first | exact absurd hc (by assumption) | exact absurd (by assumption) hc) | skip) | skip)) | (refine And.intro zp1 ?_) | (apply And.intro) | (intro s hs; (first | (have q : E = s := (hs.trans ((congrArg encR (pk_eq p _)).trans eE)).symm; clear hs; subst q) | skip)))
 . exact Eq.mp (congrArg PkW (pk_eq p _).symm) hp
 . show (toL eB _ _).length <= _; rw [toL_len]; omega
 . have he : ecR E = 1 := by
    cases E with
    | none => rfl
    | some x => exact absurd rfl (by assumption : ¬ ecR (some x) = 0)
   rw [e0 (by assumption)]
   exact ⟨⟨none, leF_tup ⟨leC_nils_os rfl, leC_int he, trivial⟩, rfl, rfl, (by show 0 < 1; omega)⟩⟩
 . rw [e1 (by assumption)]
   refine ⟨⟨some _, leF_tup ⟨leC_os rfl ?_, leC_int rfl, trivial⟩, leN_is (l := [65] ++ E.getD []) ?_ (isRow_sel (n := 1) (C := fun k j => rowF eB (E.getD []) (0 + (k - 1)) j) (l1 := [65]) rfl ⟨fun k hk => ?_⟩ (fun k hk => rowF_at (by omega)))⟩⟩
   . show _ = (65 :: E.getD []).length
     rw [List.length_cons]; omega
   . rw [List.length_append]; exact rfl
   . have hk' : k < 1 := hk
     have : k = 0 := by omega
     subst this; rfl
def hpK (ks : Nat -> Nat) (es : Nat -> Ent) : Nat -> Hp
 | 0 => []
 | m + 1 => (ks m, some (es m)) :: hpK ks es m
theorem hpK_in {ks : Nat -> Nat} {es : Nat -> Ent} : ∀ {m : Nat}, (∀ i, i < m -> ∀ j, j < m -> ks i = ks j -> i = j) -> ∀ i, i < m -> ∀ H : Hp, hget (hpK ks es m ++ H) (ks i) = some (es i) := by
 intro m
 induction m with
 | zero => intro _ i hi; omega
 | succ m ih =>
   intro hd i hi H
   by_cases h : i = m
   . subst h; exact look_cons_eq _ _ _ _
   . have hne : ks i ≠ ks m := fun e => h (hd i hi m (Nat.lt_succ_self m) e)
     exact (look_cons_ne _ _ _ hne).trans (ih (fun a ha b hb => hd a (by omega) b (by omega)) i (by omega) H)
theorem hpK_out {ks : Nat -> Nat} {es : Nat -> Ent} : ∀ {m k : Nat}, (∀ i, i < m -> ks i ≠ k) -> ∀ H : Hp, hget (hpK ks es m ++ H) k = hget H k := by
 intro m
 induction m with
 | zero => intro k _ H; rfl
 | succ m ih =>
   intro k h H
   exact (look_cons_ne _ _ _ (Ne.symm (h m (Nat.lt_succ_self m)))).trans (ih (fun i hi => h i (by omega)) H)
abbrev hpL (es : Nat -> Ent) (m : Nat) : Hp := hpK (fun k => k) es m
theorem hpL_get {es : Nat -> Ent} {m k : Nat} : hget (hpL es m) k = if k < m then some (es k) else none := by
 have e : hpL es m = hpK (fun k => k) es m ++ [] := by simp
 rw [e]
 split
 . exact hpK_in (fun i _ j _ h => h) k (by assumption) []
 . exact hpK_out (fun i hi h => by omega) []
def atL (m : Nat) (xs : Nat -> Bi) : Ren := fun k => if k < m then some (xs k) else none
def inX (m : Nat) (xs : Nat -> Bi) (b : Nat) : Prop := ∃ k, k < m /\ (xs k).b = b
def ptrs (ks : Nat -> Nat) (m : Nat) : List FV := (List.range m).map fun k => .e (.c (.ptr (ks k) 0 0 false))
theorem ptrs_at {ks : Nat -> Nat} {m i : Nat} {y : FV} (h : (ptrs ks m)[i]? = some y) : i < m /\ y = .e (.c (.ptr (ks i) 0 0 false)) := by
 unfold ptrs at h
 rw [List.getElem?_map] at h
 by_cases hi : i < m
 . rw [List.getElem?_range hi] at h
   exact ⟨hi, by simpa using h.symm⟩
 . rw [List.getElem?_eq_none (by simp; omega)] at h; cases h
def MultOk (P : Program) (f : FuncId) (rest : List FV) (m : Nat) (es : Nat -> Ent) (val : FV) (es' : Nat -> Ent) : Prop :=
 ∀ X w (xs : Nat -> Bi) (vals : Array Value), (∀ k, k < m -> (xs k).b < w.heap.size /\ ¬ X (xs k).b) -> (∀ i, i < m -> ∀ j, j < m -> (xs i).b = (xs j).b -> i = j) -> Xw (fun b => X b \/ inX m xs b) w ->
   (∀ k, k < m -> EntIn (fun _ => none) X (inX m xs) w (es k) (some (xs k)) w.heap) -> RelL (atL m xs) X (inX m xs) w (rest ++ ptrs (fun k => k) m) vals ->
   Calls P f vals w fun en w' => ∃ v, en = .returned v /\ w'.os = w.os /\ w'.tape = w.tape /\ w'.output = w.output /\ w.heap.size <= w'.heap.size /\ (∀ b, b < w.heap.size -> ¬ inX m xs b -> w'.heap[b]? = w.heap[b]?) /\
    (∀ k, k < m -> EntIn (fun _ => none) X (fun b => X b \/ inX m xs b) w' (es' k) (some (xs k)) w'.heap) /\ val.rel (fun _ => none) X (fun b => X b \/ inX m xs b) w' v
structure FinU (val : FV) (m : Nat) (es' : Nat -> Ent) (x : FV) (H : Hp) : Prop where
 le : LeF ⟨H, hpL es' m, [], m, true⟩ x val
 ent : ∀ k, k < m -> WkE ⟨H, hpL es' m, [], m, true⟩ (es' k) (some k)
section
variable {P : Program} {T : Tys} {Q : Qs} {wd : Nat}
theorem mult_intro (hwd : 0 < wd) (hT : TysOk P T) (hQ : QsOk P Q) (hm : P.follows .mixedOrders = true) {f : FuncId} {fn : Func} {c : Code} (hf : P.funcs[f]? = some fn) (hb : fn.body = some c) (rest : List FV) {m : Nat} (hn : rest.length + m <= fn.ntmps) {es es' : Nat -> Ent} {val : FV}
 (hval : NFF val) (hnf : ∀ k, k < m -> ∀ i, i < (es' k).n -> ∀ j, j < (es' k).sz -> NF ((es' k).f i j)) (h : exec T Q wd fn.ntmps m c (argFr (rest ++ ptrs (fun k => k) m) 0) (hpL es m) m (endH T fn.results.toList fun x H _ => FinU val m es' x H)) : MultOk P f rest m es val es' := by
 intro X w xs vals hxs hinj hX hent hrel
 have hwr : wr (atL m xs) (hpL es m) = inX m xs := by
  funext b
  apply propext
  constructor
  . rintro ⟨k, e1, y, _, hy, rfl⟩
    unfold atL at hy
    split at hy
    . injection hy with hy; exact ⟨k, by assumption, by rw [hy]⟩
    . cases hy
  . rintro ⟨k, hk, rfl⟩
    exact ⟨k, es k, xs k, by rw [hpL_get, if_pos hk], if_pos hk, rfl⟩
 have hat : ∀ k y, atL m xs k = some y -> k < m /\ y = xs k := fun k y hy => by
  unfold atL at hy
  split at hy
  . injection hy with hy; exact ⟨by assumption, hy.symm⟩
  . cases hy
 have hget' : ∀ k e1, hget (hpL es m) k = some e1 -> k < m /\ e1 = es k := fun k e1 he => by
  rw [hpL_get] at he
  split at he
  . injection he with he; exact ⟨by assumption, he.symm⟩
  . cases he
 have st0 : St ⟨w, inX m xs, inX m xs, X, atL m xs⟩ (atL m xs) (hpL es m) w := by
  refine ⟨rfl, rfl, rfl, Nat.le_refl _, fun _ _ _ => rfl, ⟨fun b hb => hX.1 b (.inl hb), glob_more hX.2 fun p _ h => h.elim .inl fun h => h.elim .inr .inr⟩, fun k y hy => ?_, fun k e1 y _ hy => ?_, fun n k e1 e2 y z _ _ hy hz hyz => ?_, fun k b hk => hk, fun k e1 he1 => ?_⟩
  . obtain ⟨h1, rfl⟩ := hat k y hy
    exact ⟨(hxs k h1).1, .inr ⟨k, h1, rfl⟩, (hxs k h1).2⟩
  . obtain ⟨h1, rfl⟩ := hat k y hy
    exact .inr ⟨k, h1, rfl⟩
  . obtain ⟨h1, rfl⟩ := hat n y hy
    obtain ⟨h2, rfl⟩ := hat k z hz
    exact hinj n h1 k h2 hyz
  . obtain ⟨h1, rfl⟩ := hget' k e1 he1
    rw [hwr]
    exact (hent k h1).map rfl rfl rfl rfl (if_pos h1).symm (fun _ _ => rfl) fun i _ j _ u hu => CV.rel_ext ⟨fun _ _ h => (by cases h), Nat.le_refl _, fun _ _ _ => rfl, fun _ _ h => h⟩ _ _ hu
 refine (fn_run (np := m) hwd hT hQ hm hf hb (by simpa [ptrs] using hn) h (fun k b hk => (hat k b hk).1) st0 (by rw [hwr]; exact hrel) (fun k hk => ⟨if_neg (by omega), by rw [hpL_get, if_neg (by omega)]⟩)).mono fun en w' he => ?_
 obtain ⟨v, r', y, Hf, nf, rfl, ⟨hfin, hent'⟩, st, _, hy, _⟩ := he
 have hr0 : ∀ k, k < m -> r' k = some (xs k) := fun k hk => st.pin k (xs k) (if_pos hk)
 have hsrc : ∀ k, Wc.src ⟨Hf, hpL es' m, [], m, true⟩ k = if k < m then some k else none := fun k => by
  unfold Wc.src
  simp only [lookR]
  by_cases hk : k < m
  . have h2 : Nat.blt k m = true := Nat.ble_eq_true_of_le hk
    simp [h2, hk]
  . have h2 : Nat.blt k m = false := by
     cases hb : Nat.blt k m with
     | false => rfl
     | true => have := Nat.le_of_ble_eq_true hb; omega
    simp [h2, hk]
 have hren : Wc.ren ⟨Hf, hpL es' m, [], m, true⟩ r' = atL m xs := by
  funext k
  unfold Wc.ren atL
  rw [hsrc]
  by_cases hk : k < m
  . rw [if_pos hk, if_pos hk]; exact hr0 k hk
  . rw [if_neg hk, if_neg hk]
 have hlive : Wc.Live ⟨Hf, hpL es' m, [], m, true⟩ := fun k e1 he1 k0 hk0' => by
  rw [hsrc] at hk0'
  split at hk0'
  . injection hk0' with hk0'
    subst hk0'
    have := hent' k (by assumption)
    unfold WkE at this
    simp only at this
    split at this
    . rename_i e2 hh; exact ⟨e2, hh⟩
    . exact this.elim
  . cases hk0'
 have hwr2 : ∀ b, X b \/ inX m xs b -> Wc.wr ⟨Hf, hpL es' m, [], m, true⟩ ⟨w, inX m xs, inX m xs, X, atL m xs⟩ r' b := fun b hb => by
  rcases hb with hb | ⟨k, hk, hkb⟩
  . exact .inr ⟨rfl, hb⟩
  . exact .inl ⟨k, es' k, xs k, by show hget (hpL es' m) k = _; rw [hpL_get, if_pos hk], by rw [hren]; exact if_pos hk, hkb⟩
 refine ⟨v, rfl, st.os, st.tape, st.output, st.size, fun b hb hne => st.kept b hb hne, fun k hk => ?_, ?_⟩
 . have hk' := hent' k hk
   unfold WkE at hk'
   simp only at hk'
   split at hk'
   . rename_i e2 hh
     exact (st.blk k e2 hh).map hk'.t hk'.n hk'.sz hk'.v (hr0 k hk) (fun _ _ => rfl) fun i hi j' hj u hu => by
      have h1 := hk'.f i hi j' hj hlive _ r' w' u st hu
      exact CV.rel_w hwr2 _ _ (hnf k hk i (by rw [<- hk'.n]; exact hi) j' (by rw [<- hk'.sz]; exact hj) _ _ _ _ _ _ h1)
   . exact hk'.elim
 . have h1 := hfin hlive _ r' w' v st hy
   exact FV.rel_w hwr2 _ _ (hval _ _ _ _ _ _ h1)
end
def wrNot (r : Ren) (H : Hp) (ks : Nat -> Nat) (m : Nat) (b : Nat) : Prop := ∃ nm e x, hget H nm = some e /\ r nm = some x /\ x.b = b /\ ∀ i, i < m -> ks i ≠ nm
def ksL (ks : Nat -> Nat) (m : Nat) : List Nat := (List.range m).map ks
theorem ksL_mem {ks : Nat -> Nat} {m i : Nat} (h : i < m) : ks i ∈ ksL ks m := List.mem_map.2 ⟨i, List.mem_range.2 h, rfl⟩
theorem callR_mrd {P : Program} {f : FuncId} (hb : hasBody P f) {m : Nat} {ks : Nat -> Nat} {rest rest' : List FV} {H : Hp} {rd : List Nat} {nm wd : Nat} {es eT eT' es' : Nat -> Ent} {val : FV} (hd : ∀ i, i < m -> ∀ j, j < m -> ks i = ks j -> i = j)
 (hk : ∀ i, i < m -> hget H (ks i) = some (es i)) (hv : ∀ i, i < m -> (es i).v = true) (hkr : ∀ i, i < m -> ks i ∉ rd)
 (hin : ∀ i, i < m -> ∀ r X W w o hp X' W', (∀ b, X' b -> W b) -> (∀ b, W' b -> W b) -> EntIn r X W w (es i) o hp -> EntIn (fun _ => none) X' W' w (eT i) o hp)
 (hout : ∀ i, i < m -> ∀ r X X2 W W' w o hp, (∀ b, W b -> W' b) -> EntIn (fun _ => none) X W' w (eT' i) o hp -> EntIn r X2 W w (es' i) o hp) (hfl : FlatF val)
 (hbo : ∀ H', (∀ k ∈ rd, hget H k = hget H' k) -> BoL H' rd rest rest') (h : MultOk P f rest' m eT val eT') : CallR P f (rest ++ ptrs ks m) H nm wd ⟨none, val, hpK ks es' m, ksL ks m ++ rd⟩ := by
 refine ⟨hb, fun H' hh cx r w vals st hfr _ hrel => ?_⟩
 obtain ⟨h1, h2⟩ := hbo H' (fun k hk => hh k (List.mem_append_right _ hk))
 have hk' : ∀ i, i < m -> hget H' (ks i) = some (es i) := fun i hi => by rw [<- hh _ (List.mem_append_left _ (ksL_mem hi))]; exact hk i hi
 have hbi : ∀ i, i < m -> ∃ x, r (ks i) = some x /\ InCells r cx.X (wr r H') w (es i) (r (ks i)) w.heap := fun i hi => by
  obtain ⟨g1, g2, g3⟩ := st.blk (ks i) (es i) (hk' i hi)
  rcases g3 with ⟨_, g4⟩ | g3 | ⟨hfit, _⟩
  . have := g2 (hv i hi); omega
  . have g4 := g3
    obtain ⟨x, cs, c1, _⟩ := g4
    exact ⟨x, c1, g3⟩
  . have hf : (es i).v = false := hfit.1
    rw [hv i hi] at hf; cases hf
 obtain ⟨xs, hxs⟩ : ∃ xs : Nat -> Bi, ∀ i, i < m -> r (ks i) = some (xs i) := by
  refine ⟨fun i => (r (ks i)).getD ⟨0, 0, 0⟩, fun i hi => ?_⟩
  obtain ⟨x, hx, _⟩ := hbi i hi
  show r (ks i) = some ((r (ks i)).getD ⟨0, 0, 0⟩)
  rw [hx]; rfl
 have hdom : ∀ i, i < m -> (xs i).b < w.heap.size /\ (cx.w0.heap.size <= (xs i).b \/ cx.D (xs i).b) /\ ¬ cx.X (xs i).b := fun i hi => st.dom (ks i) (xs i) (hxs i hi)
 have hsubX : ∀ b, wrNot r H' ks m b -> wr r H' b := by
  rintro b ⟨k2, e2, y, he2, hy, hyb, _⟩
  exact ⟨k2, e2, y, he2, hy, hyb⟩
 have hsubW : ∀ b, inX m xs b -> wr r H' b := by
  rintro b ⟨k, hk, hkb⟩
  exact ⟨ks k, es k, xs k, hk' k hk, hxs k hk, hkb⟩
 have hXlt : Xw (fun b => wrNot r H' ks m b \/ inX m xs b) w := xw_more (st_xw st) fun b hb => .inr (hb.elim (hsubX b) (hsubW b))
 refine (h (fun b => wrNot r H' ks m b) w xs vals (fun k hkm => ⟨(hdom k hkm).1, ?_⟩) (fun i hi j hj hij => ?_) hXlt (fun k hkm => ?_) ⟨by rw [hrel.1]; simp [h1, ptrs], fun i y u hy hu => ?_⟩).mono fun en w' he => ?_
 . rintro ⟨k2, e2, y, he2, hy, hyb, hne⟩
   exact hne k hkm (st.inj (ks k) k2 (es k) e2 (xs k) y (hk' k hkm) he2 (hxs k hkm) hy hyb.symm)
 . exact hd i hi j hj (st.inj (ks i) (ks j) (es i) (es j) (xs i) (xs j) (hk' i hi) (hk' j hj) (hxs i hi) (hxs j hj) hij)
 . have h0 := st.blk (ks k) (es k) (hk' k hkm)
   rw [hxs k hkm] at h0
   exact hin k hkm r cx.X (wr r H') w (some (xs k)) w.heap _ _ hsubX hsubW h0
 . by_cases hi : i < rest'.length
   . have hy' : rest'[i]? = some y := by rw [List.getElem?_append_left hi] at hy; exact hy
     have hi' : i < rest.length := by rw [h1]; exact hi
     have h3 := h2 i _ y (List.getElem?_eq_getElem hi') hy' cx r w u st (hrel.2 i _ u (by rw [List.getElem?_append_left hi']; exact List.getElem?_eq_getElem hi') hu)
     have h4 : y.rel (atL m xs) (fun b => cx.X b \/ wr r H' b) (wrBut r H' rd) w u := FV.rel_ext ⟨fun _ _ h => (by cases h), Nat.le_refl _, fun _ _ _ => rfl, fun _ _ h => h⟩ _ _ h3
     have h5 : y.rel (atL m xs) (fun b => cx.X b \/ wr r H' b) (inX m xs) w u := FV.rel_w (fun b ⟨k, hkm, hkb⟩ => ⟨ks k, es k, xs k, hk' k hkm, hxs k hkm, hkb, hkr k hkm⟩) _ _ h4
     cases y with
     | top => trivial
     | e y =>
       cases y with
       | c y => exact CV.rel_sub (fun b hb => .inl (.inr (hsubX b hb))) (fun b hb => hb) _ _ h5
       | agg n g => obtain ⟨cs', e1, e2, e3⟩ := h5; exact ⟨cs', e1, e2, fun i u hu => CV.rel_sub (fun b hb => .inl (.inr (hsubX b hb))) (fun b hb => hb) _ _ (e3 i u hu)⟩
     | tup l =>
       obtain ⟨vs, e1, e2, e3⟩ := h5
       refine ⟨vs, e1, e2, fun i z u hz hu => ?_⟩
       have := e3 i z u hz hu
       cases z with
       | c z => exact CV.rel_sub (fun b hb => .inl (.inr (hsubX b hb))) (fun b hb => hb) _ _ this
       | agg n g => obtain ⟨cs', e1, e2, e3⟩ := this; exact ⟨cs', e1, e2, fun i u hu => CV.rel_sub (fun b hb => .inl (.inr (hsubX b hb))) (fun b hb => hb) _ _ (e3 i u hu)⟩
   . rw [List.getElem?_append_right (by omega)] at hy
     obtain ⟨g1, rfl⟩ := ptrs_at hy
     obtain ⟨z, hz, hzv⟩ := hrel.2 i (.e (.c (.ptr (ks (i - rest'.length)) 0 0 false))) u (by
      rw [List.getElem?_append_right (by omega), h1]
      unfold ptrs
      rw [List.getElem?_map, List.getElem?_range g1]; rfl) hu
     have hz1 := hz.1
     rw [hxs _ g1] at hz1; injection hz1 with hz1; subst hz1
     exact ⟨xs (i - rest'.length), ⟨if_pos g1, hz.2⟩, hzv⟩
 . obtain ⟨v, rfl, o1, o2, o3, o4, o5, o6, o7⟩ := he
   have hY : ∀ b, wr r H' b -> wrNot r H' ks m b \/ inX m xs b := by
    rintro b ⟨k2, e2, y, he2, hy, hyb⟩
    by_cases hk2 : ∃ i, i < m /\ ks i = k2
    . obtain ⟨i, hi, rfl⟩ := hk2
      rw [hxs i hi] at hy; injection hy with hy; subst hy
      exact .inr ⟨i, hi, hyb⟩
    . exact .inl ⟨k2, e2, y, he2, hy, hyb, fun i hi e => hk2 ⟨i, hi, e⟩⟩
   have hl0 : ∀ i, i < m -> hget (hpK ks es' m ++ H') (ks i) = some (es' i) := fun i hi => hpK_in hd i hi H'
   have hl : ∀ j, (∀ i, i < m -> ks i ≠ j) -> hget (hpK ks es' m ++ H') j = hget H' j := fun j hj => hpK_out hj H'
   have live : ∀ j e1, hget (hpK ks es' m ++ H') j = some e1 -> ∃ e2, hget H' j = some e2 := fun j e1 hj => by
    by_cases hjk : ∃ i, i < m /\ ks i = j
    . obtain ⟨i, hi, rfl⟩ := hjk; exact ⟨es i, hk' i hi⟩
    . rw [hl j fun i hi e => hjk ⟨i, hi, e⟩] at hj; exact ⟨e1, hj⟩
   have hwr2 : ∀ b, wr r (hpK ks es' m ++ H') b -> wr r H' b := by
    rintro b ⟨j, e1, y, h1, h2, h3⟩
    obtain ⟨e2, h1⟩ := live j e1 h1
    exact ⟨j, e2, y, h1, h2, h3⟩
   have hE : Ext r (wr r H') w r (wr r (hpK ks es' m ++ H')) w' := ⟨fun _ _ h => h, o4, fun b hb hw => o5 b hb fun hbx => hw (hsubW b hbx), fun b _ hb => hwr2 b hb⟩
   refine ⟨v, rfl, r, hE, ⟨o1.trans st.os, o2.trans st.tape, o3.trans st.output, Nat.le_trans st.size o4, fun b hb hne => ?_, st.xlt, fun j y hy => ?_, fun j e1 y hj hy => ?_, fun n k e1 e2 y z h1 h2 hy hz hyz => ?_, st.pin, fun j e1 hj => ?_⟩, fun _ _ => rfl, fun j e1 hj => .inr (live j e1 hj), ?_⟩
   . rw [<- st.kept b hb hne]
     refine o5 b (Nat.lt_of_lt_of_le hb st.size) ?_
     rintro ⟨k, hkm, hkb⟩
     rcases st.ow (ks k) (es k) (xs k) (hk' k hkm) (hxs k hkm) with h | h
     . omega
     . exact hne (hkb ▸ h)
   . obtain ⟨a1, a2, a3⟩ := st.dom j y hy
     exact ⟨Nat.lt_of_lt_of_le a1 o4, a2, a3⟩
   . obtain ⟨e2, hj⟩ := live j e1 hj
     exact st.ow j e2 y hj hy
   . obtain ⟨e1', h1⟩ := live n e1 h1
     obtain ⟨e2', h2⟩ := live k e2 h2
     exact st.inj n k e1' e2' y z h1 h2 hy hz hyz
   . have hj' : hget (hpK ks es' m ++ H') j = some e1 := hj
     by_cases hjk : ∃ i, i < m /\ ks i = j
     . obtain ⟨i, hi, rfl⟩ := hjk
       rw [hl0 i hi] at hj'; injection hj' with hj'; subst hj'
       rw [hxs i hi]
       exact hout i hi r _ cx.X (wr r (hpK ks es' m ++ H')) _ w' (some (xs i)) w'.heap (fun b hb => hY b (hwr2 b hb)) (o6 i hi)
     . have hjk' : ∀ i, i < m -> ks i ≠ j := fun i hi e => hjk ⟨i, hi, e⟩
       rw [hl j hjk'] at hj'
       have hold := st.old hj' rfl (w' := w') fun y hy => o5 _ (st.dom j y hy).1 (by
        rintro ⟨k, hkm, hkb⟩
        exact hjk' k hkm (st.inj (ks k) j (es k) e1 (xs k) y (hk' k hkm) hj' (hxs k hkm) hy hkb))
       exact hold.ext hE
   . exact hfl _ _ _ _ _ _ _ _ _ o7
def tmN (sh : Bool) (b : List Int) (q e : Int) : Nat -> Ent := fun i =>
 bif Nat.beq i 0 then ⟨26, 1, 1, true, fun _ _ => .sl sh b.length 1 (rowF eB b)⟩ else bif Nat.beq i 1 then ⟨3, 1, 1, true, fun _ _ => .int .i64 q⟩ else ⟨46, 1, 1, true, fun _ _ => .int .i64 e⟩
def takeF (b : List Int) (q n e : Int) : Int × Int × Int := ((uintF b q n).1, q + n, if q + n <= b.length then e else 4)
def tmE : Entry := fun args H _ _ =>
 match args with
 | [.e (.c (.int .i64 n)), .e (.c (.ptr k0 0 0 false)), .e (.c (.ptr k1 0 0 false)), .e (.c (.ptr k2 0 0 false))] =>
   match hget H k0, hget H k1, hget H k2 with
   | some ⟨t0, n0, z0, v0, f0⟩, some ⟨t1, n1, z1, v1, f1⟩, some ⟨t2, n2, z2, v2, f2⟩ =>
     match f0 0 0, f1 0 0, f2 0 0 with
     | .sl sh ln s g, .int .i64 q, .int .i64 e =>
       bif Nat.beq t0 26 && Nat.beq n0 1 && Nat.beq z0 1 && v0 && (Nat.beq t1 3 && Nat.beq n1 1 && Nat.beq z1 1 && v1) && (Nat.beq t2 46 && Nat.beq n2 1 && Nat.beq z2 1 && v2) && Nat.beq s 1 && !(Nat.beq k0 k1) && !(Nat.beq k0 k2) && !(Nat.beq k1 k2) then
        some fun K => ∃ b : List Int, (ln = b.length /\ g = rowF eB b /\ (BL b /\ b.length <= 140737488355328) /\ (0 <= q /\ q <= 100) /\ (1 <= n /\ n <= 8)) /\ ∀ s, s = takeF b q n e -> K ((cI .u64).enc s.1) [(k2, some (tmN false b s.2.1 s.2.2 2)), (k1, some (tmN false b s.2.1 s.2.2 1)), (k0, some (tmN false b s.2.1 s.2.2 0))] [k0, k1, k2] else none
     | _, _, _ => none
   | _, _, _ => none
 | _ => none
def k3 (k0 k1 k2 : Nat) (i : Nat) : Nat := bif Nat.beq i 0 then k0 else bif Nat.beq i 1 then k1 else k2
theorem i3 {i : Nat} (h : i < 3) : i = 0 \/ i = 1 \/ i = 2 := by omega
theorem beq_no {a b : Nat} (h : Nat.beq a b = false) : a ≠ b := fun e => by subst e; simp at h
theorem tmE_ok {P : Program} {f : FuncId} (hb : hasBody P f) (h : ∀ b q n e, BL b -> b.length <= 140737488355328 -> (0 <= q /\ q <= 100) -> (1 <= n /\ n <= 8) -> MultOk P f [(cI .i64).enc n] 3 (tmN true b q e) ((cI .u64).enc (takeF b q n e).1) (tmN true b (takeF b q n e).2.1 (takeF b q n e).2.2)) : EntOk P f tmE := by
 refine ⟨fun args H nm wd q _ hq K hK => ?_, fun args H nm wd q hq K K' hKK hK => ?_⟩
 . unfold tmE at hq
   split at hq
   . rename_i n k0 k1 k2
     split at hq
     . rename_i t0 n0 z0 v0 f0 t1 n1 z1 v1 f1 t2 n2 z2 v2 f2 he0 he1 he2
       split at hq
       . rename_i sh ln s g q0 e0 hg0 hg1 hg2
         obtain ⟨hc, hq⟩ := cond_some hq
         subst hq
         simp only [Bool.and_eq_true, Bool.not_eq_true'] at hc
         obtain ⟨⟨⟨⟨⟨⟨⟨⟨⟨a1, a2⟩, a3⟩, a4⟩, ⟨⟨⟨b1, b2⟩, b3⟩, b4⟩⟩, ⟨⟨⟨c1, c2⟩, c3⟩, c4⟩⟩, d1⟩, d2⟩, d3⟩, d4⟩ := hc
         have a1 := Nat.eq_of_beq_eq_true a1
         have a2 := Nat.eq_of_beq_eq_true a2
         have a3 := Nat.eq_of_beq_eq_true a3
         have b1 := Nat.eq_of_beq_eq_true b1
         have b2 := Nat.eq_of_beq_eq_true b2
         have b3 := Nat.eq_of_beq_eq_true b3
         have c1 := Nat.eq_of_beq_eq_true c1
         have c2 := Nat.eq_of_beq_eq_true c2
         have c3 := Nat.eq_of_beq_eq_true c3
         have d1 := Nat.eq_of_beq_eq_true d1
         subst a1 a2 a3 a4 b1 b2 b3 b4 c1 c2 c3 c4 d1
         have d2 := beq_no d2
         have d3 := beq_no d3
         have d4 := beq_no d4
         obtain ⟨b, ⟨h1, h2, ⟨h3, h4⟩, h5, h6⟩, hK⟩ := hK
         subst h1 h2
         have hm := h b q0 n e0 h3 h4 h5 h6
         have hx : ∀ i, i < 3 -> hget H (k3 k0 k1 k2 i) = some ((fun i => bif Nat.beq i 0 then (⟨26, 1, 1, true, f0⟩ : Ent) else bif Nat.beq i 1 then ⟨3, 1, 1, true, f1⟩ else ⟨46, 1, 1, true, f2⟩) i) := fun i hi => by
          rcases i3 hi with rfl | rfl | rfl
          . exact he0
          . exact he1
          . exact he2
         refine ⟨_, _, _, callR_mrd (m := 3) (ks := k3 k0 k1 k2) (rest := [(cI .i64).enc n]) (rest' := [(cI .i64).enc n]) (rd := []) (es := fun i => bif Nat.beq i 0 then (⟨26, 1, 1, true, f0⟩ : Ent) else bif Nat.beq i 1 then ⟨3, 1, 1, true, f1⟩ else ⟨46, 1, 1, true, f2⟩) (eT := tmN true b q0 e0) (eT' := tmN true b (takeF b q0 n e0).2.1 (takeF b q0 n e0).2.2) (es' := tmN false b (takeF b q0 n e0).2.1 (takeF b q0 n e0).2.2) hb ?_ hx ?_ ?_ ?_ ?_ ?_ (fun H' hh => (AC.cons (cI .i64) AC.nil).sound H H' [(cI .i64).enc n] (n, ()) none [] rfl trivial hh) hm, hK _ rfl⟩
         . intro i hi j hj hij
           rcases i3 hi with rfl | rfl | rfl <;> rcases i3 hj with rfl | rfl | rfl <;> first | rfl | exact absurd hij d2 | exact absurd hij d3 | exact absurd hij d4 | exact absurd hij.symm d2 | exact absurd hij.symm d3 | exact absurd hij.symm d4
         . intro i hi
           rcases i3 hi with rfl | rfl | rfl <;> rfl
         . intro i hi hm
           cases hm
         . intro i hi r X W w o hp X' W' hX hW hE
           rcases i3 hi with rfl | rfl | rfl
           . refine entIn_map (e := ⟨26, 1, 1, true, f0⟩) (e' := tmN true b q0 e0 0) rfl rfl rfl rfl (fun i hi j hj u hu => ?_) hE
             have hi' : i < 1 := hi
             have hj' : j < 1 := hj
             obtain rfl : i = 0 := by omega
             obtain rfl : j = 0 := by omega
             have hu' : (f0 0 0).rel r X W w u := hu
             rw [hg0] at hu'
             exact sl_in hX hW hu'
           . refine entIn_map (e := ⟨3, 1, 1, true, f1⟩) (e' := tmN true b q0 e0 1) rfl rfl rfl rfl (fun i hi j hj u hu => ?_) hE
             have hi' : i < 1 := hi
             have hj' : j < 1 := hj
             obtain rfl : i = 0 := by omega
             obtain rfl : j = 0 := by omega
             have hu' : (f1 0 0).rel r X W w u := hu
             rw [hg1] at hu'
             exact hu'
           . refine entIn_map (e := ⟨46, 1, 1, true, f2⟩) (e' := tmN true b q0 e0 2) rfl rfl rfl rfl (fun i hi j hj u hu => ?_) hE
             have hi' : i < 1 := hi
             have hj' : j < 1 := hj
             obtain rfl : i = 0 := by omega
             obtain rfl : j = 0 := by omega
             have hu' : (f2 0 0).rel r X W w u := hu
             rw [hg2] at hu'
             exact hu'
         . intro i hi r X X2 W W' w o hp hW hE
           rcases i3 hi with rfl | rfl | rfl
           . exact entIn_map (e := tmN true b (takeF b q0 n e0).2.1 (takeF b q0 n e0).2.2 0) (e' := tmN false b (takeF b q0 n e0).2.1 (takeF b q0 n e0).2.2 0) rfl rfl rfl rfl (fun i hi j hj u hu => sl_out hW hu) hE
           . exact entIn_map (e := tmN true b (takeF b q0 n e0).2.1 (takeF b q0 n e0).2.2 1) (e' := tmN false b (takeF b q0 n e0).2.1 (takeF b q0 n e0).2.2 1) rfl rfl rfl rfl (fun i hi j hj u hu => (by exact hu)) hE
           . exact entIn_map (e := tmN true b (takeF b q0 n e0).2.1 (takeF b q0 n e0).2.2 2) (e' := tmN false b (takeF b q0 n e0).2.1 (takeF b q0 n e0).2.2 2) rfl rfl rfl rfl (fun i hi j hj u hu => (by exact hu)) hE
         . exact flatF_e (flatE_c flat_int)
       . cases hq
     . cases hq
   . cases hq
 . unfold tmE at hq
   split at hq
   . split at hq
     . split at hq
       . obtain ⟨hc, hq⟩ := cond_some hq
         subst hq
         obtain ⟨b, h1, h2⟩ := hK
         exact ⟨b, h1, fun s hs => hKK _ _ _ (h2 s hs)⟩
       . cases hq
     . cases hq
   . cases hq
end Go.Proofs.YtjknkfjhcapocaaGreatDoor.AX
