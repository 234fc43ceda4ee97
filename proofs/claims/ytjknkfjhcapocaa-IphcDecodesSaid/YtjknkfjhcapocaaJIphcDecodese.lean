/- Texts of one's own in one file: Rd4d, Rd4, RdI, Rd5, Is, Rd6, Rd7, Rd8p, Rd8q, Rd8, R12d, Ra, Ja, Jb, Ju, Re, R12h, Re2, Re3, Dq. -/
import Derived.Test.YtjknkfjhcapocaaJIphcDecodesd
import Derived.Test.YtjknkfjhcapocaaJIphcDecodesc
set_option linter.unusedVariables false
set_option linter.unusedSimpArgs false
set_option maxHeartbeats 16000000
set_option maxRecDepth 20000
namespace Go.Proofs.Ytjknkfjhcapocaa.AX
open Go.RowKit
theorem fields_99 (b : List Int) (q : Int) (hr : RdOk b q) : MethOk Try.prog 99 [(cI .i64).enc 99] (rdN true b q) (encRH (fieldsD b 99 q).1) (rdN true b (fieldsD b 99 q).2) := by
 obtain ⟨W, hW⟩ : ∃ W, fieldsD b 99 q = W := ⟨_, rfl⟩
 have eW : W = (if (numF b q 1).1.2 = 0 then (if (numF b (numF b q 1).2 3).1.2 = 0 then (if 1048575 < (numF b (numF b q 1).2 3).1.1 then ((zeroH, 5), (numF b (numF b q 1).2 3).2) else (if (numF b (numF b (numF b q 1).2 3).2 1).1.2 = 0 then (if (numF b (numF b (numF b q 1).2 3).2 1).1.1 = 17 then ((zeroH, 5), (numF b (numF b (numF b q 1).2 3).2 1).2) else ((⟨(numF b q 1).1.1, (numF b (numF b q 1).2 3).1.1, (numF b (numF b (numF b q 1).2 3).2 1).1.1, 255, zeroA, zeroA, 0, 0⟩, 0), (numF b (numF b (numF b q 1).2 3).2 1).2)) else ((zeroH, (numF b (numF b (numF b q 1).2 3).2 1).1.2), (numF b (numF b (numF b q 1).2 3).2 1).2))) else ((zeroH, (numF b (numF b q 1).2 3).1.2), (numF b (numF b q 1).2 3).2)) else ((zeroH, (numF b q 1).1.2), (numF b q 1).2)) := by
  rw [<- hW]
  simp (decide := true) only [fieldsD, thenD, hopV, if_true, if_false, true_and, and_true, false_and]
 rw [hW]
 clear hW
 have v1 := num1_v (q := q) hr.bl
 have r1 := num_ok (n := 1) hr
 obtain ⟨N1, e1⟩ : ∃ x, numF b q 1 = x := ⟨_, rfl⟩
 rw [e1] at v1 r1 eW
 have v2 := num3_v (q := N1.2) hr.bl
 have r2 := num_ok (n := 3) r1
 obtain ⟨N2, e2⟩ : ∃ x, numF b N1.2 3 = x := ⟨_, rfl⟩
 rw [e2] at v2 r2 eW
 have v3 := num1_v (q := N2.2) hr.bl
 have r3 := num_ok (n := 1) r2
 obtain ⟨N3, e3⟩ : ∃ x, numF b N2.2 1 = x := ⟨_, rfl⟩
 rw [e3] at v3 r3 eW
 have wc : IntKind.u8.wrap N1.1.1 = N1.1.1 := IntWalk.u8_in _ (by omega)
 have wf : IntKind.u32.wrap N2.1.1 = N2.1.1 := IntWalk.u32_in _ (by omega)
 have wn : IntKind.u8.wrap N3.1.1 = N3.1.1 := IntWalk.u8_in _ (by omega)
 have f0 : (¬ N1.1.2 = 0) -> W = ((zeroH, N1.1.2), N1.2) := fun h0 => by rw [eW, if_neg h0]
 have f1 : (N1.1.2 = 0) -> (¬ N2.1.2 = 0) -> W = ((zeroH, N2.1.2), N2.2) := fun h0 h1 => by rw [eW, if_pos h0, if_neg h1]
 have f2 : (N1.1.2 = 0) -> (N2.1.2 = 0) -> (1048575 < N2.1.1) -> W = ((zeroH, 5), N2.2) := fun h0 h1 h2 => by rw [eW, if_pos h0, if_pos h1, if_pos h2]
 have f3 : (N1.1.2 = 0) -> (N2.1.2 = 0) -> (¬ 1048575 < N2.1.1) -> (¬ N3.1.2 = 0) -> W = ((zeroH, N3.1.2), N3.2) := fun h0 h1 h2 h3 => by rw [eW, if_pos h0, if_pos h1, if_neg h2, if_neg h3]
 have f4 : (N1.1.2 = 0) -> (N2.1.2 = 0) -> (¬ 1048575 < N2.1.1) -> (N3.1.2 = 0) -> (N3.1.1 = 17) -> W = ((zeroH, 5), N3.2) := fun h0 h1 h2 h3 h4 => by rw [eW, if_pos h0, if_pos h1, if_neg h2, if_pos h3, if_pos h4]
 have f5 : (N1.1.2 = 0) -> (N2.1.2 = 0) -> (¬ 1048575 < N2.1.1) -> (N3.1.2 = 0) -> (¬ N3.1.1 = 17) -> W = ((⟨N1.1.1, N2.1.1, N3.1.1, 255, zeroA, zeroA, 0, 0⟩, 0), N3.2) := fun h0 h1 h2 h3 h4 => by rw [eW, if_pos h0, if_pos h1, if_neg h2, if_pos h3, if_neg h4]
 clear eW
 have g1 : True := trivial
 have g2 : True := trivial
 have g3 : True := trivial
 refine meth_intro (wd := 64) (Q := mkQ LRd1) (by decide) tysOk (q_of LRd1_ok) mixed Try.func99 rfl _ (by show 1 + 1 <= _; decide) (flatF_nff (encRH_flat _)) (rdN_nf) ?_
 repeat' (first | (apply And.intro <;> intro hc <;> (first | exact Bool.noConfusion hc | (exfalso; first | exact absurd hc (by decide) | exact absurd rfl hc | exact absurd hc (by assumption) | exact absurd (by assumption) hc) | (simp only [zb0, ne_eq, not_true_eq_false] at hc <;> first | exact absurd rfl hc | (exfalso; first | exact absurd hc (by decide) | exact absurd rfl hc | exact absurd hc (by assumption) | exact absurd (by assumption) hc) | skip) | skip)) | (refine And.intro (by first | exact trivial | decide | omega | (dsimp only; omega) | exact fun _ _ => rfl | exact ⟨by assumption, by first | exact trivial | decide | omega | (dsimp only; omega)⟩) ?_) | (apply And.intro) | (refine Exists.intro b (And.intro ⟨rfl, rfl, by first | exact ⟨by assumption, by decide, by decide⟩⟩ ?_)) | (intro s hs; (first | (clear g1; have q : N1 = s := (hs.trans e1).symm; clear hs; subst q) | (clear g2; have q : N2 = s := (hs.trans e2).symm; clear hs; subst q) | (clear g3; have q : N3 = s := (hs.trans e3).symm; clear hs; subst q) | skip)))
 all_goals try (first | exact rfl | exact Nat.le_of_ble_eq_true rfl)
 all_goals first
  | ((first | rw [f0 (by assumption)] | rw [f1 (by assumption) (by assumption)] | rw [f2 (by assumption) (by assumption) (by rw [<- wf]; assumption)] | rw [f3 (by assumption) (by assumption) (by rw [<- wf]; assumption) (by assumption)] | rw [f4 (by assumption) (by assumption) (by rw [<- wf]; assumption) (by assumption) (by rw [<- wn]; assumption)])
     exact ⟨leF_tup ⟨leE_tl (fun j hj => by (iterate 38 (rcases j with _ | j; exact leC_int rfl)); exact absurd hj (by omega)) leC_nils, leC_int rfl, trivial⟩, rdN_le rfl⟩)
  | (rw [f5 (by assumption) (by assumption) (by rw [<- wf]; assumption) (by assumption) (by rw [<- wn]; assumption)]
     exact ⟨leF_tup ⟨leE_tl (fun j hj => by (rcases j with _ | j; exact leC_int wc); (rcases j with _ | j; exact leC_int wf); (rcases j with _ | j; exact leC_int wn); (rcases j with _ | j; exact leC_int rfl); (iterate 34 (rcases j with _ | j; exact leC_int rfl)); exact absurd hj (by omega)) leC_nils, leC_int rfl, trivial⟩, rdN_le rfl⟩)
  | skip
theorem fields_103 (b : List Int) (q : Int) (hr : RdOk b q) : MethOk Try.prog 99 [(cI .i64).enc 103] (rdN true b q) (encRH (fieldsD b 103 q).1) (rdN true b (fieldsD b 103 q).2) := by
 obtain ⟨W, hW⟩ : ∃ W, fieldsD b 103 q = W := ⟨_, rfl⟩
 have eW : W = (if (numF b q 1).1.2 = 0 then (if (numF b (numF b q 1).2 3).1.2 = 0 then (if 1048575 < (numF b (numF b q 1).2 3).1.1 then ((zeroH, 5), (numF b (numF b q 1).2 3).2) else ((⟨(numF b q 1).1.1, (numF b (numF b q 1).2 3).1.1, 17, 255, zeroA, zeroA, 0, 0⟩, 0), (numF b (numF b q 1).2 3).2)) else ((zeroH, (numF b (numF b q 1).2 3).1.2), (numF b (numF b q 1).2 3).2)) else ((zeroH, (numF b q 1).1.2), (numF b q 1).2)) := by
  rw [<- hW]
  simp (decide := true) only [fieldsD, thenD, hopV, if_true, if_false, true_and, and_true, false_and]
 rw [hW]
 clear hW
 have v1 := num1_v (q := q) hr.bl
 have r1 := num_ok (n := 1) hr
 obtain ⟨N1, e1⟩ : ∃ x, numF b q 1 = x := ⟨_, rfl⟩
 rw [e1] at v1 r1 eW
 have v2 := num3_v (q := N1.2) hr.bl
 have r2 := num_ok (n := 3) r1
 obtain ⟨N2, e2⟩ : ∃ x, numF b N1.2 3 = x := ⟨_, rfl⟩
 rw [e2] at v2 r2 eW
 have wc : IntKind.u8.wrap N1.1.1 = N1.1.1 := IntWalk.u8_in _ (by omega)
 have wf : IntKind.u32.wrap N2.1.1 = N2.1.1 := IntWalk.u32_in _ (by omega)
 have f0 : (¬ N1.1.2 = 0) -> W = ((zeroH, N1.1.2), N1.2) := fun h0 => by rw [eW, if_neg h0]
 have f1 : (N1.1.2 = 0) -> (¬ N2.1.2 = 0) -> W = ((zeroH, N2.1.2), N2.2) := fun h0 h1 => by rw [eW, if_pos h0, if_neg h1]
 have f2 : (N1.1.2 = 0) -> (N2.1.2 = 0) -> (1048575 < N2.1.1) -> W = ((zeroH, 5), N2.2) := fun h0 h1 h2 => by rw [eW, if_pos h0, if_pos h1, if_pos h2]
 have f3 : (N1.1.2 = 0) -> (N2.1.2 = 0) -> (¬ 1048575 < N2.1.1) -> W = ((⟨N1.1.1, N2.1.1, 17, 255, zeroA, zeroA, 0, 0⟩, 0), N2.2) := fun h0 h1 h2 => by rw [eW, if_pos h0, if_pos h1, if_neg h2]
 clear eW
 have g1 : True := trivial
 have g2 : True := trivial
 refine meth_intro (wd := 64) (Q := mkQ LRd1) (by decide) tysOk (q_of LRd1_ok) mixed Try.func99 rfl _ (by show 1 + 1 <= _; decide) (flatF_nff (encRH_flat _)) (rdN_nf) ?_
 repeat' (first | (apply And.intro <;> intro hc <;> (first | exact Bool.noConfusion hc | (exfalso; first | exact absurd hc (by decide) | exact absurd rfl hc | exact absurd hc (by assumption) | exact absurd (by assumption) hc) | (simp only [zb0, ne_eq, not_true_eq_false] at hc <;> first | exact absurd rfl hc | (exfalso; first | exact absurd hc (by decide) | exact absurd rfl hc | exact absurd hc (by assumption) | exact absurd (by assumption) hc) | skip) | skip)) | (refine And.intro (by first | exact trivial | decide | omega | (dsimp only; omega) | exact fun _ _ => rfl | exact ⟨by assumption, by first | exact trivial | decide | omega | (dsimp only; omega)⟩) ?_) | (apply And.intro) | (refine Exists.intro b (And.intro ⟨rfl, rfl, by first | exact ⟨by assumption, by decide, by decide⟩⟩ ?_)) | (intro s hs; (first | (clear g1; have q : N1 = s := (hs.trans e1).symm; clear hs; subst q) | (clear g2; have q : N2 = s := (hs.trans e2).symm; clear hs; subst q) | skip)))
 all_goals try (first | exact rfl | exact Nat.le_of_ble_eq_true rfl)
 all_goals first
  | ((first | rw [f0 (by assumption)] | rw [f1 (by assumption) (by assumption)] | rw [f2 (by assumption) (by assumption) (by rw [<- wf]; assumption)])
     exact ⟨leF_tup ⟨leE_tl (fun j hj => by (iterate 38 (rcases j with _ | j; exact leC_int rfl)); exact absurd hj (by omega)) leC_nils, leC_int rfl, trivial⟩, rdN_le rfl⟩)
  | (rw [f3 (by assumption) (by assumption) (by rw [<- wf]; assumption)]
     exact ⟨leF_tup ⟨leE_tl (fun j hj => by (rcases j with _ | j; exact leC_int wc); (rcases j with _ | j; exact leC_int wf); (rcases j with _ | j; exact leC_int rfl); (rcases j with _ | j; exact leC_int rfl); (iterate 34 (rcases j with _ | j; exact leC_int rfl)); exact absurd hj (by omega)) leC_nils, leC_int rfl, trivial⟩, rdN_le rfl⟩)
  | skip
theorem fields_107 (b : List Int) (q : Int) (hr : RdOk b q) : MethOk Try.prog 99 [(cI .i64).enc 107] (rdN true b q) (encRH (fieldsD b 107 q).1) (rdN true b (fieldsD b 107 q).2) := by
 obtain ⟨W, hW⟩ : ∃ W, fieldsD b 107 q = W := ⟨_, rfl⟩
 have eW : W = (if (numF b q 3).1.2 = 0 then (if 1048575 < (numF b q 3).1.1 then ((zeroH, 5), (numF b q 3).2) else (if (numF b (numF b q 3).2 1).1.2 = 0 then (if (numF b (numF b q 3).2 1).1.1 = 17 then ((zeroH, 5), (numF b (numF b q 3).2 1).2) else ((⟨0, (numF b q 3).1.1, (numF b (numF b q 3).2 1).1.1, 255, zeroA, zeroA, 0, 0⟩, 0), (numF b (numF b q 3).2 1).2)) else ((zeroH, (numF b (numF b q 3).2 1).1.2), (numF b (numF b q 3).2 1).2))) else ((zeroH, (numF b q 3).1.2), (numF b q 3).2)) := by
  rw [<- hW]
  simp (decide := true) only [fieldsD, thenD, hopV, if_true, if_false, true_and, and_true, false_and]
 rw [hW]
 clear hW
 have v1 := num3_v (q := q) hr.bl
 have r1 := num_ok (n := 3) hr
 obtain ⟨N1, e1⟩ : ∃ x, numF b q 3 = x := ⟨_, rfl⟩
 rw [e1] at v1 r1 eW
 have v2 := num1_v (q := N1.2) hr.bl
 have r2 := num_ok (n := 1) r1
 obtain ⟨N2, e2⟩ : ∃ x, numF b N1.2 1 = x := ⟨_, rfl⟩
 rw [e2] at v2 r2 eW
 have wf : IntKind.u32.wrap N1.1.1 = N1.1.1 := IntWalk.u32_in _ (by omega)
 have wn : IntKind.u8.wrap N2.1.1 = N2.1.1 := IntWalk.u8_in _ (by omega)
 have f0 : (¬ N1.1.2 = 0) -> W = ((zeroH, N1.1.2), N1.2) := fun h0 => by rw [eW, if_neg h0]
 have f1 : (N1.1.2 = 0) -> (1048575 < N1.1.1) -> W = ((zeroH, 5), N1.2) := fun h0 h1 => by rw [eW, if_pos h0, if_pos h1]
 have f2 : (N1.1.2 = 0) -> (¬ 1048575 < N1.1.1) -> (¬ N2.1.2 = 0) -> W = ((zeroH, N2.1.2), N2.2) := fun h0 h1 h2 => by rw [eW, if_pos h0, if_neg h1, if_neg h2]
 have f3 : (N1.1.2 = 0) -> (¬ 1048575 < N1.1.1) -> (N2.1.2 = 0) -> (N2.1.1 = 17) -> W = ((zeroH, 5), N2.2) := fun h0 h1 h2 h3 => by rw [eW, if_pos h0, if_neg h1, if_pos h2, if_pos h3]
 have f4 : (N1.1.2 = 0) -> (¬ 1048575 < N1.1.1) -> (N2.1.2 = 0) -> (¬ N2.1.1 = 17) -> W = ((⟨0, N1.1.1, N2.1.1, 255, zeroA, zeroA, 0, 0⟩, 0), N2.2) := fun h0 h1 h2 h3 => by rw [eW, if_pos h0, if_neg h1, if_pos h2, if_neg h3]
 clear eW
 have g1 : True := trivial
 have g2 : True := trivial
 refine meth_intro (wd := 64) (Q := mkQ LRd1) (by decide) tysOk (q_of LRd1_ok) mixed Try.func99 rfl _ (by show 1 + 1 <= _; decide) (flatF_nff (encRH_flat _)) (rdN_nf) ?_
 repeat' (first | (apply And.intro <;> intro hc <;> (first | exact Bool.noConfusion hc | (exfalso; first | exact absurd hc (by decide) | exact absurd rfl hc | exact absurd hc (by assumption) | exact absurd (by assumption) hc) | (simp only [zb0, ne_eq, not_true_eq_false] at hc <;> first | exact absurd rfl hc | (exfalso; first | exact absurd hc (by decide) | exact absurd rfl hc | exact absurd hc (by assumption) | exact absurd (by assumption) hc) | skip) | skip)) | (refine And.intro (by first | exact trivial | decide | omega | (dsimp only; omega) | exact fun _ _ => rfl | exact ⟨by assumption, by first | exact trivial | decide | omega | (dsimp only; omega)⟩) ?_) | (apply And.intro) | (refine Exists.intro b (And.intro ⟨rfl, rfl, by first | exact ⟨by assumption, by decide, by decide⟩⟩ ?_)) | (intro s hs; (first | (clear g1; have q : N1 = s := (hs.trans e1).symm; clear hs; subst q) | (clear g2; have q : N2 = s := (hs.trans e2).symm; clear hs; subst q) | skip)))
 all_goals try (first | exact rfl | exact Nat.le_of_ble_eq_true rfl)
 all_goals first
  | ((first | rw [f0 (by assumption)] | rw [f1 (by assumption) (by rw [<- wf]; assumption)] | rw [f2 (by assumption) (by rw [<- wf]; assumption) (by assumption)] | rw [f3 (by assumption) (by rw [<- wf]; assumption) (by assumption) (by rw [<- wn]; assumption)])
     exact ⟨leF_tup ⟨leE_tl (fun j hj => by (iterate 38 (rcases j with _ | j; exact leC_int rfl)); exact absurd hj (by omega)) leC_nils, leC_int rfl, trivial⟩, rdN_le rfl⟩)
  | (rw [f4 (by assumption) (by rw [<- wf]; assumption) (by assumption) (by rw [<- wn]; assumption)]
     exact ⟨leF_tup ⟨leE_tl (fun j hj => by (rcases j with _ | j; exact leC_int rfl); (rcases j with _ | j; exact leC_int wf); (rcases j with _ | j; exact leC_int wn); (rcases j with _ | j; exact leC_int rfl); (iterate 34 (rcases j with _ | j; exact leC_int rfl)); exact absurd hj (by omega)) leC_nils, leC_int rfl, trivial⟩, rdN_le rfl⟩)
  | skip
theorem fields_111 (b : List Int) (q : Int) (hr : RdOk b q) : MethOk Try.prog 99 [(cI .i64).enc 111] (rdN true b q) (encRH (fieldsD b 111 q).1) (rdN true b (fieldsD b 111 q).2) := by
 obtain ⟨W, hW⟩ : ∃ W, fieldsD b 111 q = W := ⟨_, rfl⟩
 have eW : W = (if (numF b q 3).1.2 = 0 then (if 1048575 < (numF b q 3).1.1 then ((zeroH, 5), (numF b q 3).2) else ((⟨0, (numF b q 3).1.1, 17, 255, zeroA, zeroA, 0, 0⟩, 0), (numF b q 3).2)) else ((zeroH, (numF b q 3).1.2), (numF b q 3).2)) := by
  rw [<- hW]
  simp (decide := true) only [fieldsD, thenD, hopV, if_true, if_false, true_and, and_true, false_and]
 rw [hW]
 clear hW
 have v1 := num3_v (q := q) hr.bl
 have r1 := num_ok (n := 3) hr
 obtain ⟨N1, e1⟩ : ∃ x, numF b q 3 = x := ⟨_, rfl⟩
 rw [e1] at v1 r1 eW
 have wf : IntKind.u32.wrap N1.1.1 = N1.1.1 := IntWalk.u32_in _ (by omega)
 have f0 : (¬ N1.1.2 = 0) -> W = ((zeroH, N1.1.2), N1.2) := fun h0 => by rw [eW, if_neg h0]
 have f1 : (N1.1.2 = 0) -> (1048575 < N1.1.1) -> W = ((zeroH, 5), N1.2) := fun h0 h1 => by rw [eW, if_pos h0, if_pos h1]
 have f2 : (N1.1.2 = 0) -> (¬ 1048575 < N1.1.1) -> W = ((⟨0, N1.1.1, 17, 255, zeroA, zeroA, 0, 0⟩, 0), N1.2) := fun h0 h1 => by rw [eW, if_pos h0, if_neg h1]
 clear eW
 have g1 : True := trivial
 refine meth_intro (wd := 64) (Q := mkQ LRd1) (by decide) tysOk (q_of LRd1_ok) mixed Try.func99 rfl _ (by show 1 + 1 <= _; decide) (flatF_nff (encRH_flat _)) (rdN_nf) ?_
 repeat' (first | (apply And.intro <;> intro hc <;> (first | exact Bool.noConfusion hc | (exfalso; first | exact absurd hc (by decide) | exact absurd rfl hc | exact absurd hc (by assumption) | exact absurd (by assumption) hc) | (simp only [zb0, ne_eq, not_true_eq_false] at hc <;> first | exact absurd rfl hc | (exfalso; first | exact absurd hc (by decide) | exact absurd rfl hc | exact absurd hc (by assumption) | exact absurd (by assumption) hc) | skip) | skip)) | (refine And.intro (by first | exact trivial | decide | omega | (dsimp only; omega) | exact fun _ _ => rfl | exact ⟨by assumption, by first | exact trivial | decide | omega | (dsimp only; omega)⟩) ?_) | (apply And.intro) | (refine Exists.intro b (And.intro ⟨rfl, rfl, by first | exact ⟨by assumption, by decide, by decide⟩⟩ ?_)) | (intro s hs; (first | (clear g1; have q : N1 = s := (hs.trans e1).symm; clear hs; subst q) | skip)))
 all_goals try (first | exact rfl | exact Nat.le_of_ble_eq_true rfl)
 all_goals first
  | ((first | rw [f0 (by assumption)] | rw [f1 (by assumption) (by rw [<- wf]; assumption)])
     exact ⟨leF_tup ⟨leE_tl (fun j hj => by (iterate 38 (rcases j with _ | j; exact leC_int rfl)); exact absurd hj (by omega)) leC_nils, leC_int rfl, trivial⟩, rdN_le rfl⟩)
  | (rw [f2 (by assumption) (by rw [<- wf]; assumption)]
     exact ⟨leF_tup ⟨leE_tl (fun j hj => by (rcases j with _ | j; exact leC_int rfl); (rcases j with _ | j; exact leC_int wf); (rcases j with _ | j; exact leC_int rfl); (rcases j with _ | j; exact leC_int rfl); (iterate 34 (rcases j with _ | j; exact leC_int rfl)); exact absurd hj (by omega)) leC_nils, leC_int rfl, trivial⟩, rdN_le rfl⟩)
  | skip
theorem fields_115 (b : List Int) (q : Int) (hr : RdOk b q) : MethOk Try.prog 99 [(cI .i64).enc 115] (rdN true b q) (encRH (fieldsD b 115 q).1) (rdN true b (fieldsD b 115 q).2) := by
 obtain ⟨W, hW⟩ : ∃ W, fieldsD b 115 q = W := ⟨_, rfl⟩
 have eW : W = (if (numF b q 1).1.2 = 0 then (if (numF b (numF b q 1).2 1).1.2 = 0 then (if (numF b (numF b q 1).2 1).1.1 = 17 then ((zeroH, 5), (numF b (numF b q 1).2 1).2) else ((⟨(numF b q 1).1.1, 0, (numF b (numF b q 1).2 1).1.1, 255, zeroA, zeroA, 0, 0⟩, 0), (numF b (numF b q 1).2 1).2)) else ((zeroH, (numF b (numF b q 1).2 1).1.2), (numF b (numF b q 1).2 1).2)) else ((zeroH, (numF b q 1).1.2), (numF b q 1).2)) := by
  rw [<- hW]
  simp (decide := true) only [fieldsD, thenD, hopV, if_true, if_false, true_and, and_true, false_and]
 rw [hW]
 clear hW
 have v1 := num1_v (q := q) hr.bl
 have r1 := num_ok (n := 1) hr
 obtain ⟨N1, e1⟩ : ∃ x, numF b q 1 = x := ⟨_, rfl⟩
 rw [e1] at v1 r1 eW
 have v2 := num1_v (q := N1.2) hr.bl
 have r2 := num_ok (n := 1) r1
 obtain ⟨N2, e2⟩ : ∃ x, numF b N1.2 1 = x := ⟨_, rfl⟩
 rw [e2] at v2 r2 eW
 have wc : IntKind.u8.wrap N1.1.1 = N1.1.1 := IntWalk.u8_in _ (by omega)
 have wn : IntKind.u8.wrap N2.1.1 = N2.1.1 := IntWalk.u8_in _ (by omega)
 have f0 : (¬ N1.1.2 = 0) -> W = ((zeroH, N1.1.2), N1.2) := fun h0 => by rw [eW, if_neg h0]
 have f1 : (N1.1.2 = 0) -> (¬ N2.1.2 = 0) -> W = ((zeroH, N2.1.2), N2.2) := fun h0 h1 => by rw [eW, if_pos h0, if_neg h1]
 have f2 : (N1.1.2 = 0) -> (N2.1.2 = 0) -> (N2.1.1 = 17) -> W = ((zeroH, 5), N2.2) := fun h0 h1 h2 => by rw [eW, if_pos h0, if_pos h1, if_pos h2]
 have f3 : (N1.1.2 = 0) -> (N2.1.2 = 0) -> (¬ N2.1.1 = 17) -> W = ((⟨N1.1.1, 0, N2.1.1, 255, zeroA, zeroA, 0, 0⟩, 0), N2.2) := fun h0 h1 h2 => by rw [eW, if_pos h0, if_pos h1, if_neg h2]
 clear eW
 have g1 : True := trivial
 have g2 : True := trivial
 refine meth_intro (wd := 64) (Q := mkQ LRd1) (by decide) tysOk (q_of LRd1_ok) mixed Try.func99 rfl _ (by show 1 + 1 <= _; decide) (flatF_nff (encRH_flat _)) (rdN_nf) ?_
 repeat' (first | (apply And.intro <;> intro hc <;> (first | exact Bool.noConfusion hc | (exfalso; first | exact absurd hc (by decide) | exact absurd rfl hc | exact absurd hc (by assumption) | exact absurd (by assumption) hc) | (simp only [zb0, ne_eq, not_true_eq_false] at hc <;> first | exact absurd rfl hc | (exfalso; first | exact absurd hc (by decide) | exact absurd rfl hc | exact absurd hc (by assumption) | exact absurd (by assumption) hc) | skip) | skip)) | (refine And.intro (by first | exact trivial | decide | omega | (dsimp only; omega) | exact fun _ _ => rfl | exact ⟨by assumption, by first | exact trivial | decide | omega | (dsimp only; omega)⟩) ?_) | (apply And.intro) | (refine Exists.intro b (And.intro ⟨rfl, rfl, by first | exact ⟨by assumption, by decide, by decide⟩⟩ ?_)) | (intro s hs; (first | (clear g1; have q : N1 = s := (hs.trans e1).symm; clear hs; subst q) | (clear g2; have q : N2 = s := (hs.trans e2).symm; clear hs; subst q) | skip)))
 all_goals try (first | exact rfl | exact Nat.le_of_ble_eq_true rfl)
 all_goals first
  | ((first | rw [f0 (by assumption)] | rw [f1 (by assumption) (by assumption)] | rw [f2 (by assumption) (by assumption) (by rw [<- wn]; assumption)])
     exact ⟨leF_tup ⟨leE_tl (fun j hj => by (iterate 38 (rcases j with _ | j; exact leC_int rfl)); exact absurd hj (by omega)) leC_nils, leC_int rfl, trivial⟩, rdN_le rfl⟩)
  | (rw [f3 (by assumption) (by assumption) (by rw [<- wn]; assumption)]
     exact ⟨leF_tup ⟨leE_tl (fun j hj => by (rcases j with _ | j; exact leC_int wc); (rcases j with _ | j; exact leC_int rfl); (rcases j with _ | j; exact leC_int wn); (rcases j with _ | j; exact leC_int rfl); (iterate 34 (rcases j with _ | j; exact leC_int rfl)); exact absurd hj (by omega)) leC_nils, leC_int rfl, trivial⟩, rdN_le rfl⟩)
  | skip
theorem fields_119 (b : List Int) (q : Int) (hr : RdOk b q) : MethOk Try.prog 99 [(cI .i64).enc 119] (rdN true b q) (encRH (fieldsD b 119 q).1) (rdN true b (fieldsD b 119 q).2) := by
 obtain ⟨W, hW⟩ : ∃ W, fieldsD b 119 q = W := ⟨_, rfl⟩
 have eW : W = (if (numF b q 1).1.2 = 0 then ((⟨(numF b q 1).1.1, 0, 17, 255, zeroA, zeroA, 0, 0⟩, 0), (numF b q 1).2) else ((zeroH, (numF b q 1).1.2), (numF b q 1).2)) := by
  rw [<- hW]
  simp (decide := true) only [fieldsD, thenD, hopV, if_true, if_false, true_and, and_true, false_and]
 rw [hW]
 clear hW
 have v1 := num1_v (q := q) hr.bl
 have r1 := num_ok (n := 1) hr
 obtain ⟨N1, e1⟩ : ∃ x, numF b q 1 = x := ⟨_, rfl⟩
 rw [e1] at v1 r1 eW
 have wc : IntKind.u8.wrap N1.1.1 = N1.1.1 := IntWalk.u8_in _ (by omega)
 have f0 : (¬ N1.1.2 = 0) -> W = ((zeroH, N1.1.2), N1.2) := fun h0 => by rw [eW, if_neg h0]
 have f1 : (N1.1.2 = 0) -> W = ((⟨N1.1.1, 0, 17, 255, zeroA, zeroA, 0, 0⟩, 0), N1.2) := fun h0 => by rw [eW, if_pos h0]
 clear eW
 have g1 : True := trivial
 refine meth_intro (wd := 64) (Q := mkQ LRd1) (by decide) tysOk (q_of LRd1_ok) mixed Try.func99 rfl _ (by show 1 + 1 <= _; decide) (flatF_nff (encRH_flat _)) (rdN_nf) ?_
 repeat' (first | (apply And.intro <;> intro hc <;> (first | exact Bool.noConfusion hc | (exfalso; first | exact absurd hc (by decide) | exact absurd rfl hc | exact absurd hc (by assumption) | exact absurd (by assumption) hc) | (simp only [zb0, ne_eq, not_true_eq_false] at hc <;> first | exact absurd rfl hc | (exfalso; first | exact absurd hc (by decide) | exact absurd rfl hc | exact absurd hc (by assumption) | exact absurd (by assumption) hc) | skip) | skip)) | (refine And.intro (by first | exact trivial | decide | omega | (dsimp only; omega) | exact fun _ _ => rfl | exact ⟨by assumption, by first | exact trivial | decide | omega | (dsimp only; omega)⟩) ?_) | (apply And.intro) | (refine Exists.intro b (And.intro ⟨rfl, rfl, by first | exact ⟨by assumption, by decide, by decide⟩⟩ ?_)) | (intro s hs; (first | (clear g1; have q : N1 = s := (hs.trans e1).symm; clear hs; subst q) | skip)))
 all_goals try (first | exact rfl | exact Nat.le_of_ble_eq_true rfl)
 all_goals first
  | (rw [f0 (by assumption)]
     exact ⟨leF_tup ⟨leE_tl (fun j hj => by (iterate 38 (rcases j with _ | j; exact leC_int rfl)); exact absurd hj (by omega)) leC_nils, leC_int rfl, trivial⟩, rdN_le rfl⟩)
  | (rw [f1 (by assumption)]
     exact ⟨leF_tup ⟨leE_tl (fun j hj => by (rcases j with _ | j; exact leC_int wc); (rcases j with _ | j; exact leC_int rfl); (rcases j with _ | j; exact leC_int rfl); (rcases j with _ | j; exact leC_int rfl); (iterate 34 (rcases j with _ | j; exact leC_int rfl)); exact absurd hj (by omega)) leC_nils, leC_int rfl, trivial⟩, rdN_le rfl⟩)
  | skip
theorem fields_123 (b : List Int) (q : Int) (hr : RdOk b q) : MethOk Try.prog 99 [(cI .i64).enc 123] (rdN true b q) (encRH (fieldsD b 123 q).1) (rdN true b (fieldsD b 123 q).2) := by
 obtain ⟨W, hW⟩ : ∃ W, fieldsD b 123 q = W := ⟨_, rfl⟩
 have eW : W = (if (numF b q 1).1.2 = 0 then (if (numF b q 1).1.1 = 17 then ((zeroH, 5), (numF b q 1).2) else ((⟨0, 0, (numF b q 1).1.1, 255, zeroA, zeroA, 0, 0⟩, 0), (numF b q 1).2)) else ((zeroH, (numF b q 1).1.2), (numF b q 1).2)) := by
  rw [<- hW]
  simp (decide := true) only [fieldsD, thenD, hopV, if_true, if_false, true_and, and_true, false_and]
 rw [hW]
 clear hW
 have v1 := num1_v (q := q) hr.bl
 have r1 := num_ok (n := 1) hr
 obtain ⟨N1, e1⟩ : ∃ x, numF b q 1 = x := ⟨_, rfl⟩
 rw [e1] at v1 r1 eW
 have wn : IntKind.u8.wrap N1.1.1 = N1.1.1 := IntWalk.u8_in _ (by omega)
 have f0 : (¬ N1.1.2 = 0) -> W = ((zeroH, N1.1.2), N1.2) := fun h0 => by rw [eW, if_neg h0]
 have f1 : (N1.1.2 = 0) -> (N1.1.1 = 17) -> W = ((zeroH, 5), N1.2) := fun h0 h1 => by rw [eW, if_pos h0, if_pos h1]
 have f2 : (N1.1.2 = 0) -> (¬ N1.1.1 = 17) -> W = ((⟨0, 0, N1.1.1, 255, zeroA, zeroA, 0, 0⟩, 0), N1.2) := fun h0 h1 => by rw [eW, if_pos h0, if_neg h1]
 clear eW
 have g1 : True := trivial
 refine meth_intro (wd := 64) (Q := mkQ LRd1) (by decide) tysOk (q_of LRd1_ok) mixed Try.func99 rfl _ (by show 1 + 1 <= _; decide) (flatF_nff (encRH_flat _)) (rdN_nf) ?_
 repeat' (first | (apply And.intro <;> intro hc <;> (first | exact Bool.noConfusion hc | (exfalso; first | exact absurd hc (by decide) | exact absurd rfl hc | exact absurd hc (by assumption) | exact absurd (by assumption) hc) | (simp only [zb0, ne_eq, not_true_eq_false] at hc <;> first | exact absurd rfl hc | (exfalso; first | exact absurd hc (by decide) | exact absurd rfl hc | exact absurd hc (by assumption) | exact absurd (by assumption) hc) | skip) | skip)) | (refine And.intro (by first | exact trivial | decide | omega | (dsimp only; omega) | exact fun _ _ => rfl | exact ⟨by assumption, by first | exact trivial | decide | omega | (dsimp only; omega)⟩) ?_) | (apply And.intro) | (refine Exists.intro b (And.intro ⟨rfl, rfl, by first | exact ⟨by assumption, by decide, by decide⟩⟩ ?_)) | (intro s hs; (first | (clear g1; have q : N1 = s := (hs.trans e1).symm; clear hs; subst q) | skip)))
 all_goals try (first | exact rfl | exact Nat.le_of_ble_eq_true rfl)
 all_goals first
  | ((first | rw [f0 (by assumption)] | rw [f1 (by assumption) (by rw [<- wn]; assumption)])
     exact ⟨leF_tup ⟨leE_tl (fun j hj => by (iterate 38 (rcases j with _ | j; exact leC_int rfl)); exact absurd hj (by omega)) leC_nils, leC_int rfl, trivial⟩, rdN_le rfl⟩)
  | (rw [f2 (by assumption) (by rw [<- wn]; assumption)]
     exact ⟨leF_tup ⟨leE_tl (fun j hj => by (rcases j with _ | j; exact leC_int rfl); (rcases j with _ | j; exact leC_int rfl); (rcases j with _ | j; exact leC_int wn); (rcases j with _ | j; exact leC_int rfl); (iterate 34 (rcases j with _ | j; exact leC_int rfl)); exact absurd hj (by omega)) leC_nils, leC_int rfl, trivial⟩, rdN_le rfl⟩)
  | skip
theorem fields_127 (b : List Int) (q : Int) (hr : RdOk b q) : MethOk Try.prog 99 [(cI .i64).enc 127] (rdN true b q) (encRH (fieldsD b 127 q).1) (rdN true b (fieldsD b 127 q).2) := by
 obtain ⟨W, hW⟩ : ∃ W, fieldsD b 127 q = W := ⟨_, rfl⟩
 have eW : W = ((⟨0, 0, 17, 255, zeroA, zeroA, 0, 0⟩, 0), q) := by
  rw [<- hW]
  simp (decide := true) only [fieldsD, thenD, hopV, if_true, if_false, true_and, and_true, false_and]
 rw [hW]
 clear hW
 have f0 : W = ((⟨0, 0, 17, 255, zeroA, zeroA, 0, 0⟩, 0), q) := eW
 clear eW
 refine meth_intro (wd := 64) (Q := mkQ LRd1) (by decide) tysOk (q_of LRd1_ok) mixed Try.func99 rfl _ (by show 1 + 1 <= _; decide) (flatF_nff (encRH_flat _)) (rdN_nf) ?_
 repeat' (first | (apply And.intro <;> intro hc <;> (first | exact Bool.noConfusion hc | (exfalso; first | exact absurd hc (by decide) | exact absurd rfl hc | exact absurd hc (by assumption) | exact absurd (by assumption) hc) | (simp only [zb0, ne_eq, not_true_eq_false] at hc <;> first | exact absurd rfl hc | (exfalso; first | exact absurd hc (by decide) | exact absurd rfl hc | exact absurd hc (by assumption) | exact absurd (by assumption) hc) | skip) | skip)) | (refine And.intro (by first | exact trivial | decide | omega | (dsimp only; omega) | exact fun _ _ => rfl | exact ⟨by assumption, by first | exact trivial | decide | omega | (dsimp only; omega)⟩) ?_) | (apply And.intro) | (refine Exists.intro b (And.intro ⟨rfl, rfl, by first | exact ⟨by assumption, by decide, by decide⟩⟩ ?_)) | (intro s hs; (first  | skip)))
 all_goals try (first | exact rfl | exact Nat.le_of_ble_eq_true rfl)
 all_goals first
  | (rw [f0 ]
     exact ⟨leF_tup ⟨leE_tl (fun j hj => by (rcases j with _ | j; exact leC_int rfl); (rcases j with _ | j; exact leC_int rfl); (rcases j with _ | j; exact leC_int rfl); (rcases j with _ | j; exact leC_int rfl); (iterate 34 (rcases j with _ | j; exact leC_int rfl)); exact absurd hj (by omega)) leC_nils, leC_int rfl, trivial⟩, rdN_le rfl⟩)
  | skip
theorem fieldsR_ok (b : List Int) (x q : Int) (hr : RdOk b q) (hx : 96 <= x /\ x <= 127) : MethOk Try.prog 99 [(cI .i64).enc x] (rdN true b q) (encRH (fieldsD b x q).1) (rdN true b (fieldsD b x q).2) := by
 have h : x = 96 \/ x = 97 \/ x = 98 \/ x = 99 \/ x = 100 \/ x = 101 \/ x = 102 \/ x = 103 \/ x = 104 \/ x = 105 \/ x = 106 \/ x = 107 \/ x = 108 \/ x = 109 \/ x = 110 \/ x = 111 \/ x = 112 \/ x = 113 \/ x = 114 \/ x = 115 \/ x = 116 \/ x = 117 \/ x = 118 \/ x = 119 \/ x = 120 \/ x = 121 \/ x = 122 \/ x = 123 \/ x = 124 \/ x = 125 \/ x = 126 \/ x = 127 := by omega
 rcases h with rfl | rfl | rfl | rfl | rfl | rfl | rfl | rfl | rfl | rfl | rfl | rfl | rfl | rfl | rfl | rfl | rfl | rfl | rfl | rfl | rfl | rfl | rfl | rfl | rfl | rfl | rfl | rfl | rfl | rfl | rfl | rfl
 . exact fields_96 b q hr
 . exact fields_97 b q hr
 . exact fields_98 b q hr
 . exact fields_99 b q hr
 . exact fields_100 b q hr
 . exact fields_101 b q hr
 . exact fields_102 b q hr
 . exact fields_103 b q hr
 . exact fields_104 b q hr
 . exact fields_105 b q hr
 . exact fields_106 b q hr
 . exact fields_107 b q hr
 . exact fields_108 b q hr
 . exact fields_109 b q hr
 . exact fields_110 b q hr
 . exact fields_111 b q hr
 . exact fields_112 b q hr
 . exact fields_113 b q hr
 . exact fields_114 b q hr
 . exact fields_115 b q hr
 . exact fields_116 b q hr
 . exact fields_117 b q hr
 . exact fields_118 b q hr
 . exact fields_119 b q hr
 . exact fields_120 b q hr
 . exact fields_121 b q hr
 . exact fields_122 b q hr
 . exact fields_123 b q hr
 . exact fields_124 b q hr
 . exact fields_125 b q hr
 . exact fields_126 b q hr
 . exact fields_127 b q hr
def allB : Nat -> (Nat -> Bool) -> Bool
 | 0, _ => true
 | n + 1, p => allB n p && p n
theorem allB_at : ∀ {n : Nat} {p : Nat -> Bool}, allB n p = true -> ∀ i, i < n -> p i = true := by
 intro n
 induction n with
 | zero => intro p _ i hi; omega
 | succ n ih =>
   intro p h i hi
   unfold allB at h
   rw [Bool.and_eq_true] at h
   rcases Nat.lt_or_ge i n with h' | h'
   . exact ih h.1 i h'
   . have : i = n := by omega
     subst this
     exact h.2
def ptrLt (nm : Nat) : CV -> Bool
 | .int _ _ => true
 | .bool _ => true
 | .ptr k _ _ _ => Nat.blt k nm
 | _ => false
def argLt (nm : Nat) : FV -> Bool
 | .e (.c x) => ptrLt nm x
 | _ => false
def plainC : CV -> Bool
 | .int _ _ => true
 | .bool _ => true
 | .ptr _ _ _ _ => true
 | _ => false
def plainV : FV -> Bool
 | .e (.c (.fn _ n m a)) => allB (n + m) fun k => plainC (a k)
 | .e (.c x) => plainC x
 | _ => false
def plainH (nm : Nat) : Hp -> Bool
 | [] => true
 | (k, some e) :: l => Nat.ble nm k && (allB e.n fun i => allB e.sz fun j => plainC (e.f i j)) && plainH nm l
 | (_, none) :: _ => false
theorem plainC_rel {x : CV} (h : plainC x = true) {r r' : Ren} {X X' W W' : Nat -> Prop} {w w' : World} {v : Value} (hr : ∀ k b, r k = some b -> r' k = some b) (hx : x.rel r X W w v) : x.rel r' X' W' w' v := by
 cases x with
 | int => exact hx
 | bool => exact hx
 | ptr => obtain ⟨b, hb, h2⟩ := hx; exact ⟨b, ⟨hr _ _ hb.1, hb.2⟩, h2⟩
 | _ => cases h
theorem ptrLt_rel {nm : Nat} {x : CV} (h : ptrLt nm x = true) {r r' : Ren} {X X' W W' : Nat -> Prop} {w w' : World} {v : Value} (hr : ∀ k b, k < nm -> r k = some b -> r' k = some b) (hx : x.rel r X W w v) : x.rel r' X' W' w' v := by
 cases x with
 | int => exact hx
 | bool => exact hx
 | ptr k => obtain ⟨b, hb, h2⟩ := hx; exact ⟨b, ⟨hr _ _ (Nat.le_of_ble_eq_true h) hb.1, hb.2⟩, h2⟩
 | _ => cases h
theorem plainV_rel {x : FV} (h : plainV x = true) {r r' : Ren} {X X' W W' : Nat -> Prop} {w w' : World} {v : Value} (hr : ∀ k b, r k = some b -> r' k = some b) (hx : x.rel r X W w v) : x.rel r' X' W' w' v := by
 unfold plainV at h
 split at h
 . rename_i f n m a
   obtain ⟨fs, cs, rfl, h1, h2, h3, h4⟩ := hx
   have hk : ∀ k, k < n + m -> plainC (a k) = true := fun k hk => allB_at h k hk
   refine ⟨fs, cs, rfl, h1, h2, fun k u hu => plainC_rel (hk k ?_) hr (h3 k u hu), fun k u hu => plainC_rel (hk (n + k) ?_) hr (h4 k u hu)⟩
   . have := (Array.getElem?_eq_some_iff.1 hu).1; omega
   . have := (Array.getElem?_eq_some_iff.1 hu).1; omega
 . exact plainC_rel h hr hx
 . cases h
theorem plainH_at {nm : Nat} : ∀ {H : Hp}, plainH nm H = true -> ∀ k e, hget H k = some e -> nm <= k /\ ∀ i, i < e.n -> ∀ j, j < e.sz -> plainC (e.f i j) = true := by
 intro H
 induction H with
 | nil => intro _ k e h; cases h
 | cons p H ih =>
   obtain ⟨k0, x⟩ := p
   intro h k e he
   cases x with
   | none => cases h
   | some e0 =>
     unfold plainH at h
     rw [Bool.and_eq_true, Bool.and_eq_true] at h
     by_cases hk : k = k0
     . subst hk
       have e1 : hget ((k, some e0) :: H) k = some e0 := look_cons_eq _ _ _ _
       rw [e1] at he
       injection he with he
       subst he
       exact ⟨Nat.le_of_ble_eq_true h.1.1, fun i hi j hj => allB_at (allB_at h.1.2 i hi) j hj⟩
     . have e1 : hget ((k0, some e0) :: H) k = hget H k := look_cons_ne _ _ _ hk
       rw [e1] at he
       exact ih h.2 k e he
def inl0E (T : Tys) (Q : Qs) (wi nt : Nat) (rv : List ResultVar) (c : Code) : Entry := fun args H nm wd =>
 bif args.all (argLt nm) then some fun K => Nat.ble args.length nt = true /\ exec T Q wi nt nm c (argFr args 0) [] nm (endH T rv fun x Hf nf => (Nat.ble nf (nm + wd) = true /\ plainH nm Hf = true /\ plainV x = true) /\ K x Hf []) else none
theorem inl0E_ok {P : Program} {T : Tys} {Q : Qs} {wi : Nat} (hwi : 0 < wi) (hT : TysOk P T) (hQ : QsOk P Q) (hM : QsMono Q) (hm : P.follows .mixedOrders = true) {f : FuncId} {fn : Func} {c : Code} (hf : P.funcs[f]? = some fn) (hb : fn.body = some c) (hnm : (fn.name == "runtime.NumGoroutine") = false) : EntOk P f (inl0E T Q wi fn.ntmps fn.results.toList c) := by
 refine ⟨fun args H nm wd q hwd hq K hK => ?_, fun args H nm wd q hq K K' hKK hK => ?_⟩
 . obtain ⟨hargs, hq⟩ := cond_some hq
   subst hq
   obtain ⟨hn, hK⟩ := hK
   have hn := Nat.le_of_ble_eq_true hn
   obtain ⟨⟨x, Hf, nf⟩, ⟨⟨hle, hpH, hpV⟩, hKL⟩, hex⟩ := exec_some (α := FV × Hp × Nat) (post := fun a x H n => x = a.1 /\ H = a.2.1 /\ n = a.2.2) (S := fun a => (Nat.ble a.2.2 (nm + wd) = true /\ plainH nm a.2.1 = true /\ plainV a.1 = true) /\ K a.1 a.2.1 []) hwi hQ
    (exec_mono hM c _ _ (endH_mono fun x Hf nf h => ⟨(x, Hf, nf), h, rfl, rfl, rfl⟩) _ _ _ hK)
   have hle := Nat.le_of_ble_eq_true hle
   refine ⟨x, Hf, [], ⟨⟨fn, hf, by rw [hb]; rfl, hnm⟩, fun H' hh cx r w vals st hfr hw hrel => ?_⟩, hKL⟩
   have hr0 : ∀ k, nm <= k -> (if k < nm then r k else none) = none := fun k hk => if_neg (by omega)
   have hr1 : ∀ k, k < nm -> (if k < nm then r k else none) = r k := fun k hk => if_pos hk
   have hr2 : ∀ k y, (if k < nm then r k else none) = some y -> k < nm /\ r k = some y := fun k y h => by
    by_cases hk : k < nm
    . rw [if_pos hk] at h; exact ⟨hk, h⟩
    . rw [if_neg hk] at h; cases h
   have hG : GlobOk (fun b => False \/ (∃ k y, r k = some y /\ y.b = b) \/ False) w := glob_more (gl_in st) fun p _ h => h.elim False.elim fun h => h.elim (fun h => .inr (.inl h)) False.elim
   refine (fn_run (np := nm) (cx := ⟨w, fun b => ∃ k y, r k = some y /\ y.b = b, fun _ => False, fun _ => False, fun k => if k < nm then r k else none⟩) (r := fun k => if k < nm then r k else none) (H0 := []) hwi hT (QR_ok P) hm hf hb hn hex (fun k b hk => (hr2 k b hk).1)
    ⟨rfl, rfl, rfl, Nat.le_refl _, fun _ _ _ => rfl, ⟨fun b hb => hb.elim, hG⟩, fun k y hk => ?_, (fun k e y he _ => by cases he), (fun n m e1 e2 y z h => by cases h), fun k b hk => hk, (fun k e he => by cases he)⟩ ⟨hrel.1, fun i y u hy hu => ?_⟩ (fun k hk => ⟨hr0 k hk, rfl⟩)).mono fun e w' he => ?_
   . obtain ⟨_, hk⟩ := hr2 k y hk
     exact ⟨(st.dom k y hk).1, .inr ⟨k, y, hk, rfl⟩, fun h => h⟩
   . have hl : argLt nm y = true := List.all_eq_true.1 hargs y (List.mem_of_getElem? hy)
     have h0 := hrel.2 i y u hy hu
     cases y with
     | e z =>
       cases z with
       | c z => exact ptrLt_rel hl (fun k b hk hb => by rw [if_pos hk]; exact hb) h0
       | agg => cases hl
     | _ => cases hl
   . obtain ⟨v, r', x', Hf', nf', rfl, ⟨e1, e2, e3⟩, st', hn', hx, hlow⟩ := he
     dsimp only at e1 e2 e3
     rw [e2] at st' hx hn'
     rw [e1] at hx
     rw [e3] at hn'
     clear e1 e2 e3
     have hle2 : ∀ k, nm + wd <= k -> r' k = none /\ hget Hf k = none := fun k hk => hn' k (Nat.le_trans hle hk)
     have hin : ∀ k, nm <= k -> k < nm + wd -> (if nm <= k /\ k < nm + wd then r' k else r k) = r' k := fun k h1 h2 => if_pos ⟨h1, h2⟩
     have hout : ∀ k, ¬ (nm <= k /\ k < nm + wd) -> (if nm <= k /\ k < nm + wd then r' k else r k) = r k := fun k h => if_neg h
     have hall : ∀ k y, r k = some y -> (if nm <= k /\ k < nm + wd then r' k else r k) = some y := fun k y hk => by
      by_cases h : nm <= k /\ k < nm + wd
      . rw [(hfr k h.1 h.2).1] at hk; cases hk
      . rw [if_neg h]; exact hk
     have hall' : ∀ k y, r' k = some y -> (if nm <= k /\ k < nm + wd then r' k else r k) = some y := fun k y hk => by
      by_cases h : nm <= k /\ k < nm + wd
      . rw [if_pos h]; exact hk
      . rw [if_neg h]
        by_cases h1 : k < nm
        . rw [hlow k h1, hr1 k h1] at hk; exact hk
        . rw [(hle2 k (by omega)).1] at hk; cases hk
     have hHf : ∀ k e, hget Hf k = some e -> nm <= k /\ k < nm + wd := fun k e he => by
      refine ⟨(plainH_at hpH k e he).1, ?_⟩
      rcases Nat.lt_or_ge k (nm + wd) with h | h
      . exact h
      . rw [(hle2 k h).2] at he; cases he
     have hnew : ∀ k e y, hget Hf k = some e -> r' k = some y -> w.heap.size <= y.b := fun k e y he hy => by
      rcases st'.ow k e y he hy with h | h
      . exact h
      . exact h.elim
     have hsplit : ∀ k e, hget (Hf ++ H') k = some e -> (hget Hf k = some e /\ nm <= k /\ k < nm + wd) \/ (hget H' k = some e /\ ¬ (nm <= k /\ k < nm + wd)) := fun k e he => by
      have he' : look none (Hf ++ H') k = some e := he
      rw [look_append] at he'
      cases hk : hasKey Hf k with
      | true =>
        rw [hk, cond_true] at he'
        exact .inl ⟨he', hHf k e he'⟩
      | false =>
        rw [hk, cond_false] at he'
        refine .inr ⟨he', fun h => ?_⟩
        have := (hfr k h.1 h.2).2
        have he2 : hget H' k = some e := he'
        rw [this] at he2; cases he2
     have hwr2 : ∀ b, b < w.heap.size -> wr (fun k => if nm <= k /\ k < nm + wd then r' k else r k) (Hf ++ H') b -> wr r H' b := by
      rintro b hb ⟨k, e, y, he, hy, rfl⟩
      have hy' : (if nm <= k /\ k < nm + wd then r' k else r k) = some y := hy
      rcases hsplit k e he with ⟨h1, h2⟩ | ⟨h1, h2⟩
      . rw [if_pos h2] at hy'
        have := hnew k e y h1 hy'
        omega
      . rw [if_neg h2] at hy'
        exact ⟨k, e, y, h1, hy', rfl⟩
     have hE : Ext r (wr r H') w (fun k => if nm <= k /\ k < nm + wd then r' k else r k) (wr (fun k => if nm <= k /\ k < nm + wd then r' k else r k) (Hf ++ H')) w' :=
      ⟨hall, st'.size, fun b hb _ => st'.kept b hb (fun h => h), fun b hb hW => hwr2 b hb hW⟩
     refine ⟨v, rfl, fun k => if nm <= k /\ k < nm + wd then r' k else r k, hE, ⟨st'.os.trans st.os, st'.tape.trans st.tape, st'.output.trans st.output, Nat.le_trans st.size st'.size, fun b hb hne => ?_, st.xlt, fun k y hk => ?_, fun k e y he hy => ?_, fun n m e1 e2 y z h1 h2 hy hz hyz => ?_, fun k b hk => hall k b (st.pin k b hk), fun k e he => ?_⟩, fun k hk => hout k (by omega), fun k e he => ?_, ?_⟩
     . rw [<- st.kept b hb hne]
       exact st'.kept b (Nat.lt_of_lt_of_le hb st.size) (fun h => h)
     . have hk' : (if nm <= k /\ k < nm + wd then r' k else r k) = some y := hk
       by_cases h : nm <= k /\ k < nm + wd
       . rw [if_pos h] at hk'
         obtain ⟨d1, d2, _⟩ := st'.dom k y hk'
         rcases d2 with d2 | ⟨k0, y0, d4, d5⟩
         . refine ⟨d1, .inl (Nat.le_trans st.size d2), fun hX => ?_⟩
           have := Nat.lt_of_lt_of_le (st.xlt.lt _ hX) st.size
           have d2' : w.heap.size <= y.b := d2
           omega
         . obtain ⟨a1, a2, a3⟩ := st.dom k0 y0 d4
           rw [d5] at a1 a2 a3
           exact ⟨d1, a2, a3⟩
       . rw [if_neg h] at hk'
         obtain ⟨a1, a2, a3⟩ := st.dom k y hk'
         exact ⟨Nat.lt_of_lt_of_le a1 st'.size, a2, a3⟩
     . have hy' : (if nm <= k /\ k < nm + wd then r' k else r k) = some y := hy
       rcases hsplit k e he with ⟨h1, h2⟩ | ⟨h1, h2⟩
       . rw [if_pos h2] at hy'
         exact .inl (Nat.le_trans st.size (hnew k e y h1 hy'))
       . rw [if_neg h2] at hy'
         exact st.ow k e y h1 hy'
     . have hy' : (if nm <= n /\ n < nm + wd then r' n else r n) = some y := hy
       have hz' : (if nm <= m /\ m < nm + wd then r' m else r m) = some z := hz
       rcases hsplit n e1 h1 with ⟨a1, a2⟩ | ⟨a1, a2⟩
       . rw [if_pos a2] at hy'
         rcases hsplit m e2 h2 with ⟨b1, b2⟩ | ⟨b1, b2⟩
         . rw [if_pos b2] at hz'
           exact st'.inj n m e1 e2 y z a1 b1 hy' hz' hyz
         . rw [if_neg b2] at hz'
           have := hnew n e1 y a1 hy'
           have := (st.dom m z hz').1
           omega
       . rw [if_neg a2] at hy'
         rcases hsplit m e2 h2 with ⟨b1, b2⟩ | ⟨b1, b2⟩
         . rw [if_pos b2] at hz'
           have := hnew m e2 z b1 hz'
           have := (st.dom n y hy').1
           omega
         . rw [if_neg b2] at hz'
           exact st.inj n m e1 e2 y z a1 b1 hy' hz' hyz
     . rcases hsplit k e he with ⟨h1, h2⟩ | ⟨h1, h2⟩
       . have hb := st'.blk k e h1
         show EntIn _ cx.X _ w' e (if nm <= k /\ k < nm + wd then r' k else r k) w'.heap
         rw [if_pos h2]
         exact entIn_map rfl rfl rfl rfl (fun i hi j hj u hu => plainC_rel ((plainH_at hpH k e h1).2 i hi j hj) hall' hu) hb
       . have hold := st.old h1 rfl (w' := w') fun y hy => st'.kept _ (st.dom k y hy).1 (fun h => h)
         show EntIn _ cx.X _ w' e (if nm <= k /\ k < nm + wd then r' k else r k) w'.heap
         rw [if_neg h2]
         exact hold.ext hE
     . rcases hsplit k e he with ⟨h1, h2⟩ | ⟨h1, h2⟩
       . exact .inl ⟨.inl h2.1, h2.2⟩
       . exact .inr ⟨e, h1⟩
     . exact plainV_rel hpV hall' hx
 . obtain ⟨hargs, hq⟩ := cond_some hq
   subst hq
   exact ⟨hK.1, exec_mono hM c _ _ (endH_mono fun x Hf nf h => ⟨h.1, hKK _ _ _ h.2⟩) _ _ _ hK.2⟩
def findC (a : List Ctx × Int × Int) : Nat -> CV := nth [.rp false 1 (fun _ => .sl false a.1.length eCtx.sz (rowF eCtx a.1)), .rp false 1 (fun _ => .int .i64 a.2.1), .rp false 1 (fun _ => .int .i64 a.2.2)]
theorem rp_of {cx : Cx} {r : Ren} {H' : Hp} {w : World} {k : Nat} {fl : Bool} {e : Ent} {rd : List Nat} {X' : Nat -> Prop} {g : CV} {u : Value} (st : St cx r H' w) (he : hget H' k = some e) (hk : k ∈ rd) (hn : 0 < e.n) (hsz : 0 < e.sz)
 (hc : ∀ u, (e.f 0 0).rel r cx.X (wr r H') w u -> g.rel (fun _ => none) X' (wrBut r H' rd) w u) (h : (CV.ptr k 0 0 fl).rel r cx.X (wr r H') w u) : (CV.rp false 1 fun _ => g).rel (fun _ => none) X' (wrBut r H' rd) w u := by
 obtain ⟨y, hy, rfl⟩ := h
 refine ⟨⟨y.b, 0 * y.sz + 0, none⟩, rfl, rfl, ?_, (fun h => by cases h), (st.dom k y hy.1).1, fun j hj => ?_⟩
 . rintro ⟨k2, e2, z, q1, q2, q3, q4⟩
   have := st.inj k2 k e2 e z y q1 he q2 hy.1 q3
   exact q4 (by rw [this]; exact hk)
 . obtain rfl : j = 0 := by omega
   obtain ⟨u, hu, hr⟩ := blk_cell st he hy (i := 0) (j := 0) hn hsz
   exact ⟨u, hu, hc u hr⟩
theorem slC_in {cx : Cx} {r : Ren} {H' : Hp} {w : World} {sh : Bool} {n : Nat} {f : Nat -> Nat -> CV} {X' : Nat -> Prop} {rd : List Nat} {u : Value} (hok : ∀ i, i < n -> eCtx.ok (f i) = true) (h : (CV.sl sh n eCtx.sz f).rel r cx.X (wr r H') w u) :
 (CV.sl false (toL eCtx n f).length eCtx.sz (rowF eCtx (toL eCtx n f))).rel (fun _ => none) X' (wrBut r H' rd) w u := by
 obtain ⟨a, cap, rfl, h1, h2⟩ := h
 rw [toL_len]
 refine ⟨a, cap, rfl, h1, fun h0 => ?_⟩
 obtain ⟨ad, rfl, hs, ho, hx, hlt, hc⟩ := h2 h0
 refine ⟨ad, rfl, hs, fun ⟨k, e, x, g1, g2, g3, _⟩ => ho ⟨k, e, x, g1, g2, g3⟩, (fun h => by cases h), hlt, fun i hi j hj => ?_⟩
 obtain ⟨u, hu, hr⟩ := hc i hi j hj
 refine ⟨u, hu, ?_⟩
 rw [eCtx.ok_eq _ (hok i hi) j hj] at hr
 have e : rowF eCtx (toL eCtx n f) i j = eCtx.cell (eCtx.rd (f i)) j := by
  unfold rowF toL
  rw [List.getD_eq_getElem?_getD, List.getElem?_map, List.getElem?_range hi]; rfl
 rw [e]
 exact (eCtx.flat _ _) _ _ _ _ _ _ _ _ _ hr
def cFind : Codec (List Ctx × Int × Int) where
 enc a := .e (.c (.fn 101 0 3 (findC a)))
 dec H x := match x with
  | .e (.c (.fn f n m a)) => match a 0, a 1, a 2 with
    | .ptr k0 0 0 _, .ptr k1 0 0 _, .ptr k2 0 0 _ => match hget H k0, hget H k1, hget H k2 with
      | some ⟨_, n0, z0, _, f0⟩, some ⟨_, n1, z1, _, f1⟩, some ⟨_, n2, z2, _, f2⟩ => match f0 0 0, f1 0 0, f2 0 0 with
        | .sl _ ln s g, .int .i64 id, .int .i64 now => bif Nat.beq f 101 && Nat.beq n 0 && Nat.beq m 3 && Nat.beq s eCtx.sz && Nat.blt 0 n0 && Nat.blt 0 z0 && Nat.blt 0 n1 && Nat.blt 0 z1 && Nat.blt 0 n2 && Nat.blt 0 z2 then
           some ((toL eCtx ln g, id, now), some (∀ i, i < ln -> eCtx.ok (g i) = true), [k0, k1, k2]) else none
        | _, _, _ => none
      | _, _, _ => none
    | _, _, _ => none
  | _ => none
 sound H H' x a p rd h hp hh := by
  split at h
  . rename_i f n m a0
    split at h
    . rename_i k0 fl0 k1 fl1 k2 fl2 ha0 ha1 ha2
      split at h
      . rename_i t0 n0 z0 v0 f0 t1 n1 z1 v1 f1 t2 n2 z2 v2 f2 he0 he1 he2
        split at h
        . rename_i sh ln s g id now hc0 hc1 hc2
          obtain ⟨hb, h⟩ := cond_some h
          injection h with h h'
          injection h' with h' h''
          subst h h' h''
          simp only [Bool.and_eq_true] at hb
          obtain ⟨⟨⟨⟨⟨⟨⟨⟨⟨b1, b2⟩, b3⟩, b4⟩, b5⟩, b6⟩, b7⟩, b8⟩, b9⟩, b10⟩ := hb
          have b1 := Nat.eq_of_beq_eq_true b1
          have b2 := Nat.eq_of_beq_eq_true b2
          have b3 := Nat.eq_of_beq_eq_true b3
          have b4 := Nat.eq_of_beq_eq_true b4
          subst b1 b2 b3 b4
          have g0 : hget H' k0 = some ⟨t0, n0, z0, v0, f0⟩ := by rw [<- hh k0 (by simp)]; exact he0
          have g1 : hget H' k1 = some ⟨t1, n1, z1, v1, f1⟩ := by rw [<- hh k1 (by simp)]; exact he1
          have g2 : hget H' k2 = some ⟨t2, n2, z2, v2, f2⟩ := by rw [<- hh k2 (by simp)]; exact he2
          rintro cx r w v st ⟨fs, cs, rfl, h1, h2, h3, h4⟩
          refine ⟨fs, cs, rfl, h1, h2, fun k u hu => ?_, fun k u hu => ?_⟩
          . have := (Array.getElem?_eq_some_iff.1 hu).1; omega
          . have hk := (Array.getElem?_eq_some_iff.1 hu).1
            have hr := h4 k u hu
            rw [Nat.zero_add] at hr ⊢
            rcases (show k = 0 \/ k = 1 \/ k = 2 by omega) with rfl | rfl | rfl
            . rw [ha0] at hr
              exact rp_of st g0 (by simp) (Nat.le_of_ble_eq_true b5) (Nat.le_of_ble_eq_true b6) (fun u hu => slC_in (sh := sh) hp (by rw [<- hc0]; exact hu)) hr
            . rw [ha1] at hr
              exact rp_of st g1 (by simp) (Nat.le_of_ble_eq_true b7) (Nat.le_of_ble_eq_true b8) (fun u hu => (show (CV.int .i64 id).rel r cx.X (wr r H') w u by rw [<- hc1]; exact hu)) hr
            . rw [ha2] at hr
              exact rp_of st g2 (by simp) (Nat.le_of_ble_eq_true b9) (Nat.le_of_ble_eq_true b10) (fun u hu => (show (CV.int .i64 now).rel r cx.X (wr r H') w u by rw [<- hc2]; exact hu)) hr
        . cases h
      . cases h
    . cases h
  . cases h
theorem wrBut_sub {r : Ren} {H : Hp} {rd : List Nat} : ∀ b, wrBut r H rd b -> wr r H b := fun b ⟨k, e, x, g1, g2, g3, _⟩ => ⟨k, e, x, g1, g2, g3⟩
def cRpI : Codec Int where
 enc a := .e (.c (.rp false 1 fun _ => .int .i64 a))
 dec H x := match x with
  | .e (.c (.rp _ m g)) => match g 0 with
    | .int .i64 v => bif Nat.beq m 1 then some (v, none, []) else none
    | _ => none
  | _ => none
 sound H H' x a p rd h hp hh := by
  split at h
  . rename_i sh m g
    split at h
    . rename_i v hg
      obtain ⟨hb, h5⟩ := cond_some h
      have hb := Nat.eq_of_beq_eq_true hb
      subst hb
      injection h5 with h6 h7
      injection h7 with h7 h8
      subst h6 h7 h8
      rintro cx r w u st ⟨ad, rfl, hs, ho, hx, hlt, hq⟩
      refine ⟨ad, rfl, hs, fun h => ho (wrBut_sub _ h), (fun h => by cases h), hlt, fun j hj => ?_⟩
      obtain rfl : j = 0 := by omega
      obtain ⟨u, hu, hr⟩ := hq 0 hj
      rw [hg] at hr
      exact ⟨u, hu, hr⟩
    . cases h
  . cases h
def cRpL : Codec (List Ctx) where
 enc l := .e (.c (.rp false 1 fun _ => .sl false l.length eCtx.sz (rowF eCtx l)))
 dec H x := match x with
  | .e (.c (.rp _ m g)) => match g 0 with
    | .sl _ n s f => bif Nat.beq m 1 && Nat.beq s eCtx.sz then some (toL eCtx n f, some (∀ i, i < n -> eCtx.ok (f i) = true), []) else none
    | _ => none
  | _ => none
 sound H H' x a p rd h hp hh := by
  split at h
  . rename_i sh m g
    split at h
    . rename_i sh2 n s f hg
      obtain ⟨hb, h5⟩ := cond_some h
      rw [Bool.and_eq_true] at hb
      have b1 := Nat.eq_of_beq_eq_true hb.1
      have b2 := Nat.eq_of_beq_eq_true hb.2
      subst b1 b2
      injection h5 with h6 h7
      injection h7 with h7 h8
      subst h6 h7 h8
      rintro cx r w u st ⟨ad, rfl, hs, ho, hx, hlt, hq⟩
      refine ⟨ad, rfl, hs, fun h => ho (wrBut_sub _ h), (fun h => by cases h), hlt, fun j hj => ?_⟩
      obtain rfl : j = 0 := by omega
      obtain ⟨u, hu, hr⟩ := hq 0 hj
      rw [hg] at hr
      exact ⟨u, hu, slC_in (sh := sh2) hp hr⟩
    . cases h
  . cases h
abbrev fndA : AC (List Ctx × Int × Int × Unit) := AC.cons cRpL (AC.cons cRpI (AC.cons cRpI AC.nil))
abbrev decE0 : Entry := pureE (AC.cons (cSl eCtx eCtx_sz) (AC.cons (cI .i64) (AC.cons (cI .i64) AC.nil))) (fun a => a.1.length <= 9223372036854775807) (fun a => forDec a.1 a.2.1 a.2.2.1) encCB
def LRd2 : CsL := (102, some decE0) :: (98, some (rdE AC.nil (fun b q _ => RdOk b q) (fun b q _ => startF b q) encR3)) :: (99, some (rdE (AC.cons (cI .i64) AC.nil) (fun b q a => RdOk b q /\ 96 <= a.1 /\ a.1 <= 127) (fun b q a => fieldsD b a.1 q) encRH)) :: LRd0
theorem LRd2_ok : AllOk Try.prog LRd2 := ⟨pureE_ok ⟨_, Try.func102, rfl, by kernel_rfl⟩ fun a h => forDec_ok a.1 a.2.1 a.2.2.1 h, rdE_ok ⟨_, Try.func98, rfl, by kernel_rfl⟩ (fun r => encR3_flat r) fun b q a h => start_ok b q h, rdE_ok ⟨_, Try.func99, rfl, by kernel_rfl⟩ (fun r => encRH_flat r) fun b q a h => fieldsR_ok b a.1 q h.1 h.2, LRd0_ok⟩
theorem find_ok (l : List Ctx) (id now : Int) (hl : l.length <= 9223372036854775807) : PureOk Try.prog 101 (fndA.enc (l, id, now, ())) (encCB (forDec l id now)) := by
 obtain ⟨C, eC⟩ : ∃ C, forDec l id now = C := ⟨_, rfl⟩
 rw [eC]
 refine pure_intro (wd := 1) (Q := mkQ LRd2) (by decide) tysOk (q_of LRd2_ok) mixed Try.func101 rfl _ (by show 3 <= _; decide) _ ?_
 repeat' (first | (apply And.intro <;> intro hc <;> (first | exact Bool.noConfusion hc | (simp only [zb0, ne_eq, not_true_eq_false] at hc <;> first | exact absurd rfl hc | skip) | skip)) | (refine And.intro zp1 ?_) | (apply And.intro) | (intro s hs; (have q : C = s := (hs.trans ((congrArg (fun l => forDec l id now) (toL_ctx l)).trans eC)).symm; clear hs; subst q)))
 all_goals first
  | (show (toL eCtx l.length _).length <= _; rw [toL_len]; exact hl)
  | (refine Done.mk (leF_tup ?_)
     repeat' (first | exact zw2 | refine leE_all ?_ | exact leC_bool (by assumption) | apply And.intro))
  | skip
theorem ip_is {G : Nat -> CV} {a : Fin 16 -> Int} (h : ∀ j, j < 16 -> G j = (eA .u8 16).cell a j) : (eA .u8 16).rd G = a := by
 funext q
 show valI (G q.1) = a q
 rw [h q.1 q.2]
 show vget a q.1 = a q
 exact vget_lt _ q.2
theorem pfx_is {G : Nat -> CV} {p : Pfx} (h : ∀ j, j < 17 -> G j = ePfx.cell p j) : ePfx.rd G = p := by
 have e : ePfx.rd G = ePfx.rd (ePfx.cell p) := by
  show Pfx.mk (fun q : Fin 16 => valI (G (0 + q.1))) (valI (G 16)) = Pfx.mk (fun q : Fin 16 => valI (ePfx.cell p (0 + q.1))) (valI (ePfx.cell p 16))
  rw [h 16 (by decide), show (fun q : Fin 16 => valI (G (0 + q.1))) = (fun q : Fin 16 => valI (ePfx.cell p (0 + q.1))) from funext fun q => congrArg valI (h (0 + q.1) (by omega))]
 exact e.trans (ePfx_rd p)
abbrev fndE : Entry := pureE fndA (fun a => a.1.length <= 9223372036854775807) (fun a => forDec a.1 a.2.1 a.2.2.1) encCB
def LRd3 : CsL := (101, some fndE) :: LRd2
theorem LRd3_ok : AllOk Try.prog LRd3 := ⟨pureE_ok ⟨_, Try.func101, rfl, by kernel_rfl⟩ fun a h => find_ok a.1 a.2.1 a.2.2.1 h, LRd2_ok⟩
theorem findDec_in (id now : Int) : ∀ (l : List Ctx), (findDec id now l).2 = true -> (findDec id now l).1 ∈ l := by
 intro l
 induction l with
 | nil => intro h; cases h
 | cons c l ih =>
   intro h
   unfold findDec at h ⊢
   split
   . exact List.mem_cons_self ..
   . rename_i g
     rw [if_neg g] at h
     exact List.mem_cons_of_mem _ (ih h)
theorem dec_valid {l : List Ctx} {id now : Int} (hl : bytesL l) (h : (forDec l id now).2 = true) : vpf (pfxOf (forDec l id now).1) = true /\ byteOk (forDec l id now).1.ip := by
 unfold forDec at h ⊢
 split at h
 . rename_i g
   rw [if_pos g]
   have hm := findDec_in id now l h
   exact ⟨(valid_lt g.1 hm).2.2.2, hl.b _ hm⟩
 . cases h
theorem num2_v {b : List Int} {q : Int} (hb : BL b) : 0 <= (numF b q 2).1.1 /\ (numF b q 2).1.1 < 65536 := by
 have := num_v (q := q) (n := 2) hb
 exact this
theorem unid_t0 (b : List Int) (q : Int) (k : Adr) (l : List Ctx) (id now : Int) (hr : RdOk b q) (hl : bytesL l) : MethOk Try.prog 103 [cB.enc true, (cI .i64).enc 0, (cE eAdr).enc k, cFind.enc (l, id, now)] (rdN true b q) (encRA (uniD b true 0 k (forDec l id now) q).1) (rdN true b (uniD b true 0 k (forDec l id now) q).2) := by
 obtain ⟨W, hW⟩ : ∃ W, uniD b true 0 k (forDec l id now) q = W := ⟨_, rfl⟩
 have eW : W = (if (forDec l id now).2 = false then ((zeroA, 9), q) else (if 64 < (forDec l id now).1.bits then ((zeroA, 5), q) else (if (ipRF b q).1.2 = 0 then (if mcast ((ipRF b q).1.1) = true then ((zeroA, 5), (ipRF b q).2) else (((ipRF b q).1.1, 0), (ipRF b q).2)) else ((zeroA, (ipRF b q).1.2), (ipRF b q).2)))) := by
  rw [<- hW]
  simp (decide := true) only [uniD, uniV, thenD, prefD, if_true, if_false, true_and, and_true, false_and]
 rw [hW]
 clear hW
 have hv := fun h => (dec_valid (id := id) (now := now) hl h).1
 obtain ⟨C, eC⟩ : ∃ C, forDec l id now = C := ⟨_, rfl⟩
 rw [eC] at eW hv
 obtain ⟨I, eI⟩ : ∃ I, iidF k = I := ⟨_, rfl⟩
 obtain ⟨N, eN⟩ : ∃ N, ipRF b q = N := ⟨_, rfl⟩
 rw [eN] at eW
 obtain ⟨Mc, eMc⟩ : ∃ x, mcast N.1.1 = x := ⟨_, rfl⟩
 rw [eMc] at eW
 have f0 : (C.2 = false) -> W = ((zeroA, 9), q) := fun h0 => by rw [eW, if_pos h0]
 have f1 : (¬ C.2 = false) -> (64 < C.1.bits) -> W = ((zeroA, 5), q) := fun h0 h1 => by rw [eW, if_neg h0, if_pos h1]
 have f2 : (¬ C.2 = false) -> (¬ 64 < C.1.bits) -> (¬ N.1.2 = 0) -> W = ((zeroA, N.1.2), N.2) := fun h0 h1 h2 => by rw [eW, if_neg h0, if_neg h1, if_neg h2]
 have f3 : (¬ C.2 = false) -> (¬ 64 < C.1.bits) -> (N.1.2 = 0) -> (Mc = true) -> W = ((zeroA, 5), N.2) := fun h0 h1 h2 h3 => by rw [eW, if_neg h0, if_neg h1, if_pos h2, if_pos h3]
 have f4 : (¬ C.2 = false) -> (¬ 64 < C.1.bits) -> (N.1.2 = 0) -> (¬ Mc = true) -> W = ((N.1.1, 0), N.2) := fun h0 h1 h2 h3 => by rw [eW, if_neg h0, if_neg h1, if_pos h2, if_neg h3]
 clear eW
 have g1 : True := trivial
 have g2 : True := trivial
 have g3 : True := trivial
 have g4 : True := trivial
 have g5 : True := trivial
 have g6 : True := trivial
 refine meth_intro (wd := 1) (Q := mkQ LRd3) (by decide) tysOk (q_of LRd3_ok) mixed Try.func103 rfl _ (by show 4 + 1 <= _; decide) (flatF_nff (encRA_flat _)) (rdN_nf) ?_
 repeat' (first | (apply And.intro <;> intro hc <;> (first | exact Bool.noConfusion hc | (exfalso; first | exact absurd hc (by decide) | exact absurd rfl hc | exact absurd hc (by assumption) | exact absurd (by assumption) hc | exact Bool.noConfusion ((by assumption : I.2 = true).symm.trans hc)) | (simp only [zb0, ne_eq, not_true_eq_false] at hc <;> first | exact absurd rfl hc | (exfalso; first | exact absurd hc (by decide) | exact absurd rfl hc | exact absurd hc (by assumption) | exact absurd (by assumption) hc | exact Bool.noConfusion ((by assumption : I.2 = true).symm.trans hc)) | skip) | skip)) | (refine And.intro (by first | exact trivial | decide | omega | (dsimp only; omega) | exact fun _ _ => rfl | exact ⟨by assumption, by first | exact trivial | decide | omega | (dsimp only; omega)⟩) ?_) | (apply And.intro) | (refine Exists.intro b (And.intro ⟨rfl, rfl, by first | exact ⟨by assumption, by decide, by decide⟩ | assumption⟩ ?_)) | (intro s hs; (first | (clear g1; have q : I = s := (hs.trans ((congrArg iidF (rd_adr k)).trans eI)).symm; clear hs; subst q) | (clear g2; have q : s = llP := hs; clear hs; subst q) | (clear g3; have q : C = s := (hs.trans ((congrArg (fun l => forDec l id now) (toL_ctx l)).trans eC)).symm; clear hs; subst q) | (clear g4; have q : N = s := (hs.trans eN).symm; clear hs; subst q) | (clear g6; have q : Mc = s := (by (dsimp only at hs; refine (hs.trans ((congrArg mcast (ip_is (a := N.1.1) (fun j hj => ?_))).trans eMc)).symm; (iterate 16 (rcases j with _ | j; exact rfl)); exact absurd hj (by omega))); clear hs; subst q) | skip)))
 all_goals try (first | exact rfl | exact Nat.le_of_ble_eq_true rfl)
 all_goals first
  | (show (toL eCtx l.length _).length <= _; rw [toL_len]; have := hl.n; omega)
  | exact fun _ => rfl
  | ((first | rw [f0 (by assumption)] | rw [f1 (fun h => Bool.noConfusion (h.symm.trans (by assumption : C.2 = true))) (by assumption)] | rw [f2 (fun h => Bool.noConfusion (h.symm.trans (by assumption : C.2 = true))) (by assumption) (by assumption)] | rw [f3 (fun h => Bool.noConfusion (h.symm.trans (by assumption : C.2 = true))) (by assumption) (by assumption) (by assumption)] | rw [f4 (fun h => Bool.noConfusion (h.symm.trans (by assumption : C.2 = true))) (by assumption) (by assumption) (fun h => Bool.noConfusion (h.symm.trans (by assumption : Mc = false)))])
     exact ⟨leF_tup ⟨leE_agg rfl (fun i hi => by (iterate 16 (rcases i with _ | i; exact leC_int rfl)); exact absurd hi (by omega)), leC_int rfl, trivial⟩, rdN_le rfl⟩)
  | skip
theorem unid_t1 (b : List Int) (q : Int) (k : Adr) (l : List Ctx) (id now : Int) (hr : RdOk b q) (hl : bytesL l) : MethOk Try.prog 103 [cB.enc true, (cI .i64).enc 1, (cE eAdr).enc k, cFind.enc (l, id, now)] (rdN true b q) (encRA (uniD b true 1 k (forDec l id now) q).1) (rdN true b (uniD b true 1 k (forDec l id now) q).2) := by
 obtain ⟨W, hW⟩ : ∃ W, uniD b true 1 k (forDec l id now) q = W := ⟨_, rfl⟩
 have eW : W = (if (forDec l id now).2 = false then ((zeroA, 9), q) else (if 64 < (forDec l id now).1.bits then ((zeroA, 5), q) else (if (numF b q 8).1.2 = 0 then (if mcast (jn (pfxOf (forDec l id now).1).ip (numF b q 8).1.1) = true then ((zeroA, 5), (numF b q 8).2) else ((jn (pfxOf (forDec l id now).1).ip (numF b q 8).1.1, 0), (numF b q 8).2)) else ((zeroA, (numF b q 8).1.2), (numF b q 8).2)))) := by
  rw [<- hW]
  simp (decide := true) only [uniD, uniV, thenD, prefD, if_true, if_false, true_and, and_true, false_and]
  by_cases hN : (numF b q 8).1.2 = 0
  . simp (decide := true) only [hN, if_true, if_false]
  . simp only [hN, if_false]
 rw [hW]
 clear hW
 have hv := fun h => (dec_valid (id := id) (now := now) hl h).1
 obtain ⟨C, eC⟩ : ∃ C, forDec l id now = C := ⟨_, rfl⟩
 rw [eC] at eW hv
 obtain ⟨I, eI⟩ : ∃ I, iidF k = I := ⟨_, rfl⟩
 obtain ⟨N, eN⟩ : ∃ N, numF b q 8 = N := ⟨_, rfl⟩
 rw [eN] at eW
 have eJ : C.2 = true -> ¬ 64 < C.1.bits -> joinF (pfxOf C.1) N.1.1 = (jn (pfxOf C.1).ip N.1.1, true) := fun h g => if_pos ⟨hv h, Int.not_lt.1 g⟩
 obtain ⟨A, eA'⟩ : ∃ A, jn (pfxOf C.1).ip N.1.1 = A := ⟨_, rfl⟩
 rw [eA'] at eW eJ
 obtain ⟨Mc, eMc⟩ : ∃ x, mcast A = x := ⟨_, rfl⟩
 rw [eMc] at eW
 have f0 : (C.2 = false) -> W = ((zeroA, 9), q) := fun h0 => by rw [eW, if_pos h0]
 have f1 : (¬ C.2 = false) -> (64 < C.1.bits) -> W = ((zeroA, 5), q) := fun h0 h1 => by rw [eW, if_neg h0, if_pos h1]
 have f2 : (¬ C.2 = false) -> (¬ 64 < C.1.bits) -> (¬ N.1.2 = 0) -> W = ((zeroA, N.1.2), N.2) := fun h0 h1 h2 => by rw [eW, if_neg h0, if_neg h1, if_neg h2]
 have f3 : (¬ C.2 = false) -> (¬ 64 < C.1.bits) -> (N.1.2 = 0) -> (Mc = true) -> W = ((zeroA, 5), N.2) := fun h0 h1 h2 h3 => by rw [eW, if_neg h0, if_neg h1, if_pos h2, if_pos h3]
 have f4 : (¬ C.2 = false) -> (¬ 64 < C.1.bits) -> (N.1.2 = 0) -> (¬ Mc = true) -> W = ((A, 0), N.2) := fun h0 h1 h2 h3 => by rw [eW, if_neg h0, if_neg h1, if_pos h2, if_neg h3]
 clear eW
 have g1 : True := trivial
 have g2 : True := trivial
 have g3 : True := trivial
 have g4 : True := trivial
 have g5 : True := trivial
 have g6 : True := trivial
 refine meth_intro (wd := 1) (Q := mkQ LRd3) (by decide) tysOk (q_of LRd3_ok) mixed Try.func103 rfl _ (by show 4 + 1 <= _; decide) (flatF_nff (encRA_flat _)) (rdN_nf) ?_
 repeat' (first | (apply And.intro <;> intro hc <;> (first | exact Bool.noConfusion hc | (exfalso; first | exact absurd hc (by decide) | exact absurd rfl hc | exact absurd hc (by assumption) | exact absurd (by assumption) hc | exact Bool.noConfusion ((by assumption : I.2 = true).symm.trans hc)) | (simp only [zb0, ne_eq, not_true_eq_false] at hc <;> first | exact absurd rfl hc | (exfalso; first | exact absurd hc (by decide) | exact absurd rfl hc | exact absurd hc (by assumption) | exact absurd (by assumption) hc | exact Bool.noConfusion ((by assumption : I.2 = true).symm.trans hc)) | skip) | skip)) | (refine And.intro (by first | exact trivial | decide | omega | (dsimp only; omega) | exact fun _ _ => rfl | exact ⟨by assumption, by first | exact trivial | decide | omega | (dsimp only; omega)⟩) ?_) | (apply And.intro) | (refine Exists.intro b (And.intro ⟨rfl, rfl, by first | exact ⟨by assumption, by decide, by decide⟩ | assumption⟩ ?_)) | (intro s hs; (first | (clear g1; have q : I = s := (hs.trans ((congrArg iidF (rd_adr k)).trans eI)).symm; clear hs; subst q) | (clear g2; have q : s = llP := hs; clear hs; subst q) | (clear g3; have q : C = s := (hs.trans ((congrArg (fun l => forDec l id now) (toL_ctx l)).trans eC)).symm; clear hs; subst q) | (clear g4; have q : N = s := (hs.trans eN).symm; clear hs; subst q) | (clear g5; have q : s = (A, true) := (by (dsimp only at hs; refine hs.trans ((congrArg (joinF · N.1.1) (pfx_is (p := (pfxOf C.1)) (fun j hj => ?_))).trans (eJ (by assumption) (by assumption))); (iterate 17 (rcases j with _ | j; exact rfl)); exact absurd hj (by omega))); clear hs; subst q) | (clear g6; have q : Mc = s := (by (dsimp only at hs; refine (hs.trans ((congrArg mcast (ip_is (a := A) (fun j hj => ?_))).trans eMc)).symm; (iterate 16 (rcases j with _ | j; exact rfl)); exact absurd hj (by omega))); clear hs; subst q) | skip)))
 all_goals try (first | exact rfl | exact Nat.le_of_ble_eq_true rfl)
 all_goals first
  | (show (toL eCtx l.length _).length <= _; rw [toL_len]; have := hl.n; omega)
  | exact fun _ => rfl
  | ((first | rw [f0 (by assumption)] | rw [f1 (fun h => Bool.noConfusion (h.symm.trans (by assumption : C.2 = true))) (by assumption)] | rw [f2 (fun h => Bool.noConfusion (h.symm.trans (by assumption : C.2 = true))) (by assumption) (by assumption)] | rw [f3 (fun h => Bool.noConfusion (h.symm.trans (by assumption : C.2 = true))) (by assumption) (by assumption) (by assumption)] | rw [f4 (fun h => Bool.noConfusion (h.symm.trans (by assumption : C.2 = true))) (by assumption) (by assumption) (fun h => Bool.noConfusion (h.symm.trans (by assumption : Mc = false)))])
     exact ⟨leF_tup ⟨leE_agg rfl (fun i hi => by (iterate 16 (rcases i with _ | i; exact leC_int rfl)); exact absurd hi (by omega)), leC_int rfl, trivial⟩, rdN_le rfl⟩)
  | skip
theorem unid_t2 (b : List Int) (q : Int) (k : Adr) (l : List Ctx) (id now : Int) (hr : RdOk b q) (hl : bytesL l) : MethOk Try.prog 103 [cB.enc true, (cI .i64).enc 2, (cE eAdr).enc k, cFind.enc (l, id, now)] (rdN true b q) (encRA (uniD b true 2 k (forDec l id now) q).1) (rdN true b (uniD b true 2 k (forDec l id now) q).2) := by
 obtain ⟨W, hW⟩ : ∃ W, uniD b true 2 k (forDec l id now) q = W := ⟨_, rfl⟩
 have eW : W = (if (forDec l id now).2 = false then ((zeroA, 9), q) else (if 64 < (forDec l id now).1.bits then ((zeroA, 5), q) else (if (numF b q 2).1.2 = 0 then (if mcast (jn (pfxOf (forDec l id now).1).ip ((numF b q 2).1.1 + 1099478073344)) = true then ((zeroA, 5), (numF b q 2).2) else ((jn (pfxOf (forDec l id now).1).ip ((numF b q 2).1.1 + 1099478073344), 0), (numF b q 2).2)) else ((zeroA, (numF b q 2).1.2), (numF b q 2).2)))) := by
  rw [<- hW]
  simp (decide := true) only [uniD, uniV, thenD, prefD, if_true, if_false, true_and, and_true, false_and]
  by_cases hN : (numF b q 2).1.2 = 0
  . simp (decide := true) only [hN, if_true, if_false]
  . simp only [hN, if_false]
 rw [hW]
 clear hW
 have hv := fun h => (dec_valid (id := id) (now := now) hl h).1
 obtain ⟨C, eC⟩ : ∃ C, forDec l id now = C := ⟨_, rfl⟩
 rw [eC] at eW hv
 obtain ⟨I, eI⟩ : ∃ I, iidF k = I := ⟨_, rfl⟩
 have v2 := num2_v (q := q) hr.bl
 obtain ⟨N, eN⟩ : ∃ N, numF b q 2 = N := ⟨_, rfl⟩
 rw [eN] at eW
 rw [eN] at v2
 have w2 : IntKind.u64.wrap (N.1.1 + 1099478073344) = N.1.1 + 1099478073344 := IntWalk.u64_in _ (by omega)
 have eJ : C.2 = true -> ¬ 64 < C.1.bits -> joinF (pfxOf C.1) (N.1.1 + 1099478073344) = (jn (pfxOf C.1).ip (N.1.1 + 1099478073344), true) := fun h g => if_pos ⟨hv h, Int.not_lt.1 g⟩
 obtain ⟨A, eA'⟩ : ∃ A, jn (pfxOf C.1).ip (N.1.1 + 1099478073344) = A := ⟨_, rfl⟩
 rw [eA'] at eW eJ
 obtain ⟨Mc, eMc⟩ : ∃ x, mcast A = x := ⟨_, rfl⟩
 rw [eMc] at eW
 have f0 : (C.2 = false) -> W = ((zeroA, 9), q) := fun h0 => by rw [eW, if_pos h0]
 have f1 : (¬ C.2 = false) -> (64 < C.1.bits) -> W = ((zeroA, 5), q) := fun h0 h1 => by rw [eW, if_neg h0, if_pos h1]
 have f2 : (¬ C.2 = false) -> (¬ 64 < C.1.bits) -> (¬ N.1.2 = 0) -> W = ((zeroA, N.1.2), N.2) := fun h0 h1 h2 => by rw [eW, if_neg h0, if_neg h1, if_neg h2]
 have f3 : (¬ C.2 = false) -> (¬ 64 < C.1.bits) -> (N.1.2 = 0) -> (Mc = true) -> W = ((zeroA, 5), N.2) := fun h0 h1 h2 h3 => by rw [eW, if_neg h0, if_neg h1, if_pos h2, if_pos h3]
 have f4 : (¬ C.2 = false) -> (¬ 64 < C.1.bits) -> (N.1.2 = 0) -> (¬ Mc = true) -> W = ((A, 0), N.2) := fun h0 h1 h2 h3 => by rw [eW, if_neg h0, if_neg h1, if_pos h2, if_neg h3]
 clear eW
 have g1 : True := trivial
 have g2 : True := trivial
 have g3 : True := trivial
 have g4 : True := trivial
 have g5 : True := trivial
 have g6 : True := trivial
 refine meth_intro (wd := 1) (Q := mkQ LRd3) (by decide) tysOk (q_of LRd3_ok) mixed Try.func103 rfl _ (by show 4 + 1 <= _; decide) (flatF_nff (encRA_flat _)) (rdN_nf) ?_
 repeat' (first | (apply And.intro <;> intro hc <;> (first | exact Bool.noConfusion hc | (exfalso; first | exact absurd hc (by decide) | exact absurd rfl hc | exact absurd hc (by assumption) | exact absurd (by assumption) hc | exact Bool.noConfusion ((by assumption : I.2 = true).symm.trans hc)) | (simp only [zb0, ne_eq, not_true_eq_false] at hc <;> first | exact absurd rfl hc | (exfalso; first | exact absurd hc (by decide) | exact absurd rfl hc | exact absurd hc (by assumption) | exact absurd (by assumption) hc | exact Bool.noConfusion ((by assumption : I.2 = true).symm.trans hc)) | skip) | skip)) | (refine And.intro (by first | exact trivial | decide | omega | (dsimp only; omega) | exact fun _ _ => rfl | exact ⟨by assumption, by first | exact trivial | decide | omega | (dsimp only; omega)⟩) ?_) | (apply And.intro) | (refine Exists.intro b (And.intro ⟨rfl, rfl, by first | exact ⟨by assumption, by decide, by decide⟩ | assumption⟩ ?_)) | (intro s hs; (first | (clear g1; have q : I = s := (hs.trans ((congrArg iidF (rd_adr k)).trans eI)).symm; clear hs; subst q) | (clear g2; have q : s = llP := hs; clear hs; subst q) | (clear g3; have q : C = s := (hs.trans ((congrArg (fun l => forDec l id now) (toL_ctx l)).trans eC)).symm; clear hs; subst q) | (clear g4; have q : N = s := (hs.trans eN).symm; clear hs; subst q) | (clear g5; have q : s = (A, true) := (by (dsimp only at hs; refine hs.trans ((congrArg (joinF · (IntKind.u64.wrap (N.1.1 + 1099478073344))) (pfx_is (p := (pfxOf C.1)) (fun j hj => ?_))).trans ((congrArg (joinF (pfxOf C.1)) w2).trans (eJ (by assumption) (by assumption)))); (iterate 17 (rcases j with _ | j; exact rfl)); exact absurd hj (by omega))); clear hs; subst q) | (clear g6; have q : Mc = s := (by (dsimp only at hs; refine (hs.trans ((congrArg mcast (ip_is (a := A) (fun j hj => ?_))).trans eMc)).symm; (iterate 16 (rcases j with _ | j; exact rfl)); exact absurd hj (by omega))); clear hs; subst q) | skip)))
 all_goals try (first | exact rfl | exact Nat.le_of_ble_eq_true rfl)
 all_goals first
  | (show (toL eCtx l.length _).length <= _; rw [toL_len]; have := hl.n; omega)
  | exact fun _ => rfl
  | ((first | rw [f0 (by assumption)] | rw [f1 (fun h => Bool.noConfusion (h.symm.trans (by assumption : C.2 = true))) (by assumption)] | rw [f2 (fun h => Bool.noConfusion (h.symm.trans (by assumption : C.2 = true))) (by assumption) (by assumption)] | rw [f3 (fun h => Bool.noConfusion (h.symm.trans (by assumption : C.2 = true))) (by assumption) (by assumption) (by assumption)] | rw [f4 (fun h => Bool.noConfusion (h.symm.trans (by assumption : C.2 = true))) (by assumption) (by assumption) (fun h => Bool.noConfusion (h.symm.trans (by assumption : Mc = false)))])
     exact ⟨leF_tup ⟨leE_agg rfl (fun i hi => by (iterate 16 (rcases i with _ | i; exact leC_int rfl)); exact absurd hi (by omega)), leC_int rfl, trivial⟩, rdN_le rfl⟩)
  | skip
theorem unid_t3 (b : List Int) (q : Int) (k : Adr) (l : List Ctx) (id now : Int) (hr : RdOk b q) (hl : bytesL l) : MethOk Try.prog 103 [cB.enc true, (cI .i64).enc 3, (cE eAdr).enc k, cFind.enc (l, id, now)] (rdN true b q) (encRA (uniD b true 3 k (forDec l id now) q).1) (rdN true b (uniD b true 3 k (forDec l id now) q).2) := by
 obtain ⟨W, hW⟩ : ∃ W, uniD b true 3 k (forDec l id now) q = W := ⟨_, rfl⟩
 have eW : W = (if (iidF k).2 = false then ((zeroA, 5), q) else (if (forDec l id now).2 = false then ((zeroA, 9), q) else (if 64 < (forDec l id now).1.bits then ((zeroA, 5), q) else (if mcast (jn (pfxOf (forDec l id now).1).ip (iidF k).1) = true then ((zeroA, 5), q) else ((jn (pfxOf (forDec l id now).1).ip (iidF k).1, 0), q))))) := by
  rw [<- hW]
  simp (decide := true) only [uniD, uniV, thenD, prefD, if_true, if_false, true_and, and_true, false_and]
 rw [hW]
 clear hW
 have hv := fun h => (dec_valid (id := id) (now := now) hl h).1
 obtain ⟨C, eC⟩ : ∃ C, forDec l id now = C := ⟨_, rfl⟩
 rw [eC] at eW hv
 obtain ⟨I, eI⟩ : ∃ I, iidF k = I := ⟨_, rfl⟩
 rw [eI] at eW
 have eJ : C.2 = true -> ¬ 64 < C.1.bits -> joinF (pfxOf C.1) I.1 = (jn (pfxOf C.1).ip I.1, true) := fun h g => if_pos ⟨hv h, Int.not_lt.1 g⟩
 obtain ⟨A, eA'⟩ : ∃ A, jn (pfxOf C.1).ip I.1 = A := ⟨_, rfl⟩
 rw [eA'] at eW eJ
 obtain ⟨Mc, eMc⟩ : ∃ x, mcast A = x := ⟨_, rfl⟩
 rw [eMc] at eW
 have f0 : (I.2 = false) -> W = ((zeroA, 5), q) := fun h0 => by rw [eW, if_pos h0]
 have f1 : (¬ I.2 = false) -> (C.2 = false) -> W = ((zeroA, 9), q) := fun h0 h1 => by rw [eW, if_neg h0, if_pos h1]
 have f2 : (¬ I.2 = false) -> (¬ C.2 = false) -> (64 < C.1.bits) -> W = ((zeroA, 5), q) := fun h0 h1 h2 => by rw [eW, if_neg h0, if_neg h1, if_pos h2]
 have f3 : (¬ I.2 = false) -> (¬ C.2 = false) -> (¬ 64 < C.1.bits) -> (Mc = true) -> W = ((zeroA, 5), q) := fun h0 h1 h2 h3 => by rw [eW, if_neg h0, if_neg h1, if_neg h2, if_pos h3]
 have f4 : (¬ I.2 = false) -> (¬ C.2 = false) -> (¬ 64 < C.1.bits) -> (¬ Mc = true) -> W = ((A, 0), q) := fun h0 h1 h2 h3 => by rw [eW, if_neg h0, if_neg h1, if_neg h2, if_neg h3]
 clear eW
 have g1 : True := trivial
 have g2 : True := trivial
 have g3 : True := trivial
 have g4 : True := trivial
 have g5 : True := trivial
 have g6 : True := trivial
 refine meth_intro (wd := 1) (Q := mkQ LRd3) (by decide) tysOk (q_of LRd3_ok) mixed Try.func103 rfl _ (by show 4 + 1 <= _; decide) (flatF_nff (encRA_flat _)) (rdN_nf) ?_
 repeat' (first | (apply And.intro <;> intro hc <;> (first | exact Bool.noConfusion hc | (exfalso; first | exact absurd hc (by decide) | exact absurd rfl hc | exact absurd hc (by assumption) | exact absurd (by assumption) hc | exact Bool.noConfusion ((by assumption : I.2 = true).symm.trans hc)) | (simp only [zb0, ne_eq, not_true_eq_false] at hc <;> first | exact absurd rfl hc | (exfalso; first | exact absurd hc (by decide) | exact absurd rfl hc | exact absurd hc (by assumption) | exact absurd (by assumption) hc | exact Bool.noConfusion ((by assumption : I.2 = true).symm.trans hc)) | skip) | skip)) | (refine And.intro (by first | exact trivial | decide | omega | (dsimp only; omega) | exact fun _ _ => rfl | exact ⟨by assumption, by first | exact trivial | decide | omega | (dsimp only; omega)⟩) ?_) | (apply And.intro) | (refine Exists.intro b (And.intro ⟨rfl, rfl, by first | exact ⟨by assumption, by decide, by decide⟩ | assumption⟩ ?_)) | (intro s hs; (first | (clear g1; have q : I = s := (hs.trans ((congrArg iidF (rd_adr k)).trans eI)).symm; clear hs; subst q) | (clear g2; have q : s = llP := hs; clear hs; subst q) | (clear g3; have q : C = s := (hs.trans ((congrArg (fun l => forDec l id now) (toL_ctx l)).trans eC)).symm; clear hs; subst q) | (clear g5; have q : s = (A, true) := (by (dsimp only at hs; refine hs.trans ((congrArg (joinF · I.1) (pfx_is (p := (pfxOf C.1)) (fun j hj => ?_))).trans (eJ (by assumption) (by assumption))); (iterate 17 (rcases j with _ | j; exact rfl)); exact absurd hj (by omega))); clear hs; subst q) | (clear g6; have q : Mc = s := (by (dsimp only at hs; refine (hs.trans ((congrArg mcast (ip_is (a := A) (fun j hj => ?_))).trans eMc)).symm; (iterate 16 (rcases j with _ | j; exact rfl)); exact absurd hj (by omega))); clear hs; subst q) | skip)))
 all_goals try (first | exact rfl | exact Nat.le_of_ble_eq_true rfl)
 all_goals first
  | (show (toL eCtx l.length _).length <= _; rw [toL_len]; have := hl.n; omega)
  | exact fun _ => rfl
  | ((first | rw [f0 (by assumption)] | rw [f1 (fun h => Bool.noConfusion (h.symm.trans (by assumption : I.2 = true))) (by assumption)] | rw [f2 (fun h => Bool.noConfusion (h.symm.trans (by assumption : I.2 = true))) (fun h => Bool.noConfusion (h.symm.trans (by assumption : C.2 = true))) (by assumption)] | rw [f3 (fun h => Bool.noConfusion (h.symm.trans (by assumption : I.2 = true))) (fun h => Bool.noConfusion (h.symm.trans (by assumption : C.2 = true))) (by assumption) (by assumption)] | rw [f4 (fun h => Bool.noConfusion (h.symm.trans (by assumption : I.2 = true))) (fun h => Bool.noConfusion (h.symm.trans (by assumption : C.2 = true))) (by assumption) (fun h => Bool.noConfusion (h.symm.trans (by assumption : Mc = false)))])
     exact ⟨leF_tup ⟨leE_agg rfl (fun i hi => by (iterate 16 (rcases i with _ | i; exact leC_int rfl)); exact absurd hi (by omega)), leC_int rfl, trivial⟩, rdN_le rfl⟩)
  | skip
theorem unid_f0 (b : List Int) (q : Int) (k : Adr) (l : List Ctx) (id now : Int) (hr : RdOk b q) (hl : bytesL l) : MethOk Try.prog 103 [cB.enc false, (cI .i64).enc 0, (cE eAdr).enc k, cFind.enc (l, id, now)] (rdN true b q) (encRA (uniD b false 0 k (forDec l id now) q).1) (rdN true b (uniD b false 0 k (forDec l id now) q).2) := by
 obtain ⟨W, hW⟩ : ∃ W, uniD b false 0 k (forDec l id now) q = W := ⟨_, rfl⟩
 have eW : W = (if (ipRF b q).1.2 = 0 then (if mcast ((ipRF b q).1.1) = true then ((zeroA, 5), (ipRF b q).2) else (((ipRF b q).1.1, 0), (ipRF b q).2)) else ((zeroA, (ipRF b q).1.2), (ipRF b q).2)) := by
  rw [<- hW]
  simp (decide := true) only [uniD, uniV, thenD, prefD, if_true, if_false, true_and, and_true, false_and]
 rw [hW]
 clear hW
 obtain ⟨I, eI⟩ : ∃ I, iidF k = I := ⟨_, rfl⟩
 obtain ⟨N, eN⟩ : ∃ N, ipRF b q = N := ⟨_, rfl⟩
 rw [eN] at eW
 obtain ⟨Mc, eMc⟩ : ∃ x, mcast N.1.1 = x := ⟨_, rfl⟩
 rw [eMc] at eW
 have f0 : (¬ N.1.2 = 0) -> W = ((zeroA, N.1.2), N.2) := fun h0 => by rw [eW, if_neg h0]
 have f1 : (N.1.2 = 0) -> (Mc = true) -> W = ((zeroA, 5), N.2) := fun h0 h1 => by rw [eW, if_pos h0, if_pos h1]
 have f2 : (N.1.2 = 0) -> (¬ Mc = true) -> W = ((N.1.1, 0), N.2) := fun h0 h1 => by rw [eW, if_pos h0, if_neg h1]
 clear eW
 have g1 : True := trivial
 have g2 : True := trivial
 have g3 : True := trivial
 have g4 : True := trivial
 have g5 : True := trivial
 have g6 : True := trivial
 refine meth_intro (wd := 1) (Q := mkQ LRd3) (by decide) tysOk (q_of LRd3_ok) mixed Try.func103 rfl _ (by show 4 + 1 <= _; decide) (flatF_nff (encRA_flat _)) (rdN_nf) ?_
 repeat' (first | (apply And.intro <;> intro hc <;> (first | exact Bool.noConfusion hc | (exfalso; first | exact absurd hc (by decide) | exact absurd rfl hc | exact absurd hc (by assumption) | exact absurd (by assumption) hc | exact Bool.noConfusion ((by assumption : I.2 = true).symm.trans hc)) | (simp only [zb0, ne_eq, not_true_eq_false] at hc <;> first | exact absurd rfl hc | (exfalso; first | exact absurd hc (by decide) | exact absurd rfl hc | exact absurd hc (by assumption) | exact absurd (by assumption) hc | exact Bool.noConfusion ((by assumption : I.2 = true).symm.trans hc)) | skip) | skip)) | (refine And.intro (by first | exact trivial | decide | omega | (dsimp only; omega) | exact fun _ _ => rfl | exact ⟨by assumption, by first | exact trivial | decide | omega | (dsimp only; omega)⟩) ?_) | (apply And.intro) | (refine Exists.intro b (And.intro ⟨rfl, rfl, by first | exact ⟨by assumption, by decide, by decide⟩ | assumption⟩ ?_)) | (intro s hs; (first | (clear g1; have q : I = s := (hs.trans ((congrArg iidF (rd_adr k)).trans eI)).symm; clear hs; subst q) | (clear g2; have q : s = llP := hs; clear hs; subst q) | (clear g4; have q : N = s := (hs.trans eN).symm; clear hs; subst q) | (clear g6; have q : Mc = s := (by (dsimp only at hs; refine (hs.trans ((congrArg mcast (ip_is (a := N.1.1) (fun j hj => ?_))).trans eMc)).symm; (iterate 16 (rcases j with _ | j; exact rfl)); exact absurd hj (by omega))); clear hs; subst q) | skip)))
 all_goals try (first | exact rfl | exact Nat.le_of_ble_eq_true rfl)
 all_goals first
  | (show (toL eCtx l.length _).length <= _; rw [toL_len]; have := hl.n; omega)
  | exact fun _ => rfl
  | ((first | rw [f0 (by assumption)] | rw [f1 (by assumption) (by assumption)] | rw [f2 (by assumption) (fun h => Bool.noConfusion (h.symm.trans (by assumption : Mc = false)))])
     exact ⟨leF_tup ⟨leE_agg rfl (fun i hi => by (iterate 16 (rcases i with _ | i; exact leC_int rfl)); exact absurd hi (by omega)), leC_int rfl, trivial⟩, rdN_le rfl⟩)
  | skip
theorem unid_f1 (b : List Int) (q : Int) (k : Adr) (l : List Ctx) (id now : Int) (hr : RdOk b q) (hl : bytesL l) : MethOk Try.prog 103 [cB.enc false, (cI .i64).enc 1, (cE eAdr).enc k, cFind.enc (l, id, now)] (rdN true b q) (encRA (uniD b false 1 k (forDec l id now) q).1) (rdN true b (uniD b false 1 k (forDec l id now) q).2) := by
 obtain ⟨W, hW⟩ : ∃ W, uniD b false 1 k (forDec l id now) q = W := ⟨_, rfl⟩
 have eW : W = (if (numF b q 8).1.2 = 0 then (if mcast (jn llP.ip (numF b q 8).1.1) = true then ((zeroA, 5), (numF b q 8).2) else ((jn llP.ip (numF b q 8).1.1, 0), (numF b q 8).2)) else ((zeroA, (numF b q 8).1.2), (numF b q 8).2)) := by
  rw [<- hW]
  simp (decide := true) only [uniD, uniV, thenD, prefD, if_true, if_false, true_and, and_true, false_and]
  by_cases hN : (numF b q 8).1.2 = 0
  . simp (decide := true) only [hN, if_true, if_false]
  . simp only [hN, if_false]
 rw [hW]
 clear hW
 obtain ⟨I, eI⟩ : ∃ I, iidF k = I := ⟨_, rfl⟩
 obtain ⟨N, eN⟩ : ∃ N, numF b q 8 = N := ⟨_, rfl⟩
 rw [eN] at eW
 have eJ : joinF llP N.1.1 = (jn llP.ip N.1.1, true) := if_pos ⟨llP_v, by decide⟩
 obtain ⟨A, eA'⟩ : ∃ A, jn llP.ip N.1.1 = A := ⟨_, rfl⟩
 rw [eA'] at eW eJ
 obtain ⟨Mc, eMc⟩ : ∃ x, mcast A = x := ⟨_, rfl⟩
 rw [eMc] at eW
 have f0 : (¬ N.1.2 = 0) -> W = ((zeroA, N.1.2), N.2) := fun h0 => by rw [eW, if_neg h0]
 have f1 : (N.1.2 = 0) -> (Mc = true) -> W = ((zeroA, 5), N.2) := fun h0 h1 => by rw [eW, if_pos h0, if_pos h1]
 have f2 : (N.1.2 = 0) -> (¬ Mc = true) -> W = ((A, 0), N.2) := fun h0 h1 => by rw [eW, if_pos h0, if_neg h1]
 clear eW
 have g1 : True := trivial
 have g2 : True := trivial
 have g3 : True := trivial
 have g4 : True := trivial
 have g5 : True := trivial
 have g6 : True := trivial
 refine meth_intro (wd := 1) (Q := mkQ LRd3) (by decide) tysOk (q_of LRd3_ok) mixed Try.func103 rfl _ (by show 4 + 1 <= _; decide) (flatF_nff (encRA_flat _)) (rdN_nf) ?_
 repeat' (first | (apply And.intro <;> intro hc <;> (first | exact Bool.noConfusion hc | (exfalso; first | exact absurd hc (by decide) | exact absurd rfl hc | exact absurd hc (by assumption) | exact absurd (by assumption) hc | exact Bool.noConfusion ((by assumption : I.2 = true).symm.trans hc)) | (simp only [zb0, ne_eq, not_true_eq_false] at hc <;> first | exact absurd rfl hc | (exfalso; first | exact absurd hc (by decide) | exact absurd rfl hc | exact absurd hc (by assumption) | exact absurd (by assumption) hc | exact Bool.noConfusion ((by assumption : I.2 = true).symm.trans hc)) | skip) | skip)) | (refine And.intro (by first | exact trivial | decide | omega | (dsimp only; omega) | exact fun _ _ => rfl | exact ⟨by assumption, by first | exact trivial | decide | omega | (dsimp only; omega)⟩) ?_) | (apply And.intro) | (refine Exists.intro b (And.intro ⟨rfl, rfl, by first | exact ⟨by assumption, by decide, by decide⟩ | assumption⟩ ?_)) | (intro s hs; (first | (clear g1; have q : I = s := (hs.trans ((congrArg iidF (rd_adr k)).trans eI)).symm; clear hs; subst q) | (clear g2; have q : s = llP := hs; clear hs; subst q) | (clear g4; have q : N = s := (hs.trans eN).symm; clear hs; subst q) | (clear g5; have q : s = (A, true) := (by (dsimp only at hs; refine hs.trans ((congrArg (joinF · N.1.1) (pfx_is (p := llP) (fun j hj => ?_))).trans eJ); (iterate 17 (rcases j with _ | j; exact rfl)); exact absurd hj (by omega))); clear hs; subst q) | (clear g6; have q : Mc = s := (by (dsimp only at hs; refine (hs.trans ((congrArg mcast (ip_is (a := A) (fun j hj => ?_))).trans eMc)).symm; (iterate 16 (rcases j with _ | j; exact rfl)); exact absurd hj (by omega))); clear hs; subst q) | skip)))
 all_goals try (first | exact rfl | exact Nat.le_of_ble_eq_true rfl)
 all_goals first
  | (show (toL eCtx l.length _).length <= _; rw [toL_len]; have := hl.n; omega)
  | exact fun _ => rfl
  | ((first | rw [f0 (by assumption)] | rw [f1 (by assumption) (by assumption)] | rw [f2 (by assumption) (fun h => Bool.noConfusion (h.symm.trans (by assumption : Mc = false)))])
     exact ⟨leF_tup ⟨leE_agg rfl (fun i hi => by (iterate 16 (rcases i with _ | i; exact leC_int rfl)); exact absurd hi (by omega)), leC_int rfl, trivial⟩, rdN_le rfl⟩)
  | skip
theorem unid_f2 (b : List Int) (q : Int) (k : Adr) (l : List Ctx) (id now : Int) (hr : RdOk b q) (hl : bytesL l) : MethOk Try.prog 103 [cB.enc false, (cI .i64).enc 2, (cE eAdr).enc k, cFind.enc (l, id, now)] (rdN true b q) (encRA (uniD b false 2 k (forDec l id now) q).1) (rdN true b (uniD b false 2 k (forDec l id now) q).2) := by
 obtain ⟨W, hW⟩ : ∃ W, uniD b false 2 k (forDec l id now) q = W := ⟨_, rfl⟩
 have eW : W = (if (numF b q 2).1.2 = 0 then (if mcast (jn llP.ip ((numF b q 2).1.1 + 1099478073344)) = true then ((zeroA, 5), (numF b q 2).2) else ((jn llP.ip ((numF b q 2).1.1 + 1099478073344), 0), (numF b q 2).2)) else ((zeroA, (numF b q 2).1.2), (numF b q 2).2)) := by
  rw [<- hW]
  simp (decide := true) only [uniD, uniV, thenD, prefD, if_true, if_false, true_and, and_true, false_and]
  by_cases hN : (numF b q 2).1.2 = 0
  . simp (decide := true) only [hN, if_true, if_false]
  . simp only [hN, if_false]
 rw [hW]
 clear hW
 obtain ⟨I, eI⟩ : ∃ I, iidF k = I := ⟨_, rfl⟩
 have v2 := num2_v (q := q) hr.bl
 obtain ⟨N, eN⟩ : ∃ N, numF b q 2 = N := ⟨_, rfl⟩
 rw [eN] at eW
 rw [eN] at v2
 have w2 : IntKind.u64.wrap (N.1.1 + 1099478073344) = N.1.1 + 1099478073344 := IntWalk.u64_in _ (by omega)
 have eJ : joinF llP (N.1.1 + 1099478073344) = (jn llP.ip (N.1.1 + 1099478073344), true) := if_pos ⟨llP_v, by decide⟩
 obtain ⟨A, eA'⟩ : ∃ A, jn llP.ip (N.1.1 + 1099478073344) = A := ⟨_, rfl⟩
 rw [eA'] at eW eJ
 obtain ⟨Mc, eMc⟩ : ∃ x, mcast A = x := ⟨_, rfl⟩
 rw [eMc] at eW
 have f0 : (¬ N.1.2 = 0) -> W = ((zeroA, N.1.2), N.2) := fun h0 => by rw [eW, if_neg h0]
 have f1 : (N.1.2 = 0) -> (Mc = true) -> W = ((zeroA, 5), N.2) := fun h0 h1 => by rw [eW, if_pos h0, if_pos h1]
 have f2 : (N.1.2 = 0) -> (¬ Mc = true) -> W = ((A, 0), N.2) := fun h0 h1 => by rw [eW, if_pos h0, if_neg h1]
 clear eW
 have g1 : True := trivial
 have g2 : True := trivial
 have g3 : True := trivial
 have g4 : True := trivial
 have g5 : True := trivial
 have g6 : True := trivial
 refine meth_intro (wd := 1) (Q := mkQ LRd3) (by decide) tysOk (q_of LRd3_ok) mixed Try.func103 rfl _ (by show 4 + 1 <= _; decide) (flatF_nff (encRA_flat _)) (rdN_nf) ?_
 repeat' (first | (apply And.intro <;> intro hc <;> (first | exact Bool.noConfusion hc | (exfalso; first | exact absurd hc (by decide) | exact absurd rfl hc | exact absurd hc (by assumption) | exact absurd (by assumption) hc | exact Bool.noConfusion ((by assumption : I.2 = true).symm.trans hc)) | (simp only [zb0, ne_eq, not_true_eq_false] at hc <;> first | exact absurd rfl hc | (exfalso; first | exact absurd hc (by decide) | exact absurd rfl hc | exact absurd hc (by assumption) | exact absurd (by assumption) hc | exact Bool.noConfusion ((by assumption : I.2 = true).symm.trans hc)) | skip) | skip)) | (refine And.intro (by first | exact trivial | decide | omega | (dsimp only; omega) | exact fun _ _ => rfl | exact ⟨by assumption, by first | exact trivial | decide | omega | (dsimp only; omega)⟩) ?_) | (apply And.intro) | (refine Exists.intro b (And.intro ⟨rfl, rfl, by first | exact ⟨by assumption, by decide, by decide⟩ | assumption⟩ ?_)) | (intro s hs; (first | (clear g1; have q : I = s := (hs.trans ((congrArg iidF (rd_adr k)).trans eI)).symm; clear hs; subst q) | (clear g2; have q : s = llP := hs; clear hs; subst q) | (clear g4; have q : N = s := (hs.trans eN).symm; clear hs; subst q) | (clear g5; have q : s = (A, true) := (by (dsimp only at hs; refine hs.trans ((congrArg (joinF · (IntKind.u64.wrap (N.1.1 + 1099478073344))) (pfx_is (p := llP) (fun j hj => ?_))).trans ((congrArg (joinF llP) w2).trans eJ)); (iterate 17 (rcases j with _ | j; exact rfl)); exact absurd hj (by omega))); clear hs; subst q) | (clear g6; have q : Mc = s := (by (dsimp only at hs; refine (hs.trans ((congrArg mcast (ip_is (a := A) (fun j hj => ?_))).trans eMc)).symm; (iterate 16 (rcases j with _ | j; exact rfl)); exact absurd hj (by omega))); clear hs; subst q) | skip)))
 all_goals try (first | exact rfl | exact Nat.le_of_ble_eq_true rfl)
 all_goals first
  | (show (toL eCtx l.length _).length <= _; rw [toL_len]; have := hl.n; omega)
  | exact fun _ => rfl
  | ((first | rw [f0 (by assumption)] | rw [f1 (by assumption) (by assumption)] | rw [f2 (by assumption) (fun h => Bool.noConfusion (h.symm.trans (by assumption : Mc = false)))])
     exact ⟨leF_tup ⟨leE_agg rfl (fun i hi => by (iterate 16 (rcases i with _ | i; exact leC_int rfl)); exact absurd hi (by omega)), leC_int rfl, trivial⟩, rdN_le rfl⟩)
  | skip
theorem unid_f3 (b : List Int) (q : Int) (k : Adr) (l : List Ctx) (id now : Int) (hr : RdOk b q) (hl : bytesL l) : MethOk Try.prog 103 [cB.enc false, (cI .i64).enc 3, (cE eAdr).enc k, cFind.enc (l, id, now)] (rdN true b q) (encRA (uniD b false 3 k (forDec l id now) q).1) (rdN true b (uniD b false 3 k (forDec l id now) q).2) := by
 obtain ⟨W, hW⟩ : ∃ W, uniD b false 3 k (forDec l id now) q = W := ⟨_, rfl⟩
 have eW : W = (if (iidF k).2 = false then ((zeroA, 5), q) else (if mcast (jn llP.ip (iidF k).1) = true then ((zeroA, 5), q) else ((jn llP.ip (iidF k).1, 0), q))) := by
  rw [<- hW]
  simp (decide := true) only [uniD, uniV, thenD, prefD, if_true, if_false, true_and, and_true, false_and]
 rw [hW]
 clear hW
 obtain ⟨I, eI⟩ : ∃ I, iidF k = I := ⟨_, rfl⟩
 rw [eI] at eW
 have eJ : joinF llP I.1 = (jn llP.ip I.1, true) := if_pos ⟨llP_v, by decide⟩
 obtain ⟨A, eA'⟩ : ∃ A, jn llP.ip I.1 = A := ⟨_, rfl⟩
 rw [eA'] at eW eJ
 obtain ⟨Mc, eMc⟩ : ∃ x, mcast A = x := ⟨_, rfl⟩
 rw [eMc] at eW
 have f0 : (I.2 = false) -> W = ((zeroA, 5), q) := fun h0 => by rw [eW, if_pos h0]
 have f1 : (¬ I.2 = false) -> (Mc = true) -> W = ((zeroA, 5), q) := fun h0 h1 => by rw [eW, if_neg h0, if_pos h1]
 have f2 : (¬ I.2 = false) -> (¬ Mc = true) -> W = ((A, 0), q) := fun h0 h1 => by rw [eW, if_neg h0, if_neg h1]
 clear eW
 have g1 : True := trivial
 have g2 : True := trivial
 have g3 : True := trivial
 have g4 : True := trivial
 have g5 : True := trivial
 have g6 : True := trivial
 refine meth_intro (wd := 1) (Q := mkQ LRd3) (by decide) tysOk (q_of LRd3_ok) mixed Try.func103 rfl _ (by show 4 + 1 <= _; decide) (flatF_nff (encRA_flat _)) (rdN_nf) ?_
 repeat' (first | (apply And.intro <;> intro hc <;> (first | exact Bool.noConfusion hc | (exfalso; first | exact absurd hc (by decide) | exact absurd rfl hc | exact absurd hc (by assumption) | exact absurd (by assumption) hc | exact Bool.noConfusion ((by assumption : I.2 = true).symm.trans hc)) | (simp only [zb0, ne_eq, not_true_eq_false] at hc <;> first | exact absurd rfl hc | (exfalso; first | exact absurd hc (by decide) | exact absurd rfl hc | exact absurd hc (by assumption) | exact absurd (by assumption) hc | exact Bool.noConfusion ((by assumption : I.2 = true).symm.trans hc)) | skip) | skip)) | (refine And.intro (by first | exact trivial | decide | omega | (dsimp only; omega) | exact fun _ _ => rfl | exact ⟨by assumption, by first | exact trivial | decide | omega | (dsimp only; omega)⟩) ?_) | (apply And.intro) | (refine Exists.intro b (And.intro ⟨rfl, rfl, by first | exact ⟨by assumption, by decide, by decide⟩ | assumption⟩ ?_)) | (intro s hs; (first | (clear g1; have q : I = s := (hs.trans ((congrArg iidF (rd_adr k)).trans eI)).symm; clear hs; subst q) | (clear g2; have q : s = llP := hs; clear hs; subst q) | (clear g5; have q : s = (A, true) := (by (dsimp only at hs; refine hs.trans ((congrArg (joinF · I.1) (pfx_is (p := llP) (fun j hj => ?_))).trans eJ); (iterate 17 (rcases j with _ | j; exact rfl)); exact absurd hj (by omega))); clear hs; subst q) | (clear g6; have q : Mc = s := (by (dsimp only at hs; refine (hs.trans ((congrArg mcast (ip_is (a := A) (fun j hj => ?_))).trans eMc)).symm; (iterate 16 (rcases j with _ | j; exact rfl)); exact absurd hj (by omega))); clear hs; subst q) | skip)))
 all_goals try (first | exact rfl | exact Nat.le_of_ble_eq_true rfl)
 all_goals first
  | (show (toL eCtx l.length _).length <= _; rw [toL_len]; have := hl.n; omega)
  | exact fun _ => rfl
  | ((first | rw [f0 (by assumption)] | rw [f1 (fun h => Bool.noConfusion (h.symm.trans (by assumption : I.2 = true))) (by assumption)] | rw [f2 (fun h => Bool.noConfusion (h.symm.trans (by assumption : I.2 = true))) (fun h => Bool.noConfusion (h.symm.trans (by assumption : Mc = false)))])
     exact ⟨leF_tup ⟨leE_agg rfl (fun i hi => by (iterate 16 (rcases i with _ | i; exact leC_int rfl)); exact absurd hi (by omega)), leC_int rfl, trivial⟩, rdN_le rfl⟩)
  | skip
def grpB (n : Nat) (v : Int) : Fin 16 -> Int := fun i => if i.1 = 0 then 255 else if i.1 = 1 then (if n = 1 then 2 else byteM v n 0) else if i.1 + n < 17 /\ n ≠ 1 \/ i.1 < 15 /\ n = 1 then 0 else byteM v n (i.1 + n - 16)
theorem getD_byte {w : List Int} {n k : Nat} (hw : BL w) (hn : w.length = n) (h8 : n <= 8) (hk : k < n) : w.getD k default = byteM (beVal w) n k := by
 have e : beM (beVal w) n = w := (beM_eq _ _ h8).trans (beN_beVal n w hw hn)
 conv => lhs; rw [<- e]
 unfold beM
 rw [List.getD_eq_getElem?_getD, List.getElem?_map, List.getElem?_range hk]; rfl
theorem grpV_eq {w : List Int} {n : Nat} (hw : BL w) (hn : w.length = n) (h1 : 1 <= n) (h8 : n <= 8) : grpV n w = grpB n (beVal w) := by
 funext i
 have hi := i.2
 unfold grpV grpB
 by_cases c0 : i.1 = 0
 . rw [if_pos c0, if_pos c0]
 . rw [if_neg c0, if_neg c0]
   by_cases c1 : i.1 = 1
   . rw [if_pos c1, if_pos c1]
     by_cases c2 : n = 1
     . rw [if_pos c2, if_pos c2]
     . rw [if_neg c2, if_neg c2]
       exact getD_byte hw hn h8 (by omega)
   . rw [if_neg c1, if_neg c1]
     by_cases c2 : i.1 + n < 17 /\ n ≠ 1 \/ i.1 < 15 /\ n = 1
     . rw [if_pos c2, if_pos c2]
     . rw [if_neg c2, if_neg c2]
       exact getD_byte hw hn h8 (by omega)
theorem num_w {b : List Int} {q n : Int} (h : (numF b q n).1.2 = 0) : (numF b q n).1.1 = beVal ((b.drop q.toNat).take n.toNat) /\ ((b.drop q.toNat).take n.toNat).length = n.toNat := by
 unfold numF at h ⊢
 split at h
 . rename_i g
   have hU := uint_true g
   rw [if_pos g]
   refine ⟨?_, by rw [List.length_take, List.length_drop]; omega⟩
   show (uintF b q n).1 = _
   unfold uintF
   rw [if_pos hU]
 . cases h
theorem grp_val {b : List Int} {q n : Int} (hb : BL b) (h : (numF b q n).1.2 = 0) (h1 : 1 <= n) (h8 : n <= 8) : grpV n.toNat ((b.drop q.toNat).take n.toNat) = grpB n.toNat (numF b q n).1.1 := by
 obtain ⟨e1, e2⟩ := num_w h
 rw [e1]
 exact grpV_eq ((hb.drop _).take _) e2 (by omega) (by omega)
theorem grpd_0 (b : List Int) (q : Int) (hr : RdOk b q) : MethOk Try.prog 104 [(cI .i64).enc 0] (rdN true b q) (encRA (grpD b 0 q).1) (rdN true b (grpD b 0 q).2) := by
 obtain ⟨W, hW⟩ : ∃ W, grpD b 0 q = W := ⟨_, rfl⟩
 have eW : W = (if (ipRF b q).1.2 = 0 then (if mcast (ipRF b q).1.1 = true then (((ipRF b q).1.1, 0), (ipRF b q).2) else (((ipRF b q).1.1, 5), (ipRF b q).2)) else ((zeroA, (ipRF b q).1.2), (ipRF b q).2)) := hW.symm
 have ez : ¬ (ipRF b q).1.2 = 0 -> (ipRF b q).1.1 = zeroA := fun h => by
  unfold ipRF at h ⊢
  split
  . rfl
  . rename_i g; rw [if_neg g] at h; exact absurd rfl h
 rw [hW]
 obtain ⟨N, eN⟩ : ∃ N, ipRF b q = N := ⟨_, rfl⟩
 rw [eN] at eW ez
 obtain ⟨Mc, eMc⟩ : ∃ x, mcast N.1.1 = x := ⟨_, rfl⟩
 rw [eMc] at eW
 have f0 : ¬ N.1.2 = 0 -> W = ((N.1.1, N.1.2), N.2) := fun h => by rw [eW, if_neg h, ez h]
 have f1 : N.1.2 = 0 -> Mc = true -> W = ((N.1.1, 0), N.2) := fun h g => by rw [eW, if_pos h, if_pos g]
 have f2 : N.1.2 = 0 -> Mc = false -> W = ((N.1.1, 5), N.2) := fun h g => by rw [eW, if_pos h, if_neg (by rw [g]; decide)]
 clear eW hW
 have g1 : True := trivial
 refine meth_intro (wd := 1) (Q := mkQ LRd3) (by decide) tysOk (q_of LRd3_ok) mixed Try.func104 rfl _ (by show 1 + 1 <= _; decide) (flatF_nff (encRA_flat _)) (rdN_nf) ?_
 repeat' (first | (apply And.intro <;> intro hc <;> (first | exact Bool.noConfusion hc | (exfalso; first | exact absurd hc (by decide) | exact absurd rfl hc | exact absurd hc (by assumption) | exact absurd (by assumption) hc) | (simp only [zb0, ne_eq, not_true_eq_false] at hc <;> first | exact absurd rfl hc | (exfalso; first | exact absurd hc (by decide) | exact absurd rfl hc | exact absurd hc (by assumption) | exact absurd (by assumption) hc) | skip) | skip)) | (refine And.intro (by first | exact trivial | decide | omega | (dsimp only; omega) | exact fun _ _ => rfl | exact ⟨by assumption, by first | exact trivial | decide | omega | (dsimp only; omega)⟩) ?_) | (apply And.intro) | (refine Exists.intro b (And.intro ⟨rfl, rfl, by first | exact ⟨by assumption, by decide, by decide⟩ | assumption⟩ ?_)) | (intro s hs; (first | (clear g1; have q : N = s := (hs.trans eN).symm; clear hs; subst q) | (have q : Mc = s := (by (dsimp only at hs; refine (hs.trans ((congrArg mcast (ip_is (a := N.1.1) (fun j hj => ?_))).trans eMc)).symm; (iterate 16 (rcases j with _ | j; exact rfl)); exact absurd hj (by omega))); clear hs; subst q) | skip)))
 all_goals try (first | exact rfl | exact Nat.le_of_ble_eq_true rfl)
 all_goals first
  | (rw [f0 (by assumption)]
     exact ⟨leF_tup ⟨leE_agg rfl (fun i hi => by (iterate 16 (rcases i with _ | i; exact leC_int rfl)); exact absurd hi (by omega)), leC_int rfl, trivial⟩, rdN_le rfl⟩)
  | (rw [f1 (by assumption) (by assumption)]
     exact ⟨leF_tup ⟨leE_agg rfl (fun i hi => by (iterate 16 (rcases i with _ | i; exact leC_int rfl)); exact absurd hi (by omega)), leC_int (by assumption), trivial⟩, rdN_le rfl⟩)
  | (rw [f2 (by assumption) (by assumption)]
     exact ⟨leF_tup ⟨leE_agg rfl (fun i hi => by (iterate 16 (rcases i with _ | i; exact leC_int rfl)); exact absurd hi (by omega)), leC_int rfl, trivial⟩, rdN_le rfl⟩)
  | skip
theorem grpd_1 (b : List Int) (q : Int) (hr : RdOk b q) : MethOk Try.prog 104 [(cI .i64).enc 1] (rdN true b q) (encRA (grpD b 1 q).1) (rdN true b (grpD b 1 q).2) := by
 obtain ⟨W, hW⟩ : ∃ W, grpD b 1 q = W := ⟨_, rfl⟩
 have eW : W = (if (numF b q 6).1.2 = 0 then ((grpV 6 ((b.drop q.toNat).take 6), 0), (numF b q 6).2) else ((zeroA, (numF b q 6).1.2), (numF b q 6).2)) := hW.symm
 have eG := grp_val (q := q) (n := 6) hr.bl
 rw [hW]
 have f0 : ¬ (numF b q 6).1.2 = 0 -> W = ((zeroA, (numF b q 6).1.2), (numF b q 6).2) := fun h => by rw [eW, if_neg h]
 have f1 : (numF b q 6).1.2 = 0 -> W = ((grpB 6 (numF b q 6).1.1, 0), (numF b q 6).2) := fun h => by
  rw [eW, if_pos h]
  exact congrArg (fun x => ((x, 0), (numF b q 6).2)) (eG h (by decide) (by decide))
 clear eW hW eG
 obtain ⟨N, eN⟩ : ∃ N, numF b q 6 = N := ⟨_, rfl⟩
 rw [eN] at f0 f1
 have g1 : True := trivial
 refine meth_intro (wd := 1) (Q := mkQ LRd3) (by decide) tysOk (q_of LRd3_ok) mixed Try.func104 rfl _ (by show 1 + 1 <= _; decide) (flatF_nff (encRA_flat _)) (rdN_nf) ?_
 repeat' (first | (apply And.intro <;> intro hc <;> (first | exact Bool.noConfusion hc | (exfalso; first | exact absurd hc (by decide) | exact absurd rfl hc | exact absurd hc (by assumption) | exact absurd (by assumption) hc) | (simp only [zb0, ne_eq, not_true_eq_false] at hc <;> first | exact absurd rfl hc | (exfalso; first | exact absurd hc (by decide) | exact absurd rfl hc | exact absurd hc (by assumption) | exact absurd (by assumption) hc) | skip) | skip)) | (refine And.intro (by first | exact trivial | decide | omega | (dsimp only; omega) | exact fun _ _ => rfl | exact ⟨by assumption, by first | exact trivial | decide | omega | (dsimp only; omega)⟩) ?_) | (apply And.intro) | (refine Exists.intro b (And.intro ⟨rfl, rfl, by first | exact ⟨by assumption, by decide, by decide⟩ | assumption⟩ ?_)) | (intro s hs; (first | (clear g1; have q : N = s := (hs.trans eN).symm; clear hs; subst q) | skip)))
 all_goals try (first | exact rfl | exact Nat.le_of_ble_eq_true rfl)
 . rw [f0 (by assumption)]
   exact ⟨leF_tup ⟨leE_agg rfl (fun i hi => by (iterate 16 (rcases i with _ | i; exact leC_int rfl)); exact absurd hi (by omega)), leC_int rfl, trivial⟩, rdN_le rfl⟩
 . refine loop_intro (mono_of LRd3_ok) (fun s : {i : Nat // i <= 5} => (⟨[(4, one (.ptr 1 0 0 false)), (10, one (.int .u64 N.1.1)), (12, one (.ptr 23 0 0 false)), (56, one (.int .i64 5)), (57, one (.int .i64 (s.1 : Int)))],
    [(0, some (rdN true b N.2)), (1, some ⟨24, 1, 16, true, fun _ _ => .top⟩), (23, some ⟨24, 1, 16, true, fun _ j => .int .u8 (bif Nat.beq j 0 then 255 else bif Nat.beq j 1 then IntKind.u8.wrap (shrI .u64 N.1.1 (IntKind.i64.wrap (8 * 5))) else bif Nat.ble (16 - s.1) j then IntKind.u8.wrap (shrI .u64 N.1.1 (IntKind.i64.wrap (8 * ((15 - j : Nat) : Int)))) else 0)⟩)], 24⟩ : Hd)) (fun s => 5 - s.1) (fun _ => rfl) ?_ ⟨0, by omega⟩ [] ?_
   . rintro ⟨i, hi⟩
     rcases i with _ | i
     . repeat' (first | (apply And.intro <;> intro hc <;> (first | exact Bool.noConfusion hc | (exfalso; first | exact absurd hc (by decide) | exact hc (by decide)) | (simp only [zb0, ne_eq, not_true_eq_false] at hc <;> first | exact absurd rfl hc | (exfalso; first | exact absurd hc (by decide) | exact hc (by decide)) | skip) | skip)) | (refine And.intro (by first | exact trivial | decide | omega | (dsimp only; omega) | exact fun _ _ => rfl | exact ⟨by assumption, by first | exact trivial | decide | omega | (dsimp only; omega)⟩) ?_) | (apply And.intro) | (intro s hs; skip))
       all_goals try (first | (dsimp only; decide) | exact Nat.le_of_ble_eq_true rfl | exact rfl)
       all_goals (refine ⟨⟨1, by omega⟩, [], by dsimp only; omega, rfl, ?_, ?_⟩)
       all_goals skip
       . repeat' (first | exact zw0 | refine leF_int ?_ | refine leF_bool ?_ | exact zw1 | apply And.intro)
       . repeat' (first | exact zw0 | refine leF_int ?_ | refine leF_bool ?_ | exact zw1 | apply And.intro)
         all_goals first
          | exact rdN_le rfl
          | (refine leN_var ?_; repeat' (first | exact zw2 | refine leE_all ?_ | exact leC_bool (by assumption) | apply And.intro))
     rcases i with _ | i
     . repeat' (first | (apply And.intro <;> intro hc <;> (first | exact Bool.noConfusion hc | (exfalso; first | exact absurd hc (by decide) | exact hc (by decide)) | (simp only [zb0, ne_eq, not_true_eq_false] at hc <;> first | exact absurd rfl hc | (exfalso; first | exact absurd hc (by decide) | exact hc (by decide)) | skip) | skip)) | (refine And.intro (by first | exact trivial | decide | omega | (dsimp only; omega) | exact fun _ _ => rfl | exact ⟨by assumption, by first | exact trivial | decide | omega | (dsimp only; omega)⟩) ?_) | (apply And.intro) | (intro s hs; skip))
       all_goals try (first | (dsimp only; decide) | exact Nat.le_of_ble_eq_true rfl | exact rfl)
       all_goals (refine ⟨⟨2, by omega⟩, [], by dsimp only; omega, rfl, ?_, ?_⟩)
       all_goals skip
       . repeat' (first | exact zw0 | refine leF_int ?_ | refine leF_bool ?_ | exact zw1 | apply And.intro)
       . repeat' (first | exact zw0 | refine leF_int ?_ | refine leF_bool ?_ | exact zw1 | apply And.intro)
         all_goals first
          | exact rdN_le rfl
          | (refine leN_var ?_; repeat' (first | exact zw2 | refine leE_all ?_ | exact leC_bool (by assumption) | apply And.intro))
     rcases i with _ | i
     . repeat' (first | (apply And.intro <;> intro hc <;> (first | exact Bool.noConfusion hc | (exfalso; first | exact absurd hc (by decide) | exact hc (by decide)) | (simp only [zb0, ne_eq, not_true_eq_false] at hc <;> first | exact absurd rfl hc | (exfalso; first | exact absurd hc (by decide) | exact hc (by decide)) | skip) | skip)) | (refine And.intro (by first | exact trivial | decide | omega | (dsimp only; omega) | exact fun _ _ => rfl | exact ⟨by assumption, by first | exact trivial | decide | omega | (dsimp only; omega)⟩) ?_) | (apply And.intro) | (intro s hs; skip))
       all_goals try (first | (dsimp only; decide) | exact Nat.le_of_ble_eq_true rfl | exact rfl)
       all_goals (refine ⟨⟨3, by omega⟩, [], by dsimp only; omega, rfl, ?_, ?_⟩)
       all_goals skip
       . repeat' (first | exact zw0 | refine leF_int ?_ | refine leF_bool ?_ | exact zw1 | apply And.intro)
       . repeat' (first | exact zw0 | refine leF_int ?_ | refine leF_bool ?_ | exact zw1 | apply And.intro)
         all_goals first
          | exact rdN_le rfl
          | (refine leN_var ?_; repeat' (first | exact zw2 | refine leE_all ?_ | exact leC_bool (by assumption) | apply And.intro))
     rcases i with _ | i
     . repeat' (first | (apply And.intro <;> intro hc <;> (first | exact Bool.noConfusion hc | (exfalso; first | exact absurd hc (by decide) | exact hc (by decide)) | (simp only [zb0, ne_eq, not_true_eq_false] at hc <;> first | exact absurd rfl hc | (exfalso; first | exact absurd hc (by decide) | exact hc (by decide)) | skip) | skip)) | (refine And.intro (by first | exact trivial | decide | omega | (dsimp only; omega) | exact fun _ _ => rfl | exact ⟨by assumption, by first | exact trivial | decide | omega | (dsimp only; omega)⟩) ?_) | (apply And.intro) | (intro s hs; skip))
       all_goals try (first | (dsimp only; decide) | exact Nat.le_of_ble_eq_true rfl | exact rfl)
       all_goals (refine ⟨⟨4, by omega⟩, [], by dsimp only; omega, rfl, ?_, ?_⟩)
       all_goals skip
       . repeat' (first | exact zw0 | refine leF_int ?_ | refine leF_bool ?_ | exact zw1 | apply And.intro)
       . repeat' (first | exact zw0 | refine leF_int ?_ | refine leF_bool ?_ | exact zw1 | apply And.intro)
         all_goals first
          | exact rdN_le rfl
          | (refine leN_var ?_; repeat' (first | exact zw2 | refine leE_all ?_ | exact leC_bool (by assumption) | apply And.intro))
     rcases i with _ | i
     . repeat' (first | (apply And.intro <;> intro hc <;> (first | exact Bool.noConfusion hc | (exfalso; first | exact absurd hc (by decide) | exact hc (by decide)) | (simp only [zb0, ne_eq, not_true_eq_false] at hc <;> first | exact absurd rfl hc | (exfalso; first | exact absurd hc (by decide) | exact hc (by decide)) | skip) | skip)) | (refine And.intro (by first | exact trivial | decide | omega | (dsimp only; omega) | exact fun _ _ => rfl | exact ⟨by assumption, by first | exact trivial | decide | omega | (dsimp only; omega)⟩) ?_) | (apply And.intro) | (intro s hs; skip))
       all_goals try (first | (dsimp only; decide) | exact Nat.le_of_ble_eq_true rfl | exact rfl)
       all_goals (refine ⟨⟨5, by omega⟩, [], by dsimp only; omega, rfl, ?_, ?_⟩)
       all_goals skip
       . repeat' (first | exact zw0 | refine leF_int ?_ | refine leF_bool ?_ | exact zw1 | apply And.intro)
       . repeat' (first | exact zw0 | refine leF_int ?_ | refine leF_bool ?_ | exact zw1 | apply And.intro)
         all_goals first
          | exact rdN_le rfl
          | (refine leN_var ?_; repeat' (first | exact zw2 | refine leE_all ?_ | exact leC_bool (by assumption) | apply And.intro))
     rcases i with _ | i
     . repeat' (first | (apply And.intro <;> intro hc <;> (first | exact Bool.noConfusion hc | (exfalso; first | exact absurd hc (by decide) | exact hc (by decide)) | (simp only [zb0, ne_eq, not_true_eq_false] at hc <;> first | exact absurd rfl hc | (exfalso; first | exact absurd hc (by decide) | exact hc (by decide)) | skip) | skip)) | (refine And.intro (by first | exact trivial | decide | omega | (dsimp only; omega) | exact fun _ _ => rfl | exact ⟨by assumption, by first | exact trivial | decide | omega | (dsimp only; omega)⟩) ?_) | (apply And.intro) | (intro s hs; skip))
       rw [f1 (by assumption)]
       exact ⟨leF_tup ⟨leE_agg rfl (fun i hi => by (iterate 16 (rcases i with _ | i; exact leC_int rfl)); exact absurd hi (by omega)), leC_int rfl, trivial⟩, rdN_le rfl⟩
     . exact absurd hi (by omega)
   . refine ⟨rfl, ?_, ?_⟩
     . repeat' (first | exact zw0 | refine leF_int ?_ | refine leF_bool ?_ | exact zw1 | apply And.intro)
     . repeat' (first | exact zw0 | refine leF_int ?_ | refine leF_bool ?_ | exact zw1 | apply And.intro)
       all_goals first
        | exact rdN_le rfl
        | (refine leN_var ?_; repeat' (first | exact zw2 | refine leE_all ?_ | exact leC_bool (by assumption) | apply And.intro))
theorem grpd_2 (b : List Int) (q : Int) (hr : RdOk b q) : MethOk Try.prog 104 [(cI .i64).enc 2] (rdN true b q) (encRA (grpD b 2 q).1) (rdN true b (grpD b 2 q).2) := by
 obtain ⟨W, hW⟩ : ∃ W, grpD b 2 q = W := ⟨_, rfl⟩
 have eW : W = (if (numF b q 4).1.2 = 0 then ((grpV 4 ((b.drop q.toNat).take 4), 0), (numF b q 4).2) else ((zeroA, (numF b q 4).1.2), (numF b q 4).2)) := hW.symm
 have eG := grp_val (q := q) (n := 4) hr.bl
 rw [hW]
 have f0 : ¬ (numF b q 4).1.2 = 0 -> W = ((zeroA, (numF b q 4).1.2), (numF b q 4).2) := fun h => by rw [eW, if_neg h]
 have f1 : (numF b q 4).1.2 = 0 -> W = ((grpB 4 (numF b q 4).1.1, 0), (numF b q 4).2) := fun h => by
  rw [eW, if_pos h]
  exact congrArg (fun x => ((x, 0), (numF b q 4).2)) (eG h (by decide) (by decide))
 clear eW hW eG
 obtain ⟨N, eN⟩ : ∃ N, numF b q 4 = N := ⟨_, rfl⟩
 rw [eN] at f0 f1
 have g1 : True := trivial
 refine meth_intro (wd := 1) (Q := mkQ LRd3) (by decide) tysOk (q_of LRd3_ok) mixed Try.func104 rfl _ (by show 1 + 1 <= _; decide) (flatF_nff (encRA_flat _)) (rdN_nf) ?_
 repeat' (first | (apply And.intro <;> intro hc <;> (first | exact Bool.noConfusion hc | (exfalso; first | exact absurd hc (by decide) | exact absurd rfl hc | exact absurd hc (by assumption) | exact absurd (by assumption) hc) | (simp only [zb0, ne_eq, not_true_eq_false] at hc <;> first | exact absurd rfl hc | (exfalso; first | exact absurd hc (by decide) | exact absurd rfl hc | exact absurd hc (by assumption) | exact absurd (by assumption) hc) | skip) | skip)) | (refine And.intro (by first | exact trivial | decide | omega | (dsimp only; omega) | exact fun _ _ => rfl | exact ⟨by assumption, by first | exact trivial | decide | omega | (dsimp only; omega)⟩) ?_) | (apply And.intro) | (refine Exists.intro b (And.intro ⟨rfl, rfl, by first | exact ⟨by assumption, by decide, by decide⟩ | assumption⟩ ?_)) | (intro s hs; (first | (clear g1; have q : N = s := (hs.trans eN).symm; clear hs; subst q) | skip)))
 all_goals try (first | exact rfl | exact Nat.le_of_ble_eq_true rfl)
 . rw [f0 (by assumption)]
   exact ⟨leF_tup ⟨leE_agg rfl (fun i hi => by (iterate 16 (rcases i with _ | i; exact leC_int rfl)); exact absurd hi (by omega)), leC_int rfl, trivial⟩, rdN_le rfl⟩
 . refine loop_intro (mono_of LRd3_ok) (fun s : {i : Nat // i <= 3} => (⟨[(4, one (.ptr 1 0 0 false)), (10, one (.int .u64 N.1.1)), (12, one (.ptr 23 0 0 false)), (56, one (.int .i64 3)), (57, one (.int .i64 (s.1 : Int)))],
    [(0, some (rdN true b N.2)), (1, some ⟨24, 1, 16, true, fun _ _ => .top⟩), (23, some ⟨24, 1, 16, true, fun _ j => .int .u8 (bif Nat.beq j 0 then 255 else bif Nat.beq j 1 then IntKind.u8.wrap (shrI .u64 N.1.1 (IntKind.i64.wrap (8 * 3))) else bif Nat.ble (16 - s.1) j then IntKind.u8.wrap (shrI .u64 N.1.1 (IntKind.i64.wrap (8 * ((15 - j : Nat) : Int)))) else 0)⟩)], 24⟩ : Hd)) (fun s => 3 - s.1) (fun _ => rfl) ?_ ⟨0, by omega⟩ [] ?_
   . rintro ⟨i, hi⟩
     rcases i with _ | i
     . repeat' (first | (apply And.intro <;> intro hc <;> (first | exact Bool.noConfusion hc | (exfalso; first | exact absurd hc (by decide) | exact hc (by decide)) | (simp only [zb0, ne_eq, not_true_eq_false] at hc <;> first | exact absurd rfl hc | (exfalso; first | exact absurd hc (by decide) | exact hc (by decide)) | skip) | skip)) | (refine And.intro (by first | exact trivial | decide | omega | (dsimp only; omega) | exact fun _ _ => rfl | exact ⟨by assumption, by first | exact trivial | decide | omega | (dsimp only; omega)⟩) ?_) | (apply And.intro) | (intro s hs; skip))
       all_goals try (first | (dsimp only; decide) | exact Nat.le_of_ble_eq_true rfl | exact rfl)
       all_goals (refine ⟨⟨1, by omega⟩, [], by dsimp only; omega, rfl, ?_, ?_⟩)
       all_goals skip
       . repeat' (first | exact zw0 | refine leF_int ?_ | refine leF_bool ?_ | exact zw1 | apply And.intro)
       . repeat' (first | exact zw0 | refine leF_int ?_ | refine leF_bool ?_ | exact zw1 | apply And.intro)
         all_goals first
          | exact rdN_le rfl
          | (refine leN_var ?_; repeat' (first | exact zw2 | refine leE_all ?_ | exact leC_bool (by assumption) | apply And.intro))
     rcases i with _ | i
     . repeat' (first | (apply And.intro <;> intro hc <;> (first | exact Bool.noConfusion hc | (exfalso; first | exact absurd hc (by decide) | exact hc (by decide)) | (simp only [zb0, ne_eq, not_true_eq_false] at hc <;> first | exact absurd rfl hc | (exfalso; first | exact absurd hc (by decide) | exact hc (by decide)) | skip) | skip)) | (refine And.intro (by first | exact trivial | decide | omega | (dsimp only; omega) | exact fun _ _ => rfl | exact ⟨by assumption, by first | exact trivial | decide | omega | (dsimp only; omega)⟩) ?_) | (apply And.intro) | (intro s hs; skip))
       all_goals try (first | (dsimp only; decide) | exact Nat.le_of_ble_eq_true rfl | exact rfl)
       all_goals (refine ⟨⟨2, by omega⟩, [], by dsimp only; omega, rfl, ?_, ?_⟩)
       all_goals skip
       . repeat' (first | exact zw0 | refine leF_int ?_ | refine leF_bool ?_ | exact zw1 | apply And.intro)
       . repeat' (first | exact zw0 | refine leF_int ?_ | refine leF_bool ?_ | exact zw1 | apply And.intro)
         all_goals first
          | exact rdN_le rfl
          | (refine leN_var ?_; repeat' (first | exact zw2 | refine leE_all ?_ | exact leC_bool (by assumption) | apply And.intro))
     rcases i with _ | i
     . repeat' (first | (apply And.intro <;> intro hc <;> (first | exact Bool.noConfusion hc | (exfalso; first | exact absurd hc (by decide) | exact hc (by decide)) | (simp only [zb0, ne_eq, not_true_eq_false] at hc <;> first | exact absurd rfl hc | (exfalso; first | exact absurd hc (by decide) | exact hc (by decide)) | skip) | skip)) | (refine And.intro (by first | exact trivial | decide | omega | (dsimp only; omega) | exact fun _ _ => rfl | exact ⟨by assumption, by first | exact trivial | decide | omega | (dsimp only; omega)⟩) ?_) | (apply And.intro) | (intro s hs; skip))
       all_goals try (first | (dsimp only; decide) | exact Nat.le_of_ble_eq_true rfl | exact rfl)
       all_goals (refine ⟨⟨3, by omega⟩, [], by dsimp only; omega, rfl, ?_, ?_⟩)
       all_goals skip
       . repeat' (first | exact zw0 | refine leF_int ?_ | refine leF_bool ?_ | exact zw1 | apply And.intro)
       . repeat' (first | exact zw0 | refine leF_int ?_ | refine leF_bool ?_ | exact zw1 | apply And.intro)
         all_goals first
          | exact rdN_le rfl
          | (refine leN_var ?_; repeat' (first | exact zw2 | refine leE_all ?_ | exact leC_bool (by assumption) | apply And.intro))
     rcases i with _ | i
     . repeat' (first | (apply And.intro <;> intro hc <;> (first | exact Bool.noConfusion hc | (exfalso; first | exact absurd hc (by decide) | exact hc (by decide)) | (simp only [zb0, ne_eq, not_true_eq_false] at hc <;> first | exact absurd rfl hc | (exfalso; first | exact absurd hc (by decide) | exact hc (by decide)) | skip) | skip)) | (refine And.intro (by first | exact trivial | decide | omega | (dsimp only; omega) | exact fun _ _ => rfl | exact ⟨by assumption, by first | exact trivial | decide | omega | (dsimp only; omega)⟩) ?_) | (apply And.intro) | (intro s hs; skip))
       rw [f1 (by assumption)]
       exact ⟨leF_tup ⟨leE_agg rfl (fun i hi => by (iterate 16 (rcases i with _ | i; exact leC_int rfl)); exact absurd hi (by omega)), leC_int rfl, trivial⟩, rdN_le rfl⟩
     . exact absurd hi (by omega)
   . refine ⟨rfl, ?_, ?_⟩
     . repeat' (first | exact zw0 | refine leF_int ?_ | refine leF_bool ?_ | exact zw1 | apply And.intro)
     . repeat' (first | exact zw0 | refine leF_int ?_ | refine leF_bool ?_ | exact zw1 | apply And.intro)
       all_goals first
        | exact rdN_le rfl
        | (refine leN_var ?_; repeat' (first | exact zw2 | refine leE_all ?_ | exact leC_bool (by assumption) | apply And.intro))
theorem grpd_3 (b : List Int) (q : Int) (hr : RdOk b q) : MethOk Try.prog 104 [(cI .i64).enc 3] (rdN true b q) (encRA (grpD b 3 q).1) (rdN true b (grpD b 3 q).2) := by
 obtain ⟨W, hW⟩ : ∃ W, grpD b 3 q = W := ⟨_, rfl⟩
 have eW : W = (if (numF b q 1).1.2 = 0 then ((grpV 1 ((b.drop q.toNat).take 1), 0), (numF b q 1).2) else ((zeroA, (numF b q 1).1.2), (numF b q 1).2)) := hW.symm
 have eG := grp_val (q := q) (n := 1) hr.bl
 rw [hW]
 have f0 : ¬ (numF b q 1).1.2 = 0 -> W = ((zeroA, (numF b q 1).1.2), (numF b q 1).2) := fun h => by rw [eW, if_neg h]
 have f1 : (numF b q 1).1.2 = 0 -> W = ((grpB 1 (numF b q 1).1.1, 0), (numF b q 1).2) := fun h => by
  rw [eW, if_pos h]
  exact congrArg (fun x => ((x, 0), (numF b q 1).2)) (eG h (by decide) (by decide))
 clear eW hW eG
 obtain ⟨N, eN⟩ : ∃ N, numF b q 1 = N := ⟨_, rfl⟩
 rw [eN] at f0 f1
 have g1 : True := trivial
 refine meth_intro (wd := 1) (Q := mkQ LRd3) (by decide) tysOk (q_of LRd3_ok) mixed Try.func104 rfl _ (by show 1 + 1 <= _; decide) (flatF_nff (encRA_flat _)) (rdN_nf) ?_
 repeat' (first | (apply And.intro <;> intro hc <;> (first | exact Bool.noConfusion hc | (exfalso; first | exact absurd hc (by decide) | exact absurd rfl hc | exact absurd hc (by assumption) | exact absurd (by assumption) hc) | (simp only [zb0, ne_eq, not_true_eq_false] at hc <;> first | exact absurd rfl hc | (exfalso; first | exact absurd hc (by decide) | exact absurd rfl hc | exact absurd hc (by assumption) | exact absurd (by assumption) hc) | skip) | skip)) | (refine And.intro (by first | exact trivial | decide | omega | (dsimp only; omega) | exact fun _ _ => rfl | exact ⟨by assumption, by first | exact trivial | decide | omega | (dsimp only; omega)⟩) ?_) | (apply And.intro) | (refine Exists.intro b (And.intro ⟨rfl, rfl, by first | exact ⟨by assumption, by decide, by decide⟩ | assumption⟩ ?_)) | (intro s hs; (first | (clear g1; have q : N = s := (hs.trans eN).symm; clear hs; subst q) | skip)))
 all_goals try (first | exact rfl | exact Nat.le_of_ble_eq_true rfl)
 . rw [f0 (by assumption)]
   exact ⟨leF_tup ⟨leE_agg rfl (fun i hi => by (iterate 16 (rcases i with _ | i; exact leC_int rfl)); exact absurd hi (by omega)), leC_int rfl, trivial⟩, rdN_le rfl⟩
 . refine loop_intro (mono_of LRd3_ok) (fun s : {i : Nat // i <= 1} => (⟨[(4, one (.ptr 1 0 0 false)), (10, one (.int .u64 N.1.1)), (12, one (.ptr 23 0 0 false)), (56, one (.int .i64 1)), (57, one (.int .i64 (s.1 : Int)))],
    [(0, some (rdN true b N.2)), (1, some ⟨24, 1, 16, true, fun _ _ => .top⟩), (23, some ⟨24, 1, 16, true, fun _ j => .int .u8 (bif Nat.beq j 0 then 255 else bif Nat.beq j 1 then 2 else bif Nat.ble (16 - s.1) j then IntKind.u8.wrap (shrI .u64 N.1.1 (IntKind.i64.wrap (8 * ((15 - j : Nat) : Int)))) else 0)⟩)], 24⟩ : Hd)) (fun s => 1 - s.1) (fun _ => rfl) ?_ ⟨0, by omega⟩ [] ?_
   . rintro ⟨i, hi⟩
     rcases i with _ | i
     . repeat' (first | (apply And.intro <;> intro hc <;> (first | exact Bool.noConfusion hc | (exfalso; first | exact absurd hc (by decide) | exact hc (by decide)) | (simp only [zb0, ne_eq, not_true_eq_false] at hc <;> first | exact absurd rfl hc | (exfalso; first | exact absurd hc (by decide) | exact hc (by decide)) | skip) | skip)) | (refine And.intro (by first | exact trivial | decide | omega | (dsimp only; omega) | exact fun _ _ => rfl | exact ⟨by assumption, by first | exact trivial | decide | omega | (dsimp only; omega)⟩) ?_) | (apply And.intro) | (intro s hs; skip))
       all_goals try (first | (dsimp only; decide) | exact Nat.le_of_ble_eq_true rfl | exact rfl)
       all_goals (refine ⟨⟨1, by omega⟩, [], by dsimp only; omega, rfl, ?_, ?_⟩)
       all_goals skip
       . repeat' (first | exact zw0 | refine leF_int ?_ | refine leF_bool ?_ | exact zw1 | apply And.intro)
       . repeat' (first | exact zw0 | refine leF_int ?_ | refine leF_bool ?_ | exact zw1 | apply And.intro)
         all_goals first
          | exact rdN_le rfl
          | (refine leN_var ?_; repeat' (first | exact zw2 | refine leE_all ?_ | exact leC_bool (by assumption) | apply And.intro))
     rcases i with _ | i
     . repeat' (first | (apply And.intro <;> intro hc <;> (first | exact Bool.noConfusion hc | (exfalso; first | exact absurd hc (by decide) | exact hc (by decide)) | (simp only [zb0, ne_eq, not_true_eq_false] at hc <;> first | exact absurd rfl hc | (exfalso; first | exact absurd hc (by decide) | exact hc (by decide)) | skip) | skip)) | (refine And.intro (by first | exact trivial | decide | omega | (dsimp only; omega) | exact fun _ _ => rfl | exact ⟨by assumption, by first | exact trivial | decide | omega | (dsimp only; omega)⟩) ?_) | (apply And.intro) | (intro s hs; skip))
       rw [f1 (by assumption)]
       exact ⟨leF_tup ⟨leE_agg rfl (fun i hi => by (iterate 16 (rcases i with _ | i; exact leC_int rfl)); exact absurd hi (by omega)), leC_int rfl, trivial⟩, rdN_le rfl⟩
     . exact absurd hi (by omega)
   . refine ⟨rfl, ?_, ?_⟩
     . repeat' (first | exact zw0 | refine leF_int ?_ | refine leF_bool ?_ | exact zw1 | apply And.intro)
     . repeat' (first | exact zw0 | refine leF_int ?_ | refine leF_bool ?_ | exact zw1 | apply And.intro)
       all_goals first
        | exact rdN_le rfl
        | (refine leN_var ?_; repeat' (first | exact zw2 | refine leE_all ?_ | exact leC_bool (by assumption) | apply And.intro))
theorem uniR_ok (b : List Int) (q : Int) (ctx : Bool) (m : Int) (k : Adr) (l : List Ctx) (id now : Int) (hr : RdOk b q) (hl : bytesL l) (hm : 0 <= m /\ m <= 3) : MethOk Try.prog 103 [cB.enc ctx, (cI .i64).enc m, (cE eAdr).enc k, cFind.enc (l, id, now)] (rdN true b q) (encRA (uniD b ctx m k (forDec l id now) q).1) (rdN true b (uniD b ctx m k (forDec l id now) q).2) := by
 have h : m = 0 \/ m = 1 \/ m = 2 \/ m = 3 := by omega
 cases ctx with
 | true =>
   rcases h with rfl | rfl | rfl | rfl
   . exact unid_t0 b q k l id now hr hl
   . exact unid_t1 b q k l id now hr hl
   . exact unid_t2 b q k l id now hr hl
   . exact unid_t3 b q k l id now hr hl
 | false =>
   rcases h with rfl | rfl | rfl | rfl
   . exact unid_f0 b q k l id now hr hl
   . exact unid_f1 b q k l id now hr hl
   . exact unid_f2 b q k l id now hr hl
   . exact unid_f3 b q k l id now hr hl
theorem grpR_ok (b : List Int) (q m : Int) (hr : RdOk b q) (hm : 0 <= m /\ m <= 3) : MethOk Try.prog 104 [(cI .i64).enc m] (rdN true b q) (encRA (grpD b m q).1) (rdN true b (grpD b m q).2) := by
 have h : m = 0 \/ m = 1 \/ m = 2 \/ m = 3 := by omega
 rcases h with rfl | rfl | rfl | rfl
 . exact grpd_0 b q hr
 . exact grpd_1 b q hr
 . exact grpd_2 b q hr
 . exact grpd_3 b q hr
abbrev uniRA : AC (Bool × Int × Adr × (List Ctx × Int × Int) × Unit) := AC.cons cB (AC.cons (cI .i64) (AC.cons (cE eAdr) (AC.cons cFind AC.nil)))
abbrev uniRE : Entry := rdE uniRA (fun b q a => RdOk b q /\ bytesL a.2.2.2.1.1 /\ 0 <= a.2.1 /\ a.2.1 <= 3) (fun b q a => uniD b a.1 a.2.1 a.2.2.1 (forDec a.2.2.2.1.1 a.2.2.2.1.2.1 a.2.2.2.1.2.2) q) encRA
abbrev grpRE : Entry := rdE (AC.cons (cI .i64) AC.nil) (fun b q a => RdOk b q /\ 0 <= a.1 /\ a.1 <= 3) (fun b q a => grpD b a.1 q) encRA
def mkfE : Entry := inl0E T (mkQ LRd3) 1 Try.f100.ntmps Try.f100.results.toList (Try.f100.body.getD Code.ret)
theorem mkfE_ok : EntOk Try.prog 100 mkfE := inl0E_ok (by decide) tysOk (q_of LRd3_ok) (mono_of LRd3_ok) mixed Try.func100 rfl rfl
theorem thenD_r {α β : Type} {b : List Int} {x : RD α} {z : β} {f : α -> Int -> RD β} (hx : RdOk b x.2) (hf : ∀ v q, RdOk b q -> RdOk b (f v q).2) : RdOk b (thenD x z f).2 := by
 unfold thenD
 split
 . exact hf _ _ hx
 . exact hx
theorem ite_r {α : Type} {b : List Int} {p : Prop} [Decidable p] {x y : RD α} (hx : RdOk b x.2) (hy : RdOk b y.2) : RdOk b (if p then x else y).2 := by
 split
 . exact hx
 . exact hy
theorem ip_r {b : List Int} {q : Int} (h : RdOk b q) : RdOk b (ipRF b q).2 := by
 have h1 := h.lo
 have h2 := h.hi
 unfold ipRF
 split
 . exact h
 . exact ⟨h.bl, h.len, by dsimp only; omega, by dsimp only; omega⟩
theorem fieldsD_r {b : List Int} {x q : Int} (h : RdOk b q) : RdOk b (fieldsD b x q).2 := by
 unfold fieldsD
 refine thenD_r (ite_r (num_ok h) h) fun c q h => thenD_r (ite_r (num_ok h) h) fun fl q h => ite_r h (thenD_r (ite_r (num_ok h) h) fun nx q h => ite_r h (thenD_r (ite_r (num_ok h) h) fun hp q h => h))
theorem thenD_p {α β : Type} {P : β -> Prop} {x : RD α} {z : β} {f : α -> Int -> RD β} (hz : P z) (hf : ∀ v q, P (f v q).1.1) : P (thenD x z f).1.1 := by
 unfold thenD
 split
 . exact hf _ _
 . exact hz
theorem ite_p {α : Type} {P : α -> Prop} {c : Prop} [Decidable c] {x y : RD α} (hx : P x.1.1) (hy : P y.1.1) : P (if c then x else y).1.1 := by
 split
 . exact hx
 . exact hy
theorem fieldsD_src (b : List Int) (x q : Int) : (fieldsD b x q).1.1.src = zeroA :=
 thenD_p (P := fun h : Hdr => h.src = zeroA) rfl fun c q => thenD_p (P := fun h : Hdr => h.src = zeroA) rfl fun fl q => ite_p (P := fun h : Hdr => h.src = zeroA) rfl (thenD_p (P := fun h : Hdr => h.src = zeroA) rfl fun nx q => ite_p (P := fun h : Hdr => h.src = zeroA) rfl (thenD_p (P := fun h : Hdr => h.src = zeroA) rfl fun hp q => rfl))
theorem uniD_r {b : List Int} {ctx : Bool} {m q : Int} {k : Adr} {C : Ctx × Bool} (h : RdOk b q) : RdOk b (uniD b ctx m k C q).2 := by
 unfold uniD uniV
 exact ite_r h (ite_r h (ite_r h (thenD_r (ite_r (ip_r h) (ite_r (thenD_r (num_ok h) fun v q h => h) (ite_r (thenD_r (num_ok h) fun v q h => h) h))) fun a q h => ite_r h h)))
theorem startF_r {b : List Int} {q : Int} (h : RdOk b q) : RdOk b (startF b q).2 := by
 unfold startF
 exact thenD_r (num_ok h) fun x q h => ite_r h (thenD_r (num_ok h) fun y q h => ite_r h (ite_r (thenD_r (num_ok h) fun i q h => h) h))
structure StR (s : I3) : Prop where
 x : 96 <= s.1 /\ s.1 <= 127
 y : 0 <= s.2.1 /\ s.2.1 < 256
 ids : 0 <= s.2.2 /\ s.2.2 < 256
 bad : badY s.2.1 = false
theorem startF_v {b : List Int} {q : Int} (hb : BL b) (h : (startF b q).1.2 = 0) : StR (startF b q).1.1 := by
 unfold startF thenD at h ⊢
 have v1 := num1_v (q := q) hb
 have v2 := num1_v (q := (numF b q 1).2) hb
 have v3 := num1_v (q := (numF b (numF b q 1).2 1).2) hb
 dsimp only at h ⊢
 split at h
 . rename_i c1
   rw [if_pos c1]
   split at h
   . exact absurd (show (5 : Int) = 0 from h) (by decide)
   . rename_i c2
     rw [if_neg c2]
     split at h
     . rename_i c3
       rw [if_pos c3]
       split at h
       . exact absurd (show (5 : Int) = 0 from h) (by decide)
       . rename_i c4
         rw [if_neg c4]
         have c4' : badY (numF b (numF b q 1).2 1).1.1 = false := by
          cases hc : badY (numF b (numF b q 1).2 1).1.1 with
          | false => rfl
          | true => exact absurd hc c4
         split at h
         . rename_i c5
           rw [if_pos c5]
           split at h
           . rename_i c6
             rw [if_pos c6]
             exact ⟨by dsimp only; omega, v2, v3, c4'⟩
           . rename_i c6
             exact absurd h c6
         . rename_i c5
           rw [if_neg c5]
           exact ⟨by dsimp only; omega, v2, ⟨Int.le_refl 0, (by decide : (0 : Int) < 256)⟩, c4'⟩
     . rename_i c3
       exact absurd h c3
 . rename_i c1
   exact absurd h c1
theorem raw_bits : ∀ y : Fin 256, (bits .and .i64 (y.1 : Int) 64 != 0) = bitAt y.1 64 /\ (bits .and .i64 (y.1 : Int) 4 != 0) = bitAt y.1 4 /\ (bits .and .i64 (y.1 : Int) 8 != 0) = bitAt y.1 8 /\ bits .and .i64 (shrI .i64 (y.1 : Int) 4) 3 = y.1 / 16 % 4 /\ bits .and .i64 (y.1 : Int) 3 = y.1 % 4 /\ shrI .i64 (y.1 : Int) 4 = y.1 / 16 /\ bits .and .i64 (y.1 : Int) 15 = y.1 % 16 := by decide +kernel
theorem raw_of {y : Int} (h : 0 <= y /\ y < 256) : (bits .and .i64 y 64 != 0) = bitAt y 64 /\ (bits .and .i64 y 4 != 0) = bitAt y 4 /\ (bits .and .i64 y 8 != 0) = bitAt y 8 /\ bits .and .i64 (shrI .i64 y 4) 3 = y / 16 % 4 /\ bits .and .i64 y 3 = y % 4 /\ shrI .i64 y 4 = y / 16 /\ bits .and .i64 y 15 = y % 16 := by
 obtain ⟨m, rfl⟩ : ∃ m : Nat, y = m := ⟨y.toNat, by omega⟩
 exact raw_bits ⟨m, by omega⟩
abbrev encDec (r : (Pkt × Int) × Int) : FV := .tup [tailR eHd eB r.1.1, .c (.int .i64 r.1.2), .c (.int .i64 r.2)]
section
variable {b : List Int} {f t : Adr} {l : List Ctx} {now : Int}
theorem decI_0 {Ck : Int} (hC : checkF f t l now = Ck) (h : ¬ Ck = 0) : decI b f t l now = (((zeroH, []), 0), Ck) := by
 subst hC
 exact if_pos h
theorem decI_e {R : RD Hdr} {e : Int} (h : checkF f t l now = 0) (hR : readD b f t l now = R) (hee : R.1.2 = e) (he : ¬ e = 0) : decI b f t l now = (((zeroH, []), 0), e) := by
 subst hR
 subst hee
 unfold decI
 rw [if_neg (fun x => x h), if_neg he]
theorem decI_v {H : Hdr} {q : Int} (h : checkF f t l now = 0) (hR : readD b f t l now = ((H, 0), q)) : decI b f t l now = (((H, []), q), 0) := by
 unfold decI
 rw [if_neg (fun x => x h), hR]
 exact if_pos rfl
theorem read_1 {S : RD I3} (hS : startF b 0 = S) (h : ¬ S.1.2 = 0) : readD b f t l now = ((zeroH, S.1.2), S.2) := by
 subst hS
 exact if_neg h
theorem read_2 {S : RD I3} {F : RD Hdr} (hS : startF b 0 = S) (hF : fieldsD b S.1.1.1 S.2 = F) (h : S.1.2 = 0) (h2 : ¬ F.1.2 = 0) : readD b f t l now = ((zeroH, F.1.2), F.2) := by
 subst hS
 subst hF
 exact (if_pos h).trans (if_neg h2)
theorem read_3 {S : RD I3} {F : RD Hdr} {X : RD (Fin 16 -> Int)} (hS : startF b 0 = S) (hF : fieldsD b S.1.1.1 S.2 = F) (hX : srcD b S.1.1.2.1 S.1.1.2.2 f l now F.2 = X) (h : S.1.2 = 0) (h2 : F.1.2 = 0) (h3 : ¬ X.1.2 = 0) : readD b f t l now = ((zeroH, X.1.2), X.2) := by
 subst hS
 subst hF
 subst hX
 exact (if_pos h).trans ((if_pos h2).trans (if_neg h3))
theorem read_4 {S : RD I3} {F : RD Hdr} {X Y : RD (Fin 16 -> Int)} (hS : startF b 0 = S) (hF : fieldsD b S.1.1.1 S.2 = F) (hX : srcD b S.1.1.2.1 S.1.1.2.2 f l now F.2 = X) (hY : dstD b S.1.1.2.1 S.1.1.2.2 t l now X.2 = Y) (h : S.1.2 = 0) (h2 : F.1.2 = 0) (h3 : X.1.2 = 0) (h4 : ¬ Y.1.2 = 0) : readD b f t l now = ((zeroH, Y.1.2), Y.2) := by
 subst hS
 subst hF
 subst hX
 subst hY
 exact (if_pos h).trans ((if_pos h2).trans ((if_pos h3).trans (if_neg h4)))
theorem read_5 {S : RD I3} {F : RD Hdr} {X Y : RD (Fin 16 -> Int)} (hS : startF b 0 = S) (hF : fieldsD b S.1.1.1 S.2 = F) (hX : srcD b S.1.1.2.1 S.1.1.2.2 f l now F.2 = X) (hY : dstD b S.1.1.2.1 S.1.1.2.2 t l now X.2 = Y) (h : S.1.2 = 0) (h2 : F.1.2 = 0) (h3 : X.1.2 = 0) (h4 : Y.1.2 = 0) : readD b f t l now = (({ F.1.1 with src := X.1.1, dst := Y.1.1 }, 0), Y.2) := by
 subst hS
 subst hF
 subst hX
 subst hY
 exact (if_pos h).trans ((if_pos h2).trans ((if_pos h3).trans (if_pos h4)))
end
def finderV (k1 nm k2 : Nat) (f1 f2 : Bool) : CV := .fn 101 0 3 (nth [.ptr k1 0 0 f1, .ptr nm 0 0 false, .ptr k2 0 0 f2])
def idBox (id : Int) : Ent := ⟨3, 1, 1, true, fun _ _ => .int .i64 id⟩
theorem mkf_run (id : Int) (k1 k2 nm wd : Nat) (f1 f2 : Bool) (K : FV -> Hp -> List Nat -> Prop) (h : 4 <= wd) (h1 : k1 < nm) (h2 : k2 < nm) (hK : K (one (finderV k1 nm k2 f1 f2)) [(nm, some (idBox id))] []) : exec T (mkQ LRd3) 1 Try.f100.ntmps nm (Try.f100.body.getD Code.ret) (argFr [one (.int .i64 id), one (.ptr k1 0 0 f1), one (.ptr k2 0 0 f2)] 0) [] nm (endH T Try.f100.results.toList fun x Hf nf => (Nat.ble nf (nm + wd) = true /\ plainH nm Hf = true /\ plainV x = true) /\ K x Hf []) := by
 repeat' (first | (apply And.intro <;> intro hc <;> (first | exact Bool.noConfusion hc | (simp only [zb0] at hc) | skip)) | (refine And.intro zp0 ?_) | (apply And.intro) | (intro s hs))
 . exact Nat.ble_eq_true_of_le (by omega)
 . show (Nat.ble nm nm && true && true) = true
   rw [Nat.ble_eq_true_of_le (Nat.le_refl nm)]
   rfl
 . rfl
 . exact hK
def mkf2E : Entry := fun args _ nm wd =>
 match args with
 | [.e (.c (.int .i64 id)), .e (.c (.ptr k1 0 0 f1)), .e (.c (.ptr k2 0 0 f2))] => bif Nat.blt k1 nm && Nat.blt k2 nm && Nat.ble 4 wd then some fun K => K (one (finderV k1 nm k2 f1 f2)) [(nm, some (idBox id))] [] else none
 | _ => none
theorem mkf2E_ok : EntOk Try.prog 100 mkf2E := by
 refine ⟨fun args H nm wd q hwd hq K hK => ?_, fun args H nm wd q hq K K' hKK hK => ?_⟩
 . unfold mkf2E at hq
   split at hq
   . rename_i id k1 f1 k2 f2
     obtain ⟨hb, hq⟩ := cond_some hq
     subst hq
     rw [Bool.and_eq_true, Bool.and_eq_true] at hb
     have b1 : k1 < nm := Nat.le_of_ble_eq_true hb.1.1
     have b2 : k2 < nm := Nat.le_of_ble_eq_true hb.1.2
     have b3 : 4 <= wd := Nat.le_of_ble_eq_true hb.2
     have hall : ([FV.e (.c (.int .i64 id)), .e (.c (.ptr k1 0 0 f1)), .e (.c (.ptr k2 0 0 f2))] : List FV).all (argLt nm) = true := by
      show (true && (Nat.blt k1 nm && (Nat.blt k2 nm && true))) = true
      rw [hb.1.1, hb.1.2]; rfl
     have h5 := mkfE_ok.ok [FV.e (.c (.int .i64 id)), .e (.c (.ptr k1 0 0 f1)), .e (.c (.ptr k2 0 0 f2))] H nm wd
     unfold mkfE inl0E at h5
     rw [hall] at h5
     exact h5 _ hwd rfl K ⟨rfl, mkf_run id k1 k2 nm wd f1 f2 K b3 b1 b2 hK⟩
   . cases hq
 . unfold mkf2E at hq
   split at hq
   . obtain ⟨hb, hq⟩ := cond_some hq
     subst hq
     exact hKK _ _ _ hK
   . cases hq
def LRd5 : CsL := (100, some mkf2E) :: (103, some uniRE) :: (104, some grpRE) :: LRd3
theorem LRd5_ok : AllOk Try.prog LRd5 := ⟨mkf2E_ok, rdE_ok ⟨_, Try.func103, rfl, by kernel_rfl⟩ (fun r => encRA_flat r) fun b q a h => uniR_ok b q a.1 a.2.1 a.2.2.1 a.2.2.2.1.1 a.2.2.2.1.2.1 a.2.2.2.1.2.2 h.1 h.2.1 h.2.2, rdE_ok ⟨_, Try.func104, rfl, by kernel_rfl⟩ (fun r => encRA_flat r) fun b q a h => grpR_ok b q a.1 h.1 h.2, LRd3_ok⟩
theorem dec_ok0 (b : List Int) (f t : Adr) (l : List Ctx) (now : Int) (hb : BL b) (hbl : b.length <= 140737488355328) (hl : bytesL l) (hsk : bits .and .i64 (startF b 0).1.1.2.1 64 = 0 \/ ¬ bits .and .i64 (shrI .i64 (startF b 0).1.1.2.1 4) 3 = 0) : PureOk Try.prog 60 [(cSl eB eB_sz).enc b, (cE eAdr).enc f, (cE eAdr).enc t, (cSl eCtx eCtx_sz).enc l, (cI .i64).enc now] (encDec (decI b f t l now)) := by
 have r0 : RdOk b 0 := ⟨hb, hbl, Int.le_refl 0, Int.natCast_nonneg _⟩
 have r1 := startF_r r0
 have r2 := fieldsD_r (x := (startF b 0).1.1.1) r1
 have sv := startF_v (q := 0) hb
 obtain ⟨W, hW⟩ : ∃ W, decI b f t l now = W := ⟨_, rfl⟩
 rw [hW]
 obtain ⟨Ck, eC⟩ : ∃ x, checkF f t l now = x := ⟨_, rfl⟩
 obtain ⟨S, eS⟩ : ∃ x, startF b 0 = x := ⟨_, rfl⟩
 rw [eS] at r1 r2 sv hsk
 obtain ⟨F, eF⟩ : ∃ x, fieldsD b S.1.1.1 S.2 = x := ⟨_, rfl⟩
 rw [eF] at r2
 have e0 : ¬ Ck = 0 -> W = (((zeroH, []), 0), Ck) := fun h => by rw [<- hW]; exact decI_0 eC h
 have e1 : Ck = 0 -> ¬ S.1.2 = 0 -> W = (((zeroH, []), 0), S.1.2) := fun h g => by rw [<- hW]; exact decI_e (eC.trans h) (read_1 eS g) rfl g
 have e2 : Ck = 0 -> S.1.2 = 0 -> ¬ F.1.2 = 0 -> W = (((zeroH, []), 0), F.1.2) := fun h g i => by rw [<- hW]; exact decI_e (eC.trans h) (read_2 eS eF g i) rfl i
 obtain ⟨X, eU⟩ : ∃ x, uniD b (bits .and .i64 S.1.1.2.1 64 != 0) (bits .and .i64 (shrI .i64 S.1.1.2.1 4) 3) f (forDec l (shrI .i64 S.1.1.2.2 4) now) F.2 = x := ⟨_, rfl⟩
 have r3 : RdOk b X.2 := by rw [<- eU]; exact uniD_r r2
 have hX : S.1.2 = 0 -> srcD b S.1.1.2.1 S.1.1.2.2 f l now F.2 = X := fun g => by
  obtain ⟨p1, p2, p3, p4, p5, p6, p7⟩ := raw_of (sv g).y
  obtain ⟨_, _, _, _, _, p8, p9⟩ := raw_of (sv g).ids
  rw [<- eU, p1, p4, p8]
  rw [p4] at hsk
  unfold srcD
  refine if_pos (hsk.imp (fun h => ?_) id)
  rw [<- p1, h]
  rfl
 have rm : S.1.2 = 0 -> (0 <= bits .and .i64 S.1.1.2.1 3 /\ bits .and .i64 S.1.1.2.1 3 <= 3) /\ 0 <= bits .and .i64 (shrI .i64 S.1.1.2.1 4) 3 /\ bits .and .i64 (shrI .i64 S.1.1.2.1 4) 3 <= 3 := fun g => by
  obtain ⟨p1, p2, p3, p4, p5, p6, p7⟩ := raw_of (sv g).y
  rw [p4, p5]
  omega
 obtain ⟨G, eG⟩ : ∃ x, grpD b (bits .and .i64 S.1.1.2.1 3) X.2 = x := ⟨_, rfl⟩
 obtain ⟨D, eD⟩ : ∃ x, uniD b (bits .and .i64 S.1.1.2.1 4 != 0) (bits .and .i64 S.1.1.2.1 3) t (forDec l (bits .and .i64 S.1.1.2.2 15) now) X.2 = x := ⟨_, rfl⟩
 have hG : S.1.2 = 0 -> ¬ bits .and .i64 S.1.1.2.1 8 = 0 -> dstD b S.1.1.2.1 S.1.1.2.2 t l now X.2 = G := fun g k => by
  obtain ⟨p1, p2, p3, p4, p5, p6, p7⟩ := raw_of (sv g).y
  rw [<- eG, p5]
  unfold dstD
  exact if_pos (p3.symm.trans (by simpa using k))
 have hD : S.1.2 = 0 -> bits .and .i64 S.1.1.2.1 8 = 0 -> dstD b S.1.1.2.1 S.1.1.2.2 t l now X.2 = D := fun g k => by
  obtain ⟨p1, p2, p3, p4, p5, p6, p7⟩ := raw_of (sv g).y
  obtain ⟨_, _, _, _, _, p8, p9⟩ := raw_of (sv g).ids
  rw [<- eD, p2, p5, p9]
  unfold dstD
  refine if_neg (fun h => ?_)
  rw [<- p3, k] at h
  cases h
 have e3 : Ck = 0 -> S.1.2 = 0 -> F.1.2 = 0 -> ¬ X.1.2 = 0 -> W = (((zeroH, []), 0), X.1.2) := fun h g i x => by rw [<- hW]; exact decI_e (eC.trans h) (read_3 eS eF (hX g) g i x) rfl x
 have e4G : Ck = 0 -> S.1.2 = 0 -> F.1.2 = 0 -> X.1.2 = 0 -> ¬ bits .and .i64 S.1.1.2.1 8 = 0 -> ¬ G.1.2 = 0 -> W = (((zeroH, []), 0), G.1.2) := fun h g i x k m => by rw [<- hW]; exact decI_e (eC.trans h) (read_4 eS eF (hX g) (hG g k) g i x m) rfl m
 have e5G : Ck = 0 -> S.1.2 = 0 -> F.1.2 = 0 -> X.1.2 = 0 -> ¬ bits .and .i64 S.1.1.2.1 8 = 0 -> G.1.2 = 0 -> W = ((({ F.1.1 with src := X.1.1, dst := G.1.1 }, []), G.2), 0) := fun h g i x k m => by rw [<- hW]; exact decI_v (eC.trans h) (read_5 eS eF (hX g) (hG g k) g i x m)
 have e4D : Ck = 0 -> S.1.2 = 0 -> F.1.2 = 0 -> X.1.2 = 0 -> bits .and .i64 S.1.1.2.1 8 = 0 -> ¬ D.1.2 = 0 -> W = (((zeroH, []), 0), D.1.2) := fun h g i x k m => by rw [<- hW]; exact decI_e (eC.trans h) (read_4 eS eF (hX g) (hD g k) g i x m) rfl m
 have e5D : Ck = 0 -> S.1.2 = 0 -> F.1.2 = 0 -> X.1.2 = 0 -> bits .and .i64 S.1.1.2.1 8 = 0 -> D.1.2 = 0 -> W = ((({ F.1.1 with src := X.1.1, dst := D.1.1 }, []), D.2), 0) := fun h g i x k m => by rw [<- hW]; exact decI_v (eC.trans h) (read_5 eS eF (hX g) (hD g k) g i x m)
 clear hX hG hD hW
 have g1 : True := trivial
 have g2 : True := trivial
 have g3 : True := trivial
 have g4 : True := trivial
 have g5 : True := trivial
 have g6 : True := trivial
 have g7 : True := trivial
 refine pure_intro (wd := 8) (Q := mkQ LRd5) (by decide) tysOk (q_of LRd5_ok) mixed Try.func60 rfl _ (by show 5 <= _; decide) _ ?_
 repeat' (first | (apply And.intro <;> intro hc <;> (first | exact Bool.noConfusion hc | (exfalso; first | exact absurd rfl hc | exact absurd hc (by assumption) | exact absurd (by assumption) hc | exact hsk.elim (fun h => absurd h (by assumption)) (fun h => h hc)) | (simp only [zb0, ne_eq, not_true_eq_false] at hc <;> first | exact absurd rfl hc | (exfalso; first | exact absurd rfl hc | exact absurd hc (by assumption) | exact absurd (by assumption) hc | exact hsk.elim (fun h => absurd h (by assumption)) (fun h => h hc)) | skip) | skip)) | (refine And.intro zp1 ?_) | (apply And.intro) | (refine Exists.intro b (And.intro ⟨rfl, rfl, by first | exact r0 | exact ⟨by assumption, (sv (by assumption)).x⟩ | assumption | exact ⟨by assumption, (rm (by assumption)).1⟩ | exact ⟨by assumption, Eq.mp (congrArg bytesL (toL_ctx l).symm) hl, (rm (by assumption)).1⟩ | exact ⟨by assumption, Eq.mp (congrArg bytesL (toL_ctx l).symm) hl, (rm (by assumption)).2⟩⟩ ?_)) | (intro s hs; (first | (clear g1; have q : Ck = s := (hs.trans ((congr (congr (congrArg (fun a b c => checkF a b c now) (rd_adr f)) (rd_adr t)) (toL_ctx l)).trans eC)).symm; clear hs; subst q) | (clear g2; have q : S = s := (hs.trans eS).symm; clear hs; subst q) | (clear g3; have q : F = s := (hs.trans eF).symm; clear hs; subst q) | (clear g4; have q : X = s := (hs.trans ((congr (congrArg (fun k l => uniD b (bits .and .i64 S.1.1.2.1 64 != 0) (bits .and .i64 (shrI .i64 S.1.1.2.1 4) 3) k (forDec l (shrI .i64 S.1.1.2.2 4) now) F.2) (rd_adr f)) (toL_ctx l)).trans eU)).symm; clear hs; subst q) | (clear g5; have q : G = s := (hs.trans eG).symm; clear hs; subst q) | (clear g6; have q : D = s := (hs.trans ((congr (congrArg (fun k l => uniD b (bits .and .i64 S.1.1.2.1 4 != 0) (bits .and .i64 S.1.1.2.1 3) k (forDec l (bits .and .i64 S.1.1.2.2 15) now) X.2) (rd_adr t)) (toL_ctx l)).trans eD)).symm; clear hs; subst q) | skip)))
 all_goals try (first | exact rfl | exact Nat.le_of_ble_eq_true rfl | exact fun _ => rfl)
 all_goals first
  | (show (toL eCtx l.length _).length <= _; rw [toL_len]; have := hl.n; omega)
  | (rw [e0 (by assumption)]
     refine Done.mk (leF_tup ⟨leE_tail rfl (fun j hj => ?_) (leC_nils_sl rfl), leC_int rfl, leC_int rfl, trivial⟩)
     iterate 38 (rcases j with _ | j; exact leC_int rfl)
     exact absurd hj (by show ¬ _ < 38; omega))
  | (rw [e1 (by assumption) (by assumption)]
     refine Done.mk (leF_tup ⟨leE_tail rfl (fun j hj => ?_) (leC_nils_sl rfl), leC_int rfl, leC_int rfl, trivial⟩)
     iterate 38 (rcases j with _ | j; exact leC_int rfl)
     exact absurd hj (by show ¬ _ < 38; omega))
  | (rw [e2 (by assumption) (by assumption) (by assumption)]
     refine Done.mk (leF_tup ⟨leE_tail rfl (fun j hj => ?_) (leC_nils_sl rfl), leC_int rfl, leC_int rfl, trivial⟩)
     iterate 38 (rcases j with _ | j; exact leC_int rfl)
     exact absurd hj (by show ¬ _ < 38; omega))
  | (rw [e3 (by assumption) (by assumption) (by assumption) (by assumption)]
     refine Done.mk (leF_tup ⟨leE_tail rfl (fun j hj => ?_) (leC_nils_sl rfl), leC_int rfl, leC_int rfl, trivial⟩)
     iterate 38 (rcases j with _ | j; exact leC_int rfl)
     exact absurd hj (by show ¬ _ < 38; omega))
  | (rw [e4G (by assumption) (by assumption) (by assumption) (by assumption) (by assumption) (by assumption)]
     refine Done.mk (leF_tup ⟨leE_tail rfl (fun j hj => ?_) (leC_nils_sl rfl), leC_int rfl, leC_int rfl, trivial⟩)
     iterate 38 (rcases j with _ | j; exact leC_int rfl)
     exact absurd hj (by show ¬ _ < 38; omega))
  | (rw [e5G (by assumption) (by assumption) (by assumption) (by assumption) (by assumption) (by assumption)]
     refine Done.mk (leF_tup ⟨leE_tail rfl (fun j hj => ?_) (leC_nils_sl rfl), leC_int rfl, leC_int rfl, trivial⟩)
     iterate 38 (rcases j with _ | j; exact leC_int rfl)
     exact absurd hj (by show ¬ _ < 38; omega))
  | (rw [e4D (by assumption) (by assumption) (by assumption) (by assumption) (by assumption) (by assumption)]
     refine Done.mk (leF_tup ⟨leE_tail rfl (fun j hj => ?_) (leC_nils_sl rfl), leC_int rfl, leC_int rfl, trivial⟩)
     iterate 38 (rcases j with _ | j; exact leC_int rfl)
     exact absurd hj (by show ¬ _ < 38; omega))
  | (rw [e5D (by assumption) (by assumption) (by assumption) (by assumption) (by assumption) (by assumption)]
     refine Done.mk (leF_tup ⟨leE_tail rfl (fun j hj => ?_) (leC_nils_sl rfl), leC_int rfl, leC_int rfl, trivial⟩)
     iterate 38 (rcases j with _ | j; exact leC_int rfl)
     exact absurd hj (by show ¬ _ < 38; omega))
  | skip
theorem dec_ok1 (b : List Int) (f t : Adr) (l : List Ctx) (now : Int) (hb : BL b) (hbl : b.length <= 140737488355328) (hl : bytesL l) (hsk : ¬ bits .and .i64 (startF b 0).1.1.2.1 64 = 0 /\ bits .and .i64 (shrI .i64 (startF b 0).1.1.2.1 4) 3 = 0) : PureOk Try.prog 60 [(cSl eB eB_sz).enc b, (cE eAdr).enc f, (cE eAdr).enc t, (cSl eCtx eCtx_sz).enc l, (cI .i64).enc now] (encDec (decI b f t l now)) := by
 have r0 : RdOk b 0 := ⟨hb, hbl, Int.le_refl 0, Int.natCast_nonneg _⟩
 have r1 := startF_r r0
 have r2 := fieldsD_r (x := (startF b 0).1.1.1) r1
 have sv := startF_v (q := 0) hb
 obtain ⟨W, hW⟩ : ∃ W, decI b f t l now = W := ⟨_, rfl⟩
 rw [hW]
 obtain ⟨Ck, eC⟩ : ∃ x, checkF f t l now = x := ⟨_, rfl⟩
 obtain ⟨S, eS⟩ : ∃ x, startF b 0 = x := ⟨_, rfl⟩
 rw [eS] at r1 r2 sv hsk
 obtain ⟨F, eF⟩ : ∃ x, fieldsD b S.1.1.1 S.2 = x := ⟨_, rfl⟩
 rw [eF] at r2
 have e0 : ¬ Ck = 0 -> W = (((zeroH, []), 0), Ck) := fun h => by rw [<- hW]; exact decI_0 eC h
 have e1 : Ck = 0 -> ¬ S.1.2 = 0 -> W = (((zeroH, []), 0), S.1.2) := fun h g => by rw [<- hW]; exact decI_e (eC.trans h) (read_1 eS g) rfl g
 have e2 : Ck = 0 -> S.1.2 = 0 -> ¬ F.1.2 = 0 -> W = (((zeroH, []), 0), F.1.2) := fun h g i => by rw [<- hW]; exact decI_e (eC.trans h) (read_2 eS eF g i) rfl i
 have r3 := r2
 have hs0 : F.1.1.src = zeroA := by rw [<- eF]; exact fieldsD_src b _ _
 have hX : S.1.2 = 0 -> srcD b S.1.1.2.1 S.1.1.2.2 f l now F.2 = ((zeroA, 0), F.2) := fun g => by
  obtain ⟨p1, p2, p3, p4, p5, p6, p7⟩ := raw_of (sv g).y
  rw [p4] at hsk
  unfold srcD
  refine if_neg (fun h => h.elim (fun h => ?_) (fun h => h hsk.2))
  rw [<- p1] at h
  exact hsk.1 (by simpa using h)
 have rm : S.1.2 = 0 -> (0 <= bits .and .i64 S.1.1.2.1 3 /\ bits .and .i64 S.1.1.2.1 3 <= 3) /\ 0 <= bits .and .i64 (shrI .i64 S.1.1.2.1 4) 3 /\ bits .and .i64 (shrI .i64 S.1.1.2.1 4) 3 <= 3 := fun g => by
  obtain ⟨p1, p2, p3, p4, p5, p6, p7⟩ := raw_of (sv g).y
  rw [p4, p5]
  omega
 obtain ⟨G, eG⟩ : ∃ x, grpD b (bits .and .i64 S.1.1.2.1 3) F.2 = x := ⟨_, rfl⟩
 obtain ⟨D, eD⟩ : ∃ x, uniD b (bits .and .i64 S.1.1.2.1 4 != 0) (bits .and .i64 S.1.1.2.1 3) t (forDec l (bits .and .i64 S.1.1.2.2 15) now) F.2 = x := ⟨_, rfl⟩
 have hG : S.1.2 = 0 -> ¬ bits .and .i64 S.1.1.2.1 8 = 0 -> dstD b S.1.1.2.1 S.1.1.2.2 t l now F.2 = G := fun g k => by
  obtain ⟨p1, p2, p3, p4, p5, p6, p7⟩ := raw_of (sv g).y
  rw [<- eG, p5]
  unfold dstD
  exact if_pos (p3.symm.trans (by simpa using k))
 have hD : S.1.2 = 0 -> bits .and .i64 S.1.1.2.1 8 = 0 -> dstD b S.1.1.2.1 S.1.1.2.2 t l now F.2 = D := fun g k => by
  obtain ⟨p1, p2, p3, p4, p5, p6, p7⟩ := raw_of (sv g).y
  obtain ⟨_, _, _, _, _, p8, p9⟩ := raw_of (sv g).ids
  rw [<- eD, p2, p5, p9]
  unfold dstD
  refine if_neg (fun h => ?_)
  rw [<- p3, k] at h
  cases h
 have e4G : Ck = 0 -> S.1.2 = 0 -> F.1.2 = 0 -> ¬ bits .and .i64 S.1.1.2.1 8 = 0 -> ¬ G.1.2 = 0 -> W = (((zeroH, []), 0), G.1.2) := fun h g i k m => by rw [<- hW]; exact decI_e (eC.trans h) (read_4 eS eF (hX g) (hG g k) g i rfl m) rfl m
 have e5G : Ck = 0 -> S.1.2 = 0 -> F.1.2 = 0 -> ¬ bits .and .i64 S.1.1.2.1 8 = 0 -> G.1.2 = 0 -> W = ((({ F.1.1 with src := F.1.1.src, dst := G.1.1 }, []), G.2), 0) := fun h g i k m => by rw [<- hW, hs0]; exact decI_v (eC.trans h) (read_5 eS eF (hX g) (hG g k) g i rfl m)
 have e4D : Ck = 0 -> S.1.2 = 0 -> F.1.2 = 0 -> bits .and .i64 S.1.1.2.1 8 = 0 -> ¬ D.1.2 = 0 -> W = (((zeroH, []), 0), D.1.2) := fun h g i k m => by rw [<- hW]; exact decI_e (eC.trans h) (read_4 eS eF (hX g) (hD g k) g i rfl m) rfl m
 have e5D : Ck = 0 -> S.1.2 = 0 -> F.1.2 = 0 -> bits .and .i64 S.1.1.2.1 8 = 0 -> D.1.2 = 0 -> W = ((({ F.1.1 with src := F.1.1.src, dst := D.1.1 }, []), D.2), 0) := fun h g i k m => by rw [<- hW, hs0]; exact decI_v (eC.trans h) (read_5 eS eF (hX g) (hD g k) g i rfl m)
 clear hX hG hD hW
 have g1 : True := trivial
 have g2 : True := trivial
 have g3 : True := trivial
 have g4 : True := trivial
 have g5 : True := trivial
 have g6 : True := trivial
 have g7 : True := trivial
 refine pure_intro (wd := 8) (Q := mkQ LRd5) (by decide) tysOk (q_of LRd5_ok) mixed Try.func60 rfl _ (by show 5 <= _; decide) _ ?_
 repeat' (first | (apply And.intro <;> intro hc <;> (first | exact Bool.noConfusion hc | (exfalso; first | exact absurd rfl hc | exact absurd hc (by assumption) | exact absurd (by assumption) hc | exact absurd hc hsk.1 | exact absurd hsk.2 hc) | (simp only [zb0, ne_eq, not_true_eq_false] at hc <;> first | exact absurd rfl hc | (exfalso; first | exact absurd rfl hc | exact absurd hc (by assumption) | exact absurd (by assumption) hc | exact absurd hc hsk.1 | exact absurd hsk.2 hc) | skip) | skip)) | (refine And.intro zp1 ?_) | (apply And.intro) | (refine Exists.intro b (And.intro ⟨rfl, rfl, by first | exact r0 | exact ⟨by assumption, (sv (by assumption)).x⟩ | assumption | exact ⟨by assumption, (rm (by assumption)).1⟩ | exact ⟨by assumption, Eq.mp (congrArg bytesL (toL_ctx l).symm) hl, (rm (by assumption)).1⟩ | exact ⟨by assumption, Eq.mp (congrArg bytesL (toL_ctx l).symm) hl, (rm (by assumption)).2⟩⟩ ?_)) | (intro s hs; (first | (clear g1; have q : Ck = s := (hs.trans ((congr (congr (congrArg (fun a b c => checkF a b c now) (rd_adr f)) (rd_adr t)) (toL_ctx l)).trans eC)).symm; clear hs; subst q) | (clear g2; have q : S = s := (hs.trans eS).symm; clear hs; subst q) | (clear g3; have q : F = s := (hs.trans eF).symm; clear hs; subst q) | (clear g5; have q : G = s := (hs.trans eG).symm; clear hs; subst q) | (clear g6; have q : D = s := (hs.trans ((congr (congrArg (fun k l => uniD b (bits .and .i64 S.1.1.2.1 4 != 0) (bits .and .i64 S.1.1.2.1 3) k (forDec l (bits .and .i64 S.1.1.2.2 15) now) F.2) (rd_adr t)) (toL_ctx l)).trans eD)).symm; clear hs; subst q) | skip)))
 all_goals try (first | exact rfl | exact Nat.le_of_ble_eq_true rfl | exact fun _ => rfl)
 all_goals first
  | (show (toL eCtx l.length _).length <= _; rw [toL_len]; have := hl.n; omega)
  | (rw [e0 (by assumption)]
     refine Done.mk (leF_tup ⟨leE_tail rfl (fun j hj => ?_) (leC_nils_sl rfl), leC_int rfl, leC_int rfl, trivial⟩)
     iterate 38 (rcases j with _ | j; exact leC_int rfl)
     exact absurd hj (by show ¬ _ < 38; omega))
  | (rw [e1 (by assumption) (by assumption)]
     refine Done.mk (leF_tup ⟨leE_tail rfl (fun j hj => ?_) (leC_nils_sl rfl), leC_int rfl, leC_int rfl, trivial⟩)
     iterate 38 (rcases j with _ | j; exact leC_int rfl)
     exact absurd hj (by show ¬ _ < 38; omega))
  | (rw [e2 (by assumption) (by assumption) (by assumption)]
     refine Done.mk (leF_tup ⟨leE_tail rfl (fun j hj => ?_) (leC_nils_sl rfl), leC_int rfl, leC_int rfl, trivial⟩)
     iterate 38 (rcases j with _ | j; exact leC_int rfl)
     exact absurd hj (by show ¬ _ < 38; omega))
  | (rw [e4G (by assumption) (by assumption) (by assumption) (by assumption) (by assumption)]
     refine Done.mk (leF_tup ⟨leE_tail rfl (fun j hj => ?_) (leC_nils_sl rfl), leC_int rfl, leC_int rfl, trivial⟩)
     iterate 38 (rcases j with _ | j; exact leC_int rfl)
     exact absurd hj (by show ¬ _ < 38; omega))
  | (rw [e5G (by assumption) (by assumption) (by assumption) (by assumption) (by assumption)]
     refine Done.mk (leF_tup ⟨leE_tail rfl (fun j hj => ?_) (leC_nils_sl rfl), leC_int rfl, leC_int rfl, trivial⟩)
     iterate 38 (rcases j with _ | j; exact leC_int rfl)
     exact absurd hj (by show ¬ _ < 38; omega))
  | (rw [e4D (by assumption) (by assumption) (by assumption) (by assumption) (by assumption)]
     refine Done.mk (leF_tup ⟨leE_tail rfl (fun j hj => ?_) (leC_nils_sl rfl), leC_int rfl, leC_int rfl, trivial⟩)
     iterate 38 (rcases j with _ | j; exact leC_int rfl)
     exact absurd hj (by show ¬ _ < 38; omega))
  | (rw [e5D (by assumption) (by assumption) (by assumption) (by assumption) (by assumption)]
     refine Done.mk (leF_tup ⟨leE_tail rfl (fun j hj => ?_) (leC_nils_sl rfl), leC_int rfl, leC_int rfl, trivial⟩)
     iterate 38 (rcases j with _ | j; exact leC_int rfl)
     exact absurd hj (by show ¬ _ < 38; omega))
  | skip
theorem decodeI_ok (b : List Int) (f t : Adr) (l : List Ctx) (now : Int) (hb : BL b) (hbl : b.length <= 140737488355328) (hl : bytesL l) : PureOk Try.prog 60 [(cSl eB eB_sz).enc b, (cE eAdr).enc f, (cE eAdr).enc t, (cSl eCtx eCtx_sz).enc l, (cI .i64).enc now] (encDec (decI b f t l now)) := by
 by_cases h : ¬ bits .and .i64 (startF b 0).1.1.2.1 64 = 0 /\ bits .and .i64 (shrI .i64 (startF b 0).1.1.2.1 4) 3 = 0
 . exact dec_ok1 b f t l now hb hbl hl h
 . refine dec_ok0 b f t l now hb hbl hl ?_
   by_cases h1 : bits .and .i64 (startF b 0).1.1.2.1 64 = 0
   . exact .inl h1
   . exact .inr fun h2 => h ⟨h1, h2⟩
abbrev decIE : Entry := pureE (AC.cons (cSl eB eB_sz) (AC.cons (cE eAdr) (AC.cons (cE eAdr) (AC.cons (cSl eCtx eCtx_sz) (AC.cons (cI .i64) AC.nil))))) (fun a => BL a.1 /\ a.1.length <= 140737488355328 /\ bytesL a.2.2.2.1) (fun a => decI a.1 a.2.1 a.2.2.1 a.2.2.2.1 a.2.2.2.2.1) encDec
theorem decIE_ok : EntOk Try.prog 60 decIE := pureE_ok ⟨_, Try.func60, rfl, by kernel_rfl⟩ fun a h => decodeI_ok a.1 a.2.1 a.2.2.1 a.2.2.2.1 a.2.2.2.2.1 h.1 h.2.1 h.2.2
structure FcS (l : List Ctx) (a : Fin 16 -> Int) (now : Int) where
 i : Nat
 best : Ctx
 found : Bool
 hi : i <= l.length
 h1 : validT l = true /\ vt now = true -> foldC a now (default, false) l = foldC a now (best, found) (l.drop i)
 h2 : ¬ (validT l = true /\ vt now = true) -> (best, found) = (default, false)
theorem rforCom_ok (l : List Ctx) (a : Fin 16 -> Int) (now : Int) (hl : bytesL l) (ha : byteOk a) : PureOk Try.prog 132 [(cSl eCtx eCtx_sz).enc l, (cE (eA .u8 16)).enc a, (cI .i64).enc now] (encCB (forCom l a now)) := by
 have hn := hl.n
 refine pure_intro (wd := 1) (Q := mkQ LQ1) (by decide) tysOk (q_of LQ1_ok) mixed Try.func132 rfl _ (by show 3 <= _; decide) _ ?_
 refine loop_intro (mono_of LQ1_ok) (fun s : FcS l a now => (⟨[(0, one (.sl false l.length eCtx.sz (rowF eCtx l))), (2, one (.int .i64 now)), (4, one (.ptr 0 0 0 false)), (6, one (.ptr 1 0 0 false)), (8, one (.ptr 4 0 0 false)), (9, one (.bool s.found)), (10, one (.int .i64 (s.i : Int)))],
  [(0, some ⟨24, 1, 16, true, fun _ => (eA .u8 16).cell a⟩), (1, some ⟨82, 1, 20, true, fun _ _ => .top⟩), (4, some ⟨82, 1, 20, true, fun _ => eCtx.cell s.best⟩)], 8⟩ : Hd)) (fun s => l.length - s.i) (fun _ => rfl) ?_ ⟨0, default, false, by omega, fun _ => rfl, fun _ => rfl⟩ [] ?_
 . rintro ⟨i, best, found, hi, h1, h2⟩
   dsimp only at hi h1 h2 ⊢
   have hV : ∀ s : Bool, s = validT (toL eCtx l.length (rowF eCtx l)) -> s = validT l := fun s h => h.trans (congrArg validT (toL_ctx l))
   repeat' (first | (apply And.intro <;> intro hc <;> (first | exact Bool.noConfusion hc | (simp only [zb0] at hc) | skip)) | (refine And.intro zp0 ?_) | (apply And.intro) | (intro s hs))
   . show bytesL (toL eCtx l.length (rowF eCtx l))
     rw [toL_ctx]; exact hl
   . show byteOk (ePfx.rd fun j => eCtx.cell (l.getD i default) (1 + j)).ip
     rw [pfx_of_ctx]; exact hl.b _ (mem_getD (by omega))
   . show byteOk ((eA .u8 16).rd fun q => (eA .u8 16).cell a (0 + q))
     rw [rd_ip]; exact ha
   . rename_i sv hsv c0 st hst c1 c2 sc hsc c3 c4 c5
     have v : validT l = true /\ vt now = true := ⟨by rw [<- hV sv hsv]; exact c0, by rw [<- (show st = vt now from hst)]; exact c1⟩
     have ec : sc = compr (l.getD i default) now := hsc.trans (by
      show compr (eCtx.rd (eCtx.cell (l.getD i default))) now = _
      rw [eCtx_rd])
     have en : s = pEq (maskP a (l.getD i default).bits) (pfxOf (l.getD i default)) := hs.trans (by
      show containsF (ePfx.rd fun j => eCtx.cell (l.getD i default) (1 + j)) ((eA .u8 16).rd fun q => (eA .u8 16).cell a (0 + q)) = _
      rw [pfx_of_ctx, rd_ip]; rfl)
     have hb : better a now (best, found) (l.getD i default) = true := by
      unfold better; rw [<- ec, <- en, c3, c4]; simp [c5]
     refine ⟨⟨i + 1, l.getD i default, true, by omega, fun _ => ?_, fun h => absurd v h⟩, [], by dsimp only; omega, rfl, ?_, ?_⟩
     . rw [h1 v, fold_step _ _ _ (show i < l.length by omega), if_pos hb]
     . repeat' (first | exact zw0 | refine leF_int ?_ | refine leF_bool ?_ | exact zw1 | apply And.intro)
       refine (IntWalk.i64_in _ ?_).trans ?_
       . constructor <;> omega
       . dsimp only
         omega
     . repeat' (first | exact zw0 | refine leF_int ?_ | refine leF_bool ?_ | exact zw1 | apply And.intro)
       all_goals (refine leN_var ?_; repeat' (first | exact zw2 | refine leE_all ?_ | exact leC_bool (by assumption) | apply And.intro))
   . rename_i sv hsv c0 st hst c1 c2 sc hsc c3 c4 c5
     have v : validT l = true /\ vt now = true := ⟨by rw [<- hV sv hsv]; exact c0, by rw [<- (show st = vt now from hst)]; exact c1⟩
     have ec : sc = compr (l.getD i default) now := hsc.trans (by
      show compr (eCtx.rd (eCtx.cell (l.getD i default))) now = _
      rw [eCtx_rd])
     have en : s = pEq (maskP a (l.getD i default).bits) (pfxOf (l.getD i default)) := hs.trans (by
      show containsF (ePfx.rd fun j => eCtx.cell (l.getD i default) (1 + j)) ((eA .u8 16).rd fun q => (eA .u8 16).cell a (0 + q)) = _
      rw [pfx_of_ctx, rd_ip]; rfl)
     have hb : better a now (best, found) (l.getD i default) = true := by
      unfold better
      rw [<- ec, <- en, c3, c4, show decide (best.bits < (l.getD i default).bits) = true from decide_eq_true hc]; simp
     refine ⟨⟨i + 1, l.getD i default, true, by omega, fun _ => ?_, fun h => absurd v h⟩, [], by dsimp only; omega, rfl, ?_, ?_⟩
     . rw [h1 v, fold_step _ _ _ (show i < l.length by omega), if_pos hb]
     . repeat' (first | exact zw0 | refine leF_int ?_ | refine leF_bool ?_ | exact zw1 | apply And.intro)
       refine (IntWalk.i64_in _ ?_).trans ?_
       . constructor <;> omega
       . dsimp only
         omega
     . repeat' (first | exact zw0 | refine leF_int ?_ | refine leF_bool ?_ | exact zw1 | apply And.intro)
       all_goals (refine leN_var ?_; repeat' (first | exact zw2 | refine leE_all ?_ | exact leC_bool (by assumption) | apply And.intro))
   . rename_i sv hsv c0 st hst c1 c2 sc hsc c3 c4 c5
     have v : validT l = true /\ vt now = true := ⟨by rw [<- hV sv hsv]; exact c0, by rw [<- (show st = vt now from hst)]; exact c1⟩
     have hb : ¬ better a now (best, found) (l.getD i default) = true := by
      unfold better
      rw [show decide (best.bits < (l.getD i default).bits) = false from decide_eq_false hc]; simp [c5]
     refine ⟨⟨i + 1, best, found, by omega, fun _ => ?_, h2⟩, [], by dsimp only; omega, rfl, ?_, ?_⟩
     . rw [h1 v, fold_step _ _ _ (show i < l.length by omega), if_neg hb]
     . repeat' (first | exact zw0 | refine leF_int ?_ | refine leF_bool ?_ | exact zw1 | apply And.intro)
       refine (IntWalk.i64_in _ ?_).trans ?_
       . constructor <;> omega
       . dsimp only
         omega
     . repeat' (first | exact zw0 | refine leF_int ?_ | refine leF_bool ?_ | exact zw1 | apply And.intro)
       all_goals (refine leN_var ?_; repeat' (first | exact zw2 | refine leE_all ?_ | exact leC_bool (by assumption) | apply And.intro))
   . rename_i sv hsv c0 st hst c1 c2 sc hsc c3 c4
     have v : validT l = true /\ vt now = true := ⟨by rw [<- hV sv hsv]; exact c0, by rw [<- (show st = vt now from hst)]; exact c1⟩
     have en : s = pEq (maskP a (l.getD i default).bits) (pfxOf (l.getD i default)) := hs.trans (by
      show containsF (ePfx.rd fun j => eCtx.cell (l.getD i default) (1 + j)) ((eA .u8 16).rd fun q => (eA .u8 16).cell a (0 + q)) = _
      rw [pfx_of_ctx, rd_ip]; rfl)
     have hb : ¬ better a now (best, found) (l.getD i default) = true := by
      unfold better; rw [<- en, c4]; simp
     refine ⟨⟨i + 1, best, found, by omega, fun _ => ?_, h2⟩, [], by dsimp only; omega, rfl, ?_, ?_⟩
     . rw [h1 v, fold_step _ _ _ (show i < l.length by omega), if_neg hb]
     . repeat' (first | exact zw0 | refine leF_int ?_ | refine leF_bool ?_ | exact zw1 | apply And.intro)
       refine (IntWalk.i64_in _ ?_).trans ?_
       . constructor <;> omega
       . dsimp only
         omega
     . repeat' (first | exact zw0 | refine leF_int ?_ | refine leF_bool ?_ | exact zw1 | apply And.intro)
       all_goals (refine leN_var ?_; repeat' (first | exact zw2 | refine leE_all ?_ | exact leC_bool (by assumption) | apply And.intro))
   . rename_i sv hsv c0 st hst c1 c2 c3 c4
     have v : validT l = true /\ vt now = true := ⟨by rw [<- hV sv hsv]; exact c0, by rw [<- (show st = vt now from hst)]; exact c1⟩
     have ec : s = compr (l.getD i default) now := hs.trans (by
      show compr (eCtx.rd (eCtx.cell (l.getD i default))) now = _
      rw [eCtx_rd])
     have hb : ¬ better a now (best, found) (l.getD i default) = true := by
      unfold better; rw [<- ec, c3]; simp
     refine ⟨⟨i + 1, best, found, by omega, fun _ => ?_, h2⟩, [], by dsimp only; omega, rfl, ?_, ?_⟩
     . rw [h1 v, fold_step _ _ _ (show i < l.length by omega), if_neg hb]
     . repeat' (first | exact zw0 | refine leF_int ?_ | refine leF_bool ?_ | exact zw1 | apply And.intro)
       refine (IntWalk.i64_in _ ?_).trans ?_
       . constructor <;> omega
       . dsimp only
         omega
     . repeat' (first | exact zw0 | refine leF_int ?_ | refine leF_bool ?_ | exact zw1 | apply And.intro)
       all_goals (refine leN_var ?_; repeat' (first | exact zw2 | refine leE_all ?_ | exact leC_bool (by assumption) | apply And.intro))
   . rename_i sv hsv c0 c1
     have v : validT l = true /\ vt now = true := ⟨by rw [<- hV sv hsv]; exact c0, by rw [<- (show s = vt now from hs)]; exact c1⟩
     have hil : i = l.length := by omega
     have e : forCom l a now = (best, found) := by
      rw [forCom_eq v.1 v.2, h1 v, hil, List.drop_length]; rfl
     rw [e]
     refine Done.mk (leF_tup ?_)
     repeat' (first | exact zw2 | refine leE_all ?_ | exact leC_bool (by assumption) | apply And.intro)
   . have v2 : vt now = false := by rw [<- (show s = vt now from hs)]; assumption
     have hnv : ¬ (validT l = true /\ vt now = true) := by rw [v2]; simp
     have e : forCom l a now = (best, found) := by rw [forCom, if_neg hnv, h2 hnv]
     rw [e]
     refine Done.mk (leF_tup ?_)
     repeat' (first | exact zw2 | refine leE_all ?_ | exact leC_bool (by assumption) | apply And.intro)
   . have v1 : validT l = false := by rw [<- hV s hs]; assumption
     have hnv : ¬ (validT l = true /\ vt now = true) := by rw [v1]; simp
     have e : forCom l a now = (best, found) := by rw [forCom, if_neg hnv, h2 hnv]
     rw [e]
     refine Done.mk (leF_tup ?_)
     repeat' (first | exact zw2 | refine leE_all ?_ | exact leC_bool (by assumption) | apply And.intro)
 . refine ⟨rfl, ?_, ?_⟩
   . repeat' (first | exact zw0 | refine leF_int ?_ | refine leF_bool ?_ | exact zw1 | apply And.intro)
   . repeat' (first | exact zw0 | refine leF_int ?_ | refine leF_bool ?_ | exact zw1 | apply And.intro)
     all_goals (refine leN_var ?_; repeat' (first | exact zw2 | refine leE_all ?_ | exact leC_bool (by assumption) | apply And.intro))
theorem split_step {l : List Int} (hl : BL l) {i : Nat} (hi : i < l.length) (h8 : i < 8) {v : Int} (hv : v = l.getD i default) : IntKind.u64.wrap (shlI .u64 (beVal (l.take i)) 8 + IntKind.u64.wrap v) = beVal (l.take (i + 1)) := by
 have hb := beVal_lt (l.take i) (hl.take i)
 have hp := pow256_le (show (l.take i).length <= 7 by simp; omega)
 have hx := hl.get i
 rw [hv, shl8 _ ⟨hb.1, by omega⟩, show IntKind.u64.wrap (l.getD i default) = l.getD i default from IntWalk.u64_in _ (by omega), IntWalk.u64_in _ (by omega), take_snocI hi, beVal_snoc]
theorem rsplit_ok (a : Fin 16 -> Int) (ha : byteOk a) : PureOk Try.prog 87 [(cE (eA .u8 16)).enc a] (encUU (splF a)) := by
 have hA := ipBL ha
 have hD := (ipBL ha).drop 8
 refine pure_intro (wd := 1) (Q := mkQ LE0) (by decide) tysOk (q_of LE0_ok) mixed Try.func87 rfl _ (by show 1 <= _; decide) _ ?_
 refine loop_intro (mono_of LE0_ok) (fun s : {i : Nat // i <= 8} => (⟨[(1, one (.ptr 0 0 0 false)), (4, one (.int .u64 (beVal ((ipL a).take s.1)))), (5, one (.int .u64 (beVal (((ipL a).drop 8).take s.1)))), (6, one (.int .i64 (s.1 : Int)))], [(0, some ⟨24, 1, 16, true, fun _ => (eA .u8 16).cell a⟩)], 6⟩ : Hd)) (fun s => 8 - s.1) (fun _ => rfl) ?_ ⟨0, by omega⟩ [] ?_
 . rintro ⟨i, hi⟩
   dsimp only at hi ⊢
   have h8 : IntKind.i64.wrap (8 + (i : Int)) = 8 + i := IntWalk.i64_in _ (by omega)
   repeat' (first | (apply And.intro <;> intro hc <;> (first | exact Bool.noConfusion hc | (simp only [zb0] at hc) | skip)) | (refine And.intro zp0 ?_) | (apply And.intro) | (intro s hs))
   all_goals first
    | (refine ⟨⟨i + 1, by omega⟩, [], by dsimp only; omega, rfl, ?_, ?_⟩
       . repeat' (first | exact zw0 | refine leF_int ?_ | refine leF_bool ?_ | exact zw1 | apply And.intro)
         . exact split_step hA (by rw [ipL_len]; omega) (by omega) (by rw [ipL_get a (by omega)]; exact congrArg (vget a) (by omega))
         . exact split_step hD (by rw [List.length_drop, ipL_len]; omega) (by omega) (by rw [getD_dropI, ipL_get a (by omega)]; exact congrArg (vget a) (by rw [h8]; omega))
         . exact zaw
       . repeat' (first | exact zw0 | refine leF_int ?_ | refine leF_bool ?_ | exact zw1 | apply And.intro)
         done)
    | skip
   . have h8' : i = 8 := by omega
     subst h8'
     refine Done.mk (leF_tup ⟨leC_int rfl, leC_int ?_, trivial⟩)
     show beVal (((ipL a).drop 8).take 8) = beVal ((ipL a).drop 8)
     rw [List.take_of_length_le (by rw [List.length_drop, ipL_len]; decide)]
 . refine ⟨rfl, ?_, ?_⟩
   . repeat' (first | exact zw0 | refine leF_int ?_ | refine leF_bool ?_ | exact zw1 | apply And.intro)
   . repeat' (first | exact zw0 | refine leF_int ?_ | refine leF_bool ?_ | exact zw1 | apply And.intro)
def LRa0 : CsL := (87, some (pureE aIp (fun a => byteOk a.1) (fun a => splF a.1) encUU)) :: LT2
theorem LRa0_ok : AllOk Try.prog LRa0 := ⟨pureE_ok ⟨_, Try.func87, rfl, by kernel_rfl⟩ fun a h => rsplit_ok a.1 h, LT2_ok⟩
theorem pfx_ip (p : Pfx) : ((eA .u8 16).rd fun q => ePfx.cell p (0 + 0 + q)) = p.ip := by
 funext q
 show valI (ePfx.cell p (0 + 0 + q.1)) = p.ip q
 rw [show 0 + 0 + q.1 = 0 + q.1 by omega, ePfx_ip_at _ _ q.2]
 exact vget_lt _ q.2
theorem rjoin_ok (p : Pfx) (y : Int) (hp : byteOk p.ip) : PureOk Try.prog 47 [(cE ePfx).enc p, (cI .u64).enc y] (encIpB (joinF p y)) := by
 have hO := of_hi hp y
 obtain ⟨J, eJ⟩ : ∃ J, joinF p y = J := ⟨_, rfl⟩
 rw [eJ]
 unfold joinF at eJ
 obtain ⟨K, eK⟩ : ∃ K, jn p.ip y = K := ⟨_, rfl⟩
 rw [eK] at eJ hO
 obtain ⟨Hi, eHi⟩ : ∃ x, hiF p.ip = x := ⟨_, rfl⟩
 rw [eHi] at hO
 have eS : splF p.ip = (Hi, loF p.ip) := by unfold splF; rw [eHi]
 obtain ⟨V, eV⟩ : ∃ x, vpf p = x := ⟨_, rfl⟩
 rw [eV] at eJ
 refine pure_intro (wd := 1) (Q := mkQ LRa0) (by decide) tysOk (q_of LRa0_ok) mixed Try.func47 rfl _ (by show 2 <= _; decide) _ ?_
 repeat' (first | (apply And.intro <;> intro hc <;> (first | exact Bool.noConfusion hc | (simp only [zb0, ne_eq, not_true_eq_false] at hc <;> first | exact absurd rfl hc | skip) | skip)) | (refine And.intro zp1 ?_) | (apply And.intro) | (intro s hs; (first | (have q : V = s := (hs.trans ((congrArg vpf (rd_pfx p)).trans eV)).symm; clear hs; subst q) | (have q : s = (Hi, loF p.ip) := hs.trans ((congrArg splF (pfx_ip p)).trans eS); clear hs; subst q) | (have q : K = s := (hs.trans hO).symm; clear hs; subst q))))
 all_goals first
  | exact Eq.mp (congrArg (fun p : Pfx => byteOk p.ip) (rd_pfx p).symm) hp
  | exact Eq.mp (congrArg byteOk (pfx_ip p).symm) hp
  | (have e : J = (zeroA, false) := by rw [<- eJ]; exact if_neg (fun h => Bool.noConfusion (h.1.symm.trans (by assumption)))
     rw [e]
     exact Done.mk (leF_tup ⟨leE_all (by repeat' (first | exact zw2 | refine leE_all ?_ | exact leC_bool (by assumption) | apply And.intro)), leC_bool rfl, trivial⟩))
  | (have e : J = (zeroA, false) := by rw [<- eJ]; exact if_neg (fun h => by have := h.2; omega)
     rw [e]
     exact Done.mk (leF_tup ⟨leE_all (by repeat' (first | exact zw2 | refine leE_all ?_ | exact leC_bool (by assumption) | apply And.intro)), leC_bool rfl, trivial⟩))
  | (have e : J = (K, true) := by rw [<- eJ]; exact if_pos ⟨by assumption, by omega⟩
     rw [e]
     exact Done.mk (leF_tup ⟨leE_all (by repeat' (first | exact zw2 | refine leE_all ?_ | exact leC_bool (by assumption) | apply And.intro)), leC_bool rfl, trivial⟩))
  | skip
def linkF (a : Adr) : (Fin 16 -> Int) × Bool := if (iidF a).2 = true then (jn llP.ip (iidF a).1, true) else (zeroA, false)
theorem rlink_ok (a : Adr) : PureOk Try.prog 44 [(cE eAdr).enc a] (encIpB (linkF a)) := by
 obtain ⟨J, eJ⟩ : ∃ J, linkF a = J := ⟨_, rfl⟩
 rw [eJ]
 unfold linkF at eJ
 obtain ⟨I, eI⟩ : ∃ x, iidF a = x := ⟨_, rfl⟩
 rw [eI] at eJ
 have hO := llP_of I.1
 obtain ⟨K, eK⟩ : ∃ K, jn llP.ip I.1 = K := ⟨_, rfl⟩
 rw [eK] at eJ hO
 refine pure_intro (wd := 1) (Q := mkQ LRa0) (by decide) tysOk (q_of LRa0_ok) mixed Try.func44 rfl _ (by show 1 <= _; decide) _ ?_
 repeat' (first | (apply And.intro <;> intro hc <;> (first | exact Bool.noConfusion hc | (simp only [zb0, ne_eq, not_true_eq_false] at hc <;> first | exact absurd rfl hc | skip) | skip)) | (refine And.intro zp1 ?_) | (apply And.intro) | (intro s hs; (first | (have q : I = s := (hs.trans ((congrArg iidF (rd_adr a)).trans eI)).symm; clear hs; subst q) | (have q : K = s := (hs.trans hO).symm; clear hs; subst q))))
 all_goals first
  | (have e : J = (zeroA, false) := by rw [<- eJ]; exact if_neg (fun h => Bool.noConfusion (h.symm.trans (by assumption : I.2 = false)))
     rw [e]
     exact Done.mk (leF_tup ⟨leE_all (by repeat' (first | exact zw2 | refine leE_all ?_ | exact leC_bool (by assumption) | apply And.intro)), leC_bool rfl, trivial⟩))
  | (have e : J = (K, true) := by rw [<- eJ]; exact if_pos (by assumption)
     rw [e]
     exact Done.mk (leF_tup ⟨leE_all (by repeat' (first | exact zw2 | refine leE_all ?_ | exact leC_bool (by assumption) | apply And.intro)), leC_bool rfl, trivial⟩))
  | skip
def LRa : CsL := (44, some (pureE (AC.cons (cE eAdr) AC.nil) (fun _ => True) (fun a => linkF a.1) encIpB)) ::
 (47, some (pureE (AC.cons (cE ePfx) (AC.cons (cI .u64) AC.nil)) (fun a => byteOk a.1.ip) (fun a => joinF a.1 a.2.1) encIpB)) :: LRa0
theorem LRa_ok : AllOk Try.prog LRa := ⟨pureE_ok ⟨_, Try.func44, rfl, by kernel_rfl⟩ fun a _ => rlink_ok a.1, pureE_ok ⟨_, Try.func47, rfl, by kernel_rfl⟩ fun a h => rjoin_ok a.1 a.2.1 h, LRa0_ok⟩
theorem rbit_ok (b : Bool) (v : Int) : PureOk Try.prog 96 [cB.enc b, (cI .i64).enc v] ((cI .i64).enc (bitV b v)) := by
 refine pure_intro (wd := 1) (Q := mkQ LE0) (by decide) tysOk (q_of LE0_ok) mixed Try.func96 rfl _ (by show 2 <= _; decide) _ ?_
 repeat' (first | (apply And.intro <;> intro hc <;> (first | exact Bool.noConfusion hc | (simp only [zb0] at hc) | skip)) | (refine And.intro zp0 ?_) | (apply And.intro) | (intro s hs))
 all_goals exact Done.mk (leF_int (by simp [bitV, *]))
theorem rhops_ok (h : Int) : PureOk Try.prog 93 [(cI .u8).enc h] ((cI .i64).enc (hopF h)) := by
 refine pure_intro (wd := 1) (Q := mkQ LE0) (by decide) tysOk (q_of LE0_ok) mixed Try.func93 rfl _ (by show 1 <= _; decide) _ ?_
 repeat' (first | (apply And.intro <;> intro hc <;> (first | exact Bool.noConfusion hc | (simp only [zb0] at hc) | skip)) | (refine And.intro zp0 ?_) | (apply And.intro) | (intro s hs))
 all_goals exact Done.mk (leF_int (by unfold hopF; simp [*]))
abbrev forComE : Entry := pureE (AC.cons (cSl eCtx eCtx_sz) (AC.cons (cE (eA .u8 16)) (AC.cons (cI .i64) AC.nil))) (fun a => bytesL a.1 /\ byteOk a.2.1) (fun a => forCom a.1 a.2.1 a.2.2.1) encCB
def LJ0 : CsL := (96, some (pureE (AC.cons cB (AC.cons (cI .i64) AC.nil)) (fun _ => True) (fun a => bitV a.1 a.2.1) (cI .i64).enc)) ::
 (93, some (pureE (AC.cons (cI .u8) AC.nil) (fun _ => True) (fun a => hopF a.1) (cI .i64).enc)) ::
 (132, some forComE) :: (LQ1 ++ (LRa ++ (LA0 ++ LRp0)))
theorem LJ0_ok : AllOk Try.prog LJ0 := ⟨pureE_ok ⟨_, Try.func96, rfl, by kernel_rfl⟩ fun a _ => rbit_ok a.1 a.2.1, pureE_ok ⟨_, Try.func93, rfl, by kernel_rfl⟩ fun a _ => rhops_ok a.1,
 pureE_ok ⟨_, Try.func132, rfl, by kernel_rfl⟩ fun a h => rforCom_ok a.1 a.2.1 a.2.2.1 h.1 h.2, append_ok LQ1_ok (append_ok LRa_ok (append_ok LA0_ok LRp0_ok))⟩
theorem rready_ok (f t : Adr) (l : List Ctx) (now : Int) (hl : bytesL l) : PureOk Try.prog 91 [(cE eAdr).enc f, (cE eAdr).enc t, (cSl eCtx eCtx_sz).enc l, (cI .i64).enc now] ((cI .i64).enc (checkF f t l now)) := by
 obtain ⟨x, ex⟩ : ∃ x, adrValid f = x := ⟨_, rfl⟩
 obtain ⟨y, ey⟩ : ∃ x, adrValid t = x := ⟨_, rfl⟩
 obtain ⟨z, ez⟩ : ∃ x, validT l = x := ⟨_, rfl⟩
 obtain ⟨v, ev⟩ : ∃ x, vt now = x := ⟨_, rfl⟩
 obtain ⟨W, eW⟩ : ∃ W, checkF f t l now = W := ⟨_, rfl⟩
 rw [eW]
 unfold checkF at eW
 rw [ex, ey, ez, ev] at eW
 have g1 : True := trivial
 have g2 : True := trivial
 have g3 : True := trivial
 refine pure_intro (wd := 1) (Q := mkQ LJ0) (by decide) tysOk (q_of LJ0_ok) mixed Try.func91 rfl _ (by show 4 <= _; decide) _ ?_
 repeat' (first | (apply And.intro <;> intro hc <;> (first | exact Bool.noConfusion hc | (simp only [zb0, ne_eq, not_true_eq_false] at hc <;> first | exact absurd rfl hc | skip) | skip)) | (refine And.intro zp1 ?_) | (apply And.intro) | (intro s hs; (first | (clear g1; have q : x = s := (hs.trans ((congrArg adrValid (rd_adr f)).trans ex)).symm; clear hs; subst q) | (clear g2; have q : y = s := (hs.trans ((congrArg adrValid (rd_adr t)).trans ey)).symm; clear hs; subst q) | (clear g3; have q : z = s := (hs.trans ((congrArg validT (toL_ctx l)).trans ez)).symm; clear hs; subst q) | (have q : v = s := (hs.trans ev).symm; clear hs; subst q))))
 all_goals first
  | exact Eq.mp (congrArg bytesL (toL_ctx l).symm) hl
  | (refine Done.mk (leF_int ?_)
     rw [<- eW]
     simp [*]
     done)
  | skip
theorem rflow_ok (p : Pkt) (hf : 0 <= p.1.flow /\ p.1.flow < 4294967296) : PureOk Try.prog 92 [cPk.enc p] (encIS (flowF p)) := by
 have w1 : IntKind.u64.wrap p.1.flow = p.1.flow := IntWalk.u64_in _ (by omega)
 have c0 : ¬ p.1.cls = 0 -> ¬ p.1.flow = 0 -> flowF p = (0, [p.1.cls] ++ beB p.1.flow 3) := fun h g => by unfold flowF; rw [if_pos ⟨h, g⟩]
 have c1 : p.1.cls = 0 -> ¬ p.1.flow = 0 -> flowF p = (1, [] ++ beB p.1.flow 3) := fun h g => by unfold flowF; rw [if_neg (fun x => x.1 h), if_pos g]
 have c2 : p.1.flow = 0 -> ¬ p.1.cls = 0 -> flowF p = (2, [p.1.cls]) := fun h g => by unfold flowF; rw [if_neg (fun x => x.2 h), if_neg (fun x => x h), if_pos g]
 have c3 : p.1.flow = 0 -> p.1.cls = 0 -> flowF p = (3, []) := fun h g => by unfold flowF; rw [if_neg (fun x => x.2 h), if_neg (fun x => x h), if_neg (fun x => x g)]
 obtain ⟨W, eW⟩ : ∃ W, flowF p = W := ⟨_, rfl⟩
 have eF : beB (IntKind.u64.wrap p.1.flow) 3 = beB p.1.flow 3 := by rw [w1]
 obtain ⟨B, eB'⟩ : ∃ B, beB p.1.flow 3 = B := ⟨_, rfl⟩
 rw [eB'] at eF c0 c1
 rw [eW] at c0 c1 c2 c3 ⊢
 clear eW w1 eB'
 refine pure_intro (wd := 1) (Q := mkQ LJ0) (by decide) tysOk (q_of LJ0_ok) mixed Try.func92 rfl _ (by show 1 <= _; decide) _ ?_
 repeat' (first | (apply And.intro <;> intro hc <;> (first | exact Bool.noConfusion hc | (exfalso; first | exact absurd (by assumption : p.1.flow = 0) hc | exact absurd hc (by assumption : ¬ p.1.flow = 0) | exact absurd (by assumption : p.1.cls = 0) hc | exact absurd hc (by assumption : ¬ p.1.cls = 0)) | (simp only [zb0, ne_eq, not_true_eq_false] at hc <;> first | exact absurd rfl hc | (exfalso; first | exact absurd (by assumption : p.1.flow = 0) hc | exact absurd hc (by assumption : ¬ p.1.flow = 0) | exact absurd (by assumption : p.1.cls = 0) hc | exact absurd hc (by assumption : ¬ p.1.cls = 0)) | skip) | skip)) | (refine And.intro zp1 ?_) | (apply And.intro) | (intro s hs; (first | (have q : s = [p.1.cls] ++ B := hs.trans (congrArg ([p.1.cls] ++ ·) eF); clear hs; subst q) | (have q : s = [] ++ B := hs.trans (congrArg ([] ++ ·) eF); clear hs; subst q))))
 all_goals first
  | exact Nat.zero_le _
  | exact Nat.le_of_ble_eq_true rfl
  | (intro i hi
     rcases i with _ | i
     . exact rfl
     . exact absurd hi (by omega))
  | (rw [c0 (by assumption) (by assumption)]
     exact Done.mk (leF_tup ⟨leC_int rfl, leC_row_fin rfl rfl, trivial⟩))
  | (rw [c1 (by assumption) (by assumption)]
     exact Done.mk (leF_tup ⟨leC_int rfl, leC_row_fin rfl rfl, trivial⟩))
  | (rw [c3 (by assumption) (by assumption)]
     exact Done.mk (leF_tup ⟨leC_int rfl, leC_nils_sl rfl, trivial⟩))
  | (rw [c2 (by assumption) (by assumption)]
     refine Done.mk (leF_tup ⟨leC_int rfl, leC_os_is (l := [p.1.cls]) rfl rfl rfl rfl (Nat.le_of_eq rfl) ⟨fun k hk => ?_⟩, trivial⟩)
     iterate 1 (rcases k with _ | k; exact rfl)
     exact absurd hk (by show ¬ _ < 1; omega))
  | skip
theorem riids_ok (y : Int) (k : Adr) : PureOk Try.prog 131 [(cI .u64).enc y, (cE eAdr).enc k] (encIS (iidsF y k)) := by
 have i3 := fun h => iids_own (k := k) (y := y) h
 have i2 := fun h g => iids_2 (k := k) (y := y) h g
 have i1 := fun h g => iids_1 (k := k) (y := y) h g
 obtain ⟨I, eI⟩ : ∃ x, iidF k = x := ⟨_, rfl⟩
 obtain ⟨W, eW⟩ : ∃ x, iidsF y k = x := ⟨_, rfl⟩
 rw [eI, eW] at i1 i2 i3
 rw [eW]
 clear eW
 have g1 : True := trivial
 refine pure_intro (wd := 1) (Q := mkQ LJ0) (by decide) tysOk (q_of LJ0_ok) mixed Try.func131 rfl _ (by show 2 <= _; decide) _ ?_
 repeat' (first | (apply And.intro <;> intro hc <;> (first | exact Bool.noConfusion hc | (simp only [zb0, ne_eq, not_true_eq_false] at hc <;> first | exact absurd rfl hc | skip) | skip)) | (refine And.intro zp1 ?_) | (apply And.intro) | (intro s hs; (first | (clear g1; have q : I = s := (hs.trans ((congrArg iidF (rd_adr k)).trans eI)).symm; clear hs; subst q) | (have q : s = beB y 2 := hs; clear hs; subst q) | (have q : s = beB y 8 := hs; clear hs; subst q))))
 all_goals first
  | exact Nat.zero_le _
  | (rw [i3 (Prod.ext (by assumption : I.1 = y) (by assumption : I.2 = true))]
     exact Done.mk (leF_tup ⟨leC_int rfl, leC_nils_sl rfl, trivial⟩))
  | (rw [i2 (fun h => Bool.noConfusion ((congrArg Prod.snd h).symm.trans (by assumption : I.2 = false))) (by assumption)]
     exact Done.mk (leF_tup ⟨leC_int rfl, leC_row_fin rfl rfl, trivial⟩))
  | (rw [i2 (fun h => (by assumption : ¬ I.1 = y) (congrArg Prod.fst h)) (by assumption)]
     exact Done.mk (leF_tup ⟨leC_int rfl, leC_row_fin rfl rfl, trivial⟩))
  | (rw [i1 (fun h => Bool.noConfusion ((congrArg Prod.snd h).symm.trans (by assumption : I.2 = false))) (by assumption)]
     exact Done.mk (leF_tup ⟨leC_int rfl, leC_row_fin rfl rfl, trivial⟩))
  | (rw [i1 (fun h => (by assumption : ¬ I.1 = y) (congrArg Prod.fst h)) (by assumption)]
     exact Done.mk (leF_tup ⟨leC_int rfl, leC_row_fin rfl rfl, trivial⟩))
  | skip
structure RzS (a : Fin 16 -> Int) (i j : Nat) where
 k : Nat
 hk : i <= k /\ k <= j
 h : ∀ q, i <= q -> q < k -> vget a q = 0
theorem rzero_ok (a : Fin 16 -> Int) (i j : Nat) (hij : i <= j /\ j <= 16) : PureOk Try.prog 133 [(cE (eA .u8 16)).enc a, (cI .i64).enc (i : Int), (cI .i64).enc (j : Int)] (cB.enc (zr a i j)) := by
 obtain ⟨w, eW⟩ : ∃ w, zr a i j = w := ⟨_, rfl⟩
 have w0 : ∀ k, i <= k -> k < j -> vget a k ≠ 0 -> w = false := fun k h1 h2 h => by rw [<- eW]; exact zr_no h1 h2 (by omega) h
 have w1 : (∀ k, i <= k -> k < j -> vget a k = 0) -> w = true := fun h => by rw [<- eW]; exact zr_of fun k h1 h2 h3 => h k h1 h2
 rw [eW]
 clear eW
 refine pure_intro (wd := 1) (Q := mkQ LE0) (by decide) tysOk (q_of LE0_ok) mixed Try.func133 rfl _ (by show 3 <= _; decide) _ ?_
 refine loop_intro (mono_of LE0_ok) (fun s : RzS a i j => (⟨[(2, one (.int .i64 (j : Int))), (3, one (.ptr 0 0 0 false)), (7, one (.int .i64 (s.k : Int)))], [(0, some ⟨24, 1, 16, true, fun _ => (eA .u8 16).cell a⟩)], 5⟩ : Hd)) (fun s => j - s.k) (fun _ => rfl) ?_ ⟨i, by omega, fun q h1 h2 => absurd h2 (by omega)⟩ [] ?_
 . rintro ⟨k, hk, h⟩
   dsimp only at hk h ⊢
   repeat' (first | (apply And.intro <;> intro hc <;> (first | exact Bool.noConfusion hc | (simp only [zb0] at hc) | skip)) | (refine And.intro zp0 ?_) | (apply And.intro) | (intro s hs))
   . rw [w0 k (by omega) (by omega) (fun e => hc ((congrArg (vget a) (by omega)).trans e))]
     exact Done.mk (leF_bool rfl)
   . refine ⟨⟨k + 1, by omega, fun q h1 h2 => ?_⟩, [], by dsimp only <;> omega, rfl, ?_, ?_⟩
     . by_cases e : q = k
       . rw [e]; exact (congrArg (vget a) (by omega)).trans hc
       . exact h q h1 (by omega)
     . repeat' (first | exact zw0 | refine leF_int ?_ | refine leF_bool ?_ | exact zw1 | apply And.intro)
       exact zaw
     . repeat' (first | exact zw0 | refine leF_int ?_ | refine leF_bool ?_ | exact zw1 | apply And.intro)
   . rw [w1 fun q h1 h2 => h q h1 (by omega)]
     exact Done.mk (leF_bool rfl)
 . refine ⟨rfl, ?_, ?_⟩
   . repeat' (first | exact zw0 | refine leF_int ?_ | refine leF_bool ?_ | exact zw1 | apply And.intro)
   . repeat' (first | exact zw0 | refine leF_int ?_ | refine leF_bool ?_ | exact zw1 | apply And.intro)
theorem rzero_okI (a : Fin 16 -> Int) (i j : Int) (h : 0 <= i /\ i <= j /\ j <= 16) : PureOk Try.prog 133 [(cE (eA .u8 16)).enc a, (cI .i64).enc i, (cI .i64).enc j] (cB.enc (zr a i.toNat j.toNat)) := by
 obtain ⟨m, rfl⟩ : ∃ m : Nat, i = m := ⟨i.toNat, by omega⟩
 obtain ⟨n, rfl⟩ : ∃ n : Nat, j = n := ⟨j.toNat, by omega⟩
 exact rzero_ok a m n (by omega)
abbrev rzeroE : Entry := pureE (AC.cons (cE (eA .u8 16)) (AC.cons (cI .i64) (AC.cons (cI .i64) AC.nil))) (fun a => 0 <= a.2.1 /\ a.2.1 <= a.2.2.1 /\ a.2.2.1 <= 16) (fun a => zr a.1 a.2.1.toNat a.2.2.1.toNat) cB.enc
def LJ1 : CsL := (133, some rzeroE) :: (131, some (pureE (AC.cons (cI .u64) (AC.cons (cE eAdr) AC.nil)) (fun _ => True) (fun a => iidsF a.1 a.2.1) encIS)) :: LJ0
theorem LJ1_ok : AllOk Try.prog LJ1 := ⟨pureE_ok ⟨_, Try.func133, rfl, by kernel_rfl⟩ fun a h => rzero_okI a.1 a.2.1 a.2.2.1 h, pureE_ok ⟨_, Try.func131, rfl, by kernel_rfl⟩ fun a _ => riids_ok a.1 a.2.1, LJ0_ok⟩
theorem rgrp_ok (a : Fin 16 -> Int) : PureOk Try.prog 95 [(cE (eA .u8 16)).enc a] (encFmG (grpF a)) := by
 obtain ⟨z15, e15⟩ : ∃ x, zr a 2 15 = x := ⟨_, rfl⟩
 obtain ⟨z13, e13⟩ : ∃ x, zr a 2 13 = x := ⟨_, rfl⟩
 obtain ⟨z11, e11⟩ : ∃ x, zr a 2 11 = x := ⟨_, rfl⟩
 obtain ⟨W, eW⟩ : ∃ W, grpF a = W := ⟨_, rfl⟩
 rw [eW]
 unfold grpF at eW
 rw [e15, e13, e11] at eW
 have k1 : vget a (0 + Int.toNat 1 * 1 + 0) = 2 -> z15 = true -> W = (⟨false, 0, 3⟩, [vget a 15]) := fun h g => by rw [<- eW]; exact if_pos ⟨h, g⟩
 have k0 : (¬ vget a (0 + Int.toNat 1 * 1 + 0) = 2 \/ z15 = false) -> ¬ (vget a 1 = 2 /\ z15 = true) := fun h g => h.elim (fun h => h g.1) (fun h => Bool.noConfusion (h.symm.trans g.2))
 have k2 : (¬ vget a (0 + Int.toNat 1 * 1 + 0) = 2 \/ z15 = false) -> z13 = true -> W = (⟨false, 0, 2⟩, [vget a 1, vget a 13, vget a 14, vget a 15]) := fun h g => by rw [<- eW, if_neg (k0 h), if_pos g]
 have k3 : (¬ vget a (0 + Int.toNat 1 * 1 + 0) = 2 \/ z15 = false) -> z13 = false -> z11 = true -> W = (⟨false, 0, 1⟩, [vget a 1, vget a 11, vget a 12, vget a 13, vget a 14, vget a 15]) := fun h g g' => by rw [<- eW, if_neg (k0 h), if_neg (fun f => Bool.noConfusion (g.symm.trans f)), if_pos g']
 have k4 : (¬ vget a (0 + Int.toNat 1 * 1 + 0) = 2 \/ z15 = false) -> z13 = false -> z11 = false -> W = (⟨false, 0, 0⟩, ipL a) := fun h g g' => by rw [<- eW, if_neg (k0 h), if_neg (fun f => Bool.noConfusion (g.symm.trans f)), if_neg (fun f => Bool.noConfusion (g'.symm.trans f))]
 clear eW k0
 refine pure_intro (wd := 1) (Q := mkQ LJ1) (by decide) tysOk (q_of LJ1_ok) mixed Try.func95 rfl _ (by show 1 <= _; decide) _ ?_
 repeat' (first | (apply And.intro <;> intro hc <;> (first | exact Bool.noConfusion hc | (simp only [zb0, ne_eq, not_true_eq_false] at hc <;> first | exact absurd rfl hc | skip) | skip)) | (refine And.intro zp1 ?_) | (apply And.intro) | (intro s hs; (first | (have q : z15 = s := (hs.trans ((congrArg (fun b => zr b 2 15) (rd_ip a)).trans e15)).symm; clear hs; subst q) | (have q : z13 = s := (hs.trans ((congrArg (fun b => zr b 2 13) (rd_ip a)).trans e13)).symm; clear hs; subst q) | (have q : z11 = s := (hs.trans ((congrArg (fun b => zr b 2 11) (rd_ip a)).trans e11)).symm; clear hs; subst q))))
 all_goals first
  | (rw [k1 (by assumption) (by assumption)]
     refine Done.mk (leF_e (leE_tail rfl (fun j hj => ?_) (leC_os_is (l := [vget a 15]) rfl rfl rfl rfl (Nat.le_of_eq rfl) ⟨fun k hk => ?_⟩)))
     . iterate 3 (rcases j with _ | j; (first | exact leC_int rfl | exact leC_bool rfl))
       exact absurd hj (by show ¬ _ < 3; omega)
     . iterate 1 (rcases k with _ | k; exact rfl)
       exact absurd hk (by show ¬ _ < 1; omega))
  | (rw [k2 (.inl (by assumption)) (by assumption)]
     refine Done.mk (leF_e (leE_tail rfl (fun j hj => ?_) (leC_os_is (l := [vget a 1, vget a 13, vget a 14, vget a 15]) rfl rfl rfl rfl (Nat.le_of_eq rfl) ⟨fun k hk => ?_⟩)))
     . iterate 3 (rcases j with _ | j; (first | exact leC_int rfl | exact leC_bool rfl))
       exact absurd hj (by show ¬ _ < 3; omega)
     . iterate 4 (rcases k with _ | k; exact rfl)
       exact absurd hk (by show ¬ _ < 4; omega))
  | (rw [k3 (.inl (by assumption)) (by assumption) (by assumption)]
     refine Done.mk (leF_e (leE_tail rfl (fun j hj => ?_) (leC_os_is (l := [vget a 1, vget a 11, vget a 12, vget a 13, vget a 14, vget a 15]) rfl rfl rfl rfl (Nat.le_of_eq rfl) ⟨fun k hk => ?_⟩)))
     . iterate 3 (rcases j with _ | j; (first | exact leC_int rfl | exact leC_bool rfl))
       exact absurd hj (by show ¬ _ < 3; omega)
     . iterate 6 (rcases k with _ | k; exact rfl)
       exact absurd hk (by show ¬ _ < 6; omega))
  | (rw [k4 (.inl (by assumption)) (by assumption) (by assumption)]
     refine Done.mk (leF_e (leE_tail rfl (fun j hj => ?_) (leC_os_is (l := ipL a) rfl rfl rfl rfl (Nat.le_of_eq rfl) ⟨fun k hk => ?_⟩)))
     . iterate 3 (rcases j with _ | j; (first | exact leC_int rfl | exact leC_bool rfl))
       exact absurd hj (by show ¬ _ < 3; omega)
     . iterate 16 (rcases k with _ | k; exact rfl)
       exact absurd hk (by show ¬ _ < 16; omega))
  | (rw [k2 (.inr (by assumption)) (by assumption)]
     refine Done.mk (leF_e (leE_tail rfl (fun j hj => ?_) (leC_os_is (l := [vget a 1, vget a 13, vget a 14, vget a 15]) rfl rfl rfl rfl (Nat.le_of_eq rfl) ⟨fun k hk => ?_⟩)))
     . iterate 3 (rcases j with _ | j; (first | exact leC_int rfl | exact leC_bool rfl))
       exact absurd hj (by show ¬ _ < 3; omega)
     . iterate 4 (rcases k with _ | k; exact rfl)
       exact absurd hk (by show ¬ _ < 4; omega))
  | (rw [k3 (.inr (by assumption)) (by assumption) (by assumption)]
     refine Done.mk (leF_e (leE_tail rfl (fun j hj => ?_) (leC_os_is (l := [vget a 1, vget a 11, vget a 12, vget a 13, vget a 14, vget a 15]) rfl rfl rfl rfl (Nat.le_of_eq rfl) ⟨fun k hk => ?_⟩)))
     . iterate 3 (rcases j with _ | j; (first | exact leC_int rfl | exact leC_bool rfl))
       exact absurd hj (by show ¬ _ < 3; omega)
     . iterate 6 (rcases k with _ | k; exact rfl)
       exact absurd hk (by show ¬ _ < 6; omega))
  | (rw [k4 (.inr (by assumption)) (by assumption) (by assumption)]
     refine Done.mk (leF_e (leE_tail rfl (fun j hj => ?_) (leC_os_is (l := ipL a) rfl rfl rfl rfl (Nat.le_of_eq rfl) ⟨fun k hk => ?_⟩)))
     . iterate 3 (rcases j with _ | j; (first | exact leC_int rfl | exact leC_bool rfl))
       exact absurd hj (by show ¬ _ < 3; omega)
     . iterate 16 (rcases k with _ | k; exact rfl)
       exact absurd hk (by show ¬ _ < 16; omega))
  | skip
theorem runi_ok0 (a : Fin 16 -> Int) (k : Adr) (source : Bool) (l : List Ctx) (now : Int) (ha : byteOk a) (hl : bytesL l) (Z : source = true /\ ipEq a zeroA = true) : PureOk Try.prog 94 [(cE (eA .u8 16)).enc a, (cE eAdr).enc k, cB.enc source, (cSl eCtx eCtx_sz).enc l, (cI .i64).enc now] (encFm (uniF a k source l now)) := by
 rw [uni_0 Z]
 obtain ⟨Z1, Z2⟩ := Z
 have Z3 := (zero_from a).trans Z2
 refine pure_intro (wd := 1) (Q := mkQ LJ1) (by decide) tysOk (q_of LJ1_ok) mixed Try.func94 rfl _ (by show 5 <= _; decide) _ ?_
 repeat' (first | (apply And.intro <;> intro hc <;> (first | exact Bool.noConfusion hc | (exfalso; first | exact Bool.noConfusion (Z1.symm.trans hc) | exact Bool.noConfusion (Z3.symm.trans hc)) | (simp only [zb0, ne_eq, not_true_eq_false] at hc <;> first | exact absurd rfl hc | (exfalso; first | exact Bool.noConfusion (Z1.symm.trans hc) | exact Bool.noConfusion (Z3.symm.trans hc)) | skip) | skip)) | (refine And.intro zp1 ?_) | (apply And.intro) | (intro s hs; skip))
 refine Done.mk (leF_e (leE_tail rfl (fun j hj => ?_) (leC_nils_sl rfl)))
 iterate 3 (rcases j with _ | j; (first | exact leC_int rfl | exact leC_bool rfl))
 exact absurd hj (by show ¬ _ < 3; omega)
theorem runi_ok1 (a : Fin 16 -> Int) (k : Adr) (source : Bool) (l : List Ctx) (now : Int) (ha : byteOk a) (hl : bytesL l) (Z : ¬ (source = true /\ ipEq a zeroA = true)) : PureOk Try.prog 94 [(cE (eA .u8 16)).enc a, (cE eAdr).enc k, cB.enc source, (cSl eCtx eCtx_sz).enc l, (cI .i64).enc now] (encFm (uniF a k source l now)) := by
 have u1 := fun h => uni_1 (k := k) (l := l) (now := now) Z h
 have u2 := fun h g => uni_2 (k := k) (l := l) (now := now) Z h g
 have u3 := fun h g => uni_3 (k := k) (l := l) (now := now) Z h g
 have hK : coverF a l now = ((forCom l a now).2 && decide ((forCom l a now).1.bits <= 64) && decide (hiF (forCom l a now).1.ip = hiF a)) := rfl
 have hbC : (forCom l a now).2 = true -> byteOk (forCom l a now).1.ip := fun h => hl.b _ (forCom_in h).2.2.1
 have eS : splF a = (hiF a, loF a) := rfl
 have eS2 : splF (forCom l a now).1.ip = (hiF (forCom l a now).1.ip, loF (forCom l a now).1.ip) := rfl
 have Z3 := zero_from a
 obtain ⟨W, eW⟩ : ∃ W, uniF a k source l now = W := ⟨_, rfl⟩
 rw [eW] at u1 u2 u3 ⊢
 obtain ⟨C, eC⟩ : ∃ C, forCom l a now = C := ⟨_, rfl⟩
 obtain ⟨Hi, eHi⟩ : ∃ x, hiF a = x := ⟨_, rfl⟩
 obtain ⟨Lo, eLo⟩ : ∃ x, loF a = x := ⟨_, rfl⟩
 obtain ⟨V, eV⟩ : ∃ x, coverF a l now = x := ⟨_, rfl⟩
 obtain ⟨D, eD⟩ : ∃ x, iidsF (loF a) k = x := ⟨_, rfl⟩
 rw [eLo] at eD
 rw [eC] at eS2 hbC
 obtain ⟨Hc, eHc⟩ : ∃ x, hiF C.1.ip = x := ⟨_, rfl⟩
 obtain ⟨Lc, eLc⟩ : ∃ x, loF C.1.ip = x := ⟨_, rfl⟩
 rw [eC, eV, eHc, eHi] at hK
 rw [eHc, eLc] at eS2
 rw [eHi, eLo] at eS
 rw [eHi, eLo, eD] at u1
 rw [eHi, eLo, eD, eV, eC] at u2
 rw [eHi, eV] at u3
 clear eW eV
 have g1 : True := trivial
 refine pure_intro (wd := 1) (Q := mkQ LJ1) (by decide) tysOk (q_of LJ1_ok) mixed Try.func94 rfl _ (by show 5 <= _; decide) _ ?_
 repeat' (first | (apply And.intro <;> intro hc <;> (first | exact Bool.noConfusion hc | (exfalso; first | exact Z ⟨(by assumption), (Z3.symm.trans hc)⟩ | exact absurd hc (by assumption : ¬ C.1.bits <= 64) | exact absurd (by assumption : C.1.bits <= 64) hc | exact absurd hc (by assumption : ¬ Hc = Hi) | exact absurd (by assumption : Hc = Hi) hc | exact Bool.noConfusion ((by assumption : C.2 = true).symm.trans hc) | exact Bool.noConfusion ((by assumption : C.2 = false).symm.trans hc)) | (simp only [zb0, ne_eq, not_true_eq_false] at hc <;> first | exact absurd rfl hc | (exfalso; first | exact Z ⟨(by assumption), (Z3.symm.trans hc)⟩ | exact absurd hc (by assumption : ¬ C.1.bits <= 64) | exact absurd (by assumption : C.1.bits <= 64) hc | exact absurd hc (by assumption : ¬ Hc = Hi) | exact absurd (by assumption : Hc = Hi) hc | exact Bool.noConfusion ((by assumption : C.2 = true).symm.trans hc) | exact Bool.noConfusion ((by assumption : C.2 = false).symm.trans hc)) | skip) | skip)) | (refine And.intro zp1 ?_) | (apply And.intro) | (intro s hs; (first | (clear g1; have q : (Hi, Lo) = s := (hs.trans ((congrArg splF (rd_ip a)).trans eS)).symm; clear hs; subst q) | (have q : D = s := (hs.trans ((congrArg (iidsF Lo) (rd_adr k)).trans eD)).symm; clear hs; subst q) | (have q : C = s := (hs.trans ((congr (congrArg (fun l b => forCom l b now) (toL_ctx l)) (rd_ip a)).trans eC)).symm; clear hs; subst q) | (have q : s = (Hc, Lc) := (by (dsimp only at hs; refine hs.trans ((congrArg splF (ip_is (a := C.1.ip) (fun j hj => ?_))).trans eS2); (iterate 16 (rcases j with _ | j; exact rfl)); exact absurd hj (by omega))); clear hs; subst q) | skip)))
 all_goals first
  | exact Eq.mp (congrArg byteOk (rd_ip a).symm) ha
  | exact Eq.mp (congrArg bytesL (toL_ctx l).symm) hl
  | (dsimp only
     refine Eq.mp (congrArg byteOk (ip_is (a := C.1.ip) (fun j hj => ?_)).symm) (hbC (by assumption))
     iterate 16 (rcases j with _ | j; exact rfl)
     exact absurd hj (by omega))
  | (rw [u1 (by assumption)]
     refine Done.mk (leF_e (leE_tail rfl (fun j hj => ?_) (leC_sl (fun _ => rfl) rfl rfl (fun i hi j hj => leC_cell rfl))))
     iterate 3 (rcases j with _ | j; (first | exact leC_int rfl | exact leC_bool rfl))
     exact absurd hj (by show ¬ _ < 3; omega))
  | (rw [u2 (by assumption) (hK.trans (by rw [show C.2 = true by assumption, decide_eq_true (show C.1.bits <= 64 by assumption), decide_eq_true (show Hc = Hi by assumption)]; rfl))]
     refine Done.mk (leF_e (leE_tail rfl (fun j hj => ?_) (leC_sl (fun _ => rfl) rfl rfl (fun i hi j hj => leC_cell rfl))))
     iterate 3 (rcases j with _ | j; (first | exact leC_int rfl | exact leC_bool rfl))
     exact absurd hj (by show ¬ _ < 3; omega))
  | (rw [u3 (by assumption) (hK.trans (by rw [show C.2 = false by assumption]; rfl))]
     refine Done.mk (leF_e (leE_tail rfl (fun j hj => ?_) (leC_os_is (l := ipL a) rfl rfl rfl rfl (Nat.le_of_eq rfl) ⟨fun k hk => ?_⟩)))
     . iterate 3 (rcases j with _ | j; (first | exact leC_int rfl | exact leC_bool rfl))
       exact absurd hj (by show ¬ _ < 3; omega)
     . iterate 16 (rcases k with _ | k; exact rfl)
       exact absurd hk (by show ¬ _ < 16; omega))
  | (rw [u3 (by assumption) (hK.trans (by rw [show C.2 = true by assumption, decide_eq_false (show ¬ C.1.bits <= 64 by assumption)]; rfl))]
     refine Done.mk (leF_e (leE_tail rfl (fun j hj => ?_) (leC_os_is (l := ipL a) rfl rfl rfl rfl (Nat.le_of_eq rfl) ⟨fun k hk => ?_⟩)))
     . iterate 3 (rcases j with _ | j; (first | exact leC_int rfl | exact leC_bool rfl))
       exact absurd hj (by show ¬ _ < 3; omega)
     . iterate 16 (rcases k with _ | k; exact rfl)
       exact absurd hk (by show ¬ _ < 16; omega))
  | (rw [u3 (by assumption) (hK.trans (by rw [decide_eq_false (show ¬ Hc = Hi by assumption), Bool.and_false]))]
     refine Done.mk (leF_e (leE_tail rfl (fun j hj => ?_) (leC_os_is (l := ipL a) rfl rfl rfl rfl (Nat.le_of_eq rfl) ⟨fun k hk => ?_⟩)))
     . iterate 3 (rcases j with _ | j; (first | exact leC_int rfl | exact leC_bool rfl))
       exact absurd hj (by show ¬ _ < 3; omega)
     . iterate 16 (rcases k with _ | k; exact rfl)
       exact absurd hk (by show ¬ _ < 16; omega))
  | skip
theorem runi_ok (a : Fin 16 -> Int) (k : Adr) (source : Bool) (l : List Ctx) (now : Int) (ha : byteOk a) (hl : bytesL l) : PureOk Try.prog 94 [(cE (eA .u8 16)).enc a, (cE eAdr).enc k, cB.enc source, (cSl eCtx eCtx_sz).enc l, (cI .i64).enc now] (encFm (uniF a k source l now)) := by
 by_cases Z : source = true /\ ipEq a zeroA = true
 . exact runi_ok0 a k source l now ha hl Z
 . exact runi_ok1 a k source l now ha hl Z
def rfN (sh : Bool) (b : List Int) (q e : Int) : Ent := ⟨171, 1, 3, true, fun _ j => bif Nat.beq j 0 then .sl sh b.length 1 (rowF eB b) else bif Nat.beq j 1 then .int .i64 q else .int .i64 e⟩
theorem j3 {i j : Nat} (hi : i < 1) (hj : j < 3) : i = 0 /\ (j = 0 \/ j = 1 \/ j = 2) := by omega
theorem rfN_nf {sh : Bool} {b : List Int} {q e : Int} : ∀ i, i < (rfN sh b q e).n -> ∀ j, j < (rfN sh b q e).sz -> NF ((rfN sh b q e).f i j) := by
 intro i hi j hj
 obtain ⟨rfl, rfl | rfl | rfl⟩ := j3 hi hj
 . exact sl_keep
 . exact nf_int
 . exact nf_int
def rfE {α R : Type} (only : Bool) (A : AC α) (p : List Int -> Int -> Int -> α -> Prop) (F : List Int -> Int -> Int -> α -> R × Int × Int) (enc : R -> FV) : Entry := fun args H _ _ =>
 match args with
 | .e (.c (.ptr k 0 0 _)) :: rest =>
   match hget H k with
   | some ⟨t, en, es, v, g⟩ =>
     match g 0 0, g 0 1, g 0 2 with
     | .sl sh n s f, .int .i64 q, .int .i64 e =>
       match A.dec H rest with
       | some (a, pq, rd) => bif Nat.beq t 171 && Nat.beq en 1 && Nat.beq es 3 && v && Nat.beq s 1 && !(rd.any (Nat.beq k)) && (sh || !only) then
          some fun K => pAnd pq (∃ b : List Int, (n = b.length /\ f = rowF eB b /\ p b q e a) /\ ∀ s, s = F b q e a -> K (enc s.1) [(k, some (rfN sh b s.2.1 s.2.2))] (k :: rd)) else none
       | none => none
     | _, _, _ => none
   | none => none
 | _ => none
theorem rfE_ok {α R : Type} {only : Bool} {A : AC α} {p : List Int -> Int -> Int -> α -> Prop} {F : List Int -> Int -> Int -> α -> R × Int × Int} {enc : R -> FV} {P : Program} {f : FuncId} (hb : hasBody P f) (hfl : only = false -> ∀ r, FlatF (enc r))
 (h : ∀ b q e a, p b q e a -> MethOk P f (A.enc a) (rfN true b q e) (enc (F b q e a).1) (rfN true b (F b q e a).2.1 (F b q e a).2.2)) : EntOk P f (rfE only A p F enc) := by
 refine ⟨fun args H nm wd q _ hq K hK => ?_, fun args H nm wd q hq K K' hKK hK => ?_⟩
 . unfold rfE at hq
   split at hq
   . rename_i k s rest
     split at hq
     . rename_i t en es v g he
       split at hq
       . rename_i sh n s f q0 e0 hg0 hg1 hg2
         split at hq
         . rename_i a pr rd hd
           obtain ⟨hc, hq⟩ := cond_some hq
           subst hq
           simp only [Bool.and_eq_true, Bool.not_eq_true'] at hc
           obtain ⟨⟨⟨⟨⟨⟨c1, c2⟩, c3⟩, c4⟩, c5⟩, c6⟩, c7⟩ := hc
           have c1 := Nat.eq_of_beq_eq_true c1
           have c2 := Nat.eq_of_beq_eq_true c2
           have c3 := Nat.eq_of_beq_eq_true c3
           have c5 := Nat.eq_of_beq_eq_true c5
           subst c1 c2 c3 c4 c5
           have hkr : k ∉ rd := fun hm => by
            have : rd.any (Nat.beq k) = true := List.any_eq_true.2 ⟨k, hm, by simp⟩
            rw [c6] at this; cases this
           obtain ⟨h1, b, ⟨h2, h3, h4⟩, h5⟩ := pAnd_iff.1 hK
           subst h2 h3
           have hm := h b q0 e0 a h4
           have hnf : ∀ i, i < 1 -> ∀ j, j < 3 -> NF (g i j) := fun i hi j hj => by
            obtain ⟨rfl, rfl | rfl | rfl⟩ := j3 hi hj
            . rw [hg0]; exact sl_keep
            . rw [hg1]; exact nf_int
            . rw [hg2]; exact nf_int
           cases sh with
           | true =>
             refine ⟨_, _, _, callR_meth (e := ⟨171, 1, 3, true, g⟩) hb he rfl hkr hnf (fun H' hh => A.sound H H' rest a pr rd hd h1 hh) (meth_congr (e := rfN true b q0 e0) rfl rfl rfl rfl (fun i hi j hj => ?_) hm) rfl, h5 _ rfl⟩
             obtain ⟨rfl, rfl | rfl | rfl⟩ := j3 hi hj
             . exact hg0
             . exact hg1
             . exact hg2
           | false =>
             have ho : only = false := by simpa using c7
             refine ⟨_, _, _, callR_rd (e := ⟨171, 1, 3, true, g⟩) (eT := rfN true b q0 e0) (eT' := rfN true b (F b q0 e0 a).2.1 (F b q0 e0 a).2.2) (e' := rfN false b (F b q0 e0 a).2.1 (F b q0 e0 a).2.2) hb he rfl hkr ?_ ?_ (hfl ho _) (fun H' hh => A.sound H H' rest a pr rd hd h1 hh) hm, h5 _ rfl⟩
             . intro r X W w o hp X' W' hX hW hE
               refine entIn_map (e := ⟨171, 1, 3, true, g⟩) (e' := rfN true b q0 e0) rfl rfl rfl rfl (fun i hi j hj u hu => ?_) hE
               obtain ⟨rfl, rfl | rfl | rfl⟩ := j3 hi hj
               . have hu' : (CV.sl false b.length 1 (rowF eB b)).rel r X W w u := by rw [<- hg0]; exact hu
                 exact sl_in hX hW hu'
               . have hu' : (CV.int .i64 q0).rel r X W w u := by rw [<- hg1]; exact hu
                 exact hu'
               . have hu' : (CV.int .i64 e0).rel r X W w u := by rw [<- hg2]; exact hu
                 exact hu'
             . intro r X X2 W W' w o hp hW hE
               refine entIn_map (e := rfN true b (F b q0 e0 a).2.1 (F b q0 e0 a).2.2) (e' := rfN false b (F b q0 e0 a).2.1 (F b q0 e0 a).2.2) rfl rfl rfl rfl (fun i hi j hj u hu => ?_) hE
               obtain ⟨rfl, rfl | rfl | rfl⟩ := j3 hi hj
               . exact sl_out hW hu
               . exact hu
               . exact hu
         . cases hq
       . cases hq
     . cases hq
   . cases hq
 . unfold rfE at hq
   split at hq
   . split at hq
     . split at hq
       . split at hq
         . obtain ⟨hc, hq⟩ := cond_some hq
           subst hq
           obtain ⟨h1, b, h2, h3⟩ := pAnd_iff.1 hK
           exact pAnd_iff.2 ⟨h1, b, h2, fun s hs => hKK _ _ _ (h3 s hs)⟩
         . cases hq
       . cases hq
     . cases hq
   . cases hq
theorem rfN_le {c : Wc} {b : List Int} {q q' e e' : Int} (h : q = q') (h2 : e = e') : LeN c (rfN true b q e) (rfN true b q' e') :=
 leN_var ⟨⟨⟨trivial, leC_sl (fun _ => rfl) rfl rfl fun i _ j _ => leC_cell rfl⟩, leC_int h⟩, leC_int h2⟩
def failS (e : Int) (bad : Bool) (c : Int) : Int := if bad = true /\ e = 0 then c else e
def takeS (b : List Int) (q e n : Int) : List Int × Int × Int :=
 if failS e (decide (IntKind.i64.wrap ((b.length : Int) - q) < n)) 4 = 0 then ((b.drop q.toNat).take n.toNat, q + n, 0) else (List.replicate n.toNat 0, q, failS e (decide (IntKind.i64.wrap ((b.length : Int) - q) < n)) 4)
def uintS (b : List Int) (q e n : Int) : Int × Int × Int := if e = 0 then ((numF b q n).1.1, (numF b q n).2, (numF b q n).1.2) else (0, q, e)
abbrev encU0 (_ : Unit) : FV := .tup []
theorem encU0_flat (r : Unit) : FlatF (encU0 r) := flatF_tup fun x hx => by cases hx
theorem fail_ok (b : List Int) (q e : Int) (bad : Bool) (c : Int) : MethOk Try.prog 135 [cB.enc bad, (cI .i64).enc c] (rfN true b q e) (encU0 ()) (rfN true b q (failS e bad c)) := by
 obtain ⟨W, eW⟩ : ∃ W, failS e bad c = W := ⟨_, rfl⟩
 rw [eW]
 unfold failS at eW
 refine meth_intro (wd := 1) (Q := mkQ LE0) (by decide) tysOk (q_of LE0_ok) mixed Try.func135 rfl _ (by show 2 + 1 <= _; decide) (flatF_nff (encU0_flat _)) (rfN_nf) ?_
 repeat' (first | (apply And.intro <;> intro hc <;> (first | exact Bool.noConfusion hc | (exfalso; first | exact absurd rfl hc) | (simp only [zb0, ne_eq, not_true_eq_false] at hc <;> first | exact absurd rfl hc | (exfalso; first | exact absurd rfl hc) | skip) | skip)) | (refine And.intro zp1 ?_) | (apply And.intro) | (intro s hs; skip))
 all_goals first
  | (have e : W = c := by rw [<- eW]; exact if_pos ⟨by assumption, by assumption⟩
     exact ⟨leF_tup trivial, leN_var ⟨⟨⟨trivial, leC_sl (fun _ => rfl) rfl rfl fun i _ j _ => leC_cell rfl⟩, leC_int rfl⟩, leC_int e.symm⟩⟩)
  | (have e : e = W := by rw [<- eW]; exact (if_neg (fun h => absurd h.2 (by assumption))).symm
     exact ⟨leF_tup trivial, rfN_le rfl e⟩)
  | (have e : e = W := by rw [<- eW]; exact (if_neg (fun h => Bool.noConfusion (h.1.symm.trans (by assumption : bad = false)))).symm
     exact ⟨leF_tup trivial, rfN_le rfl e⟩)
  | skip
abbrev failE : Entry := rfE false (AC.cons cB (AC.cons (cI .i64) AC.nil)) (fun _ _ _ _ => True) (fun b q e a => ((), q, failS e a.1 a.2.1)) encU0
def LRe0 : CsL := (135, some failE) :: LJ1
theorem LRe0_ok : AllOk Try.prog LRe0 := ⟨rfE_ok ⟨_, Try.func135, rfl, by kernel_rfl⟩ (fun _ r => encU0_flat r) fun b q e a _ => fail_ok b q e a.1 a.2.1, LJ1_ok⟩
abbrev encTk (l : List Int) : FV := .e (.c (slR eB l))
theorem take_ok (b : List Int) (q e n : Int) (hr : RdOk b q) (hn : 0 <= n /\ n <= 16) : MethOk Try.prog 153 [(cI .i64).enc n] (rfN true b q e) (encTk (takeS b q e n).1) (rfN true b (takeS b q e n).2.1 (takeS b q e n).2.2) := by
 have h1 := hr.lo
 have h2 := hr.hi
 have h3 := hr.len
 have w0 : IntKind.i64.wrap ((b.length : Int) - q) = b.length - q := IntWalk.i64_in _ (by omega)
 have w1 : IntKind.i64.wrap (q + n) = q + n := IntWalk.i64_in _ (by omega)
 have w2 : IntKind.i64.wrap (IntKind.i64.wrap (q + n) - n) = q := by rw [w1]; exact (IntWalk.i64_in _ (by omega)).trans (by omega)
 have hfit : failS e (decide (IntKind.i64.wrap ((b.length : Int) - q) < n)) 4 = 0 -> n <= b.length - q := fun h => by
  unfold failS at h
  split at h
  . cases h
  . rename_i g
    by_cases g2 : IntKind.i64.wrap ((b.length : Int) - q) < n
    . exact absurd ⟨decide_eq_true g2, h⟩ g
    . omega
 obtain ⟨E, eE⟩ : ∃ E, failS e (decide (IntKind.i64.wrap ((b.length : Int) - q) < n)) 4 = E := ⟨_, rfl⟩
 obtain ⟨W, eW⟩ : ∃ W, takeS b q e n = W := ⟨_, rfl⟩
 rw [eW]
 unfold takeS at eW
 rw [eE] at eW hfit
 have t1 : E = 0 -> W = ((b.drop q.toNat).take n.toNat, q + n, 0) := fun h => by rw [<- eW, if_pos h]
 have t2 : ¬ E = 0 -> W = (List.replicate n.toNat 0, q, E) := fun h => by rw [<- eW, if_neg h]
 clear eW
 refine meth_intro (wd := 1) (Q := mkQ LRe0) (by decide) tysOk (q_of LRe0_ok) mixed Try.func153 rfl _ (by show 1 + 1 <= _; decide) (nff_c (nf_sl fun i _ j _ => (eB.flat _ _).nf)) (rfN_nf) ?_
 repeat' (first | (apply And.intro <;> intro hc <;> (first | exact Bool.noConfusion hc | (exfalso; first | exact absurd rfl hc) | (simp only [zb0, ne_eq, not_true_eq_false] at hc <;> first | exact absurd rfl hc | (exfalso; first | exact absurd rfl hc) | skip) | skip)) | (refine And.intro zp1 ?_) | (apply And.intro) | (refine Exists.intro b (And.intro ⟨rfl, rfl, by first | exact trivial⟩ ?_)) | (intro s hs; (first | (have q : s = ((), q, E) := hs.trans (congrArg (fun x => ((), q, x)) eE); clear hs; subst q) | skip)))
 . rw [t2 (by assumption)]
   refine ⟨leF_c (leC_os_is (l := List.replicate n.toNat 0) rfl rfl rfl (List.length_replicate ..).symm (Nat.le_of_eq rfl) ⟨fun k hk => ?_⟩), rfN_le rfl rfl⟩
   rw [List.length_replicate] at hk
   rw [List.getD_eq_getElem?_getD, List.getElem?_replicate, if_pos hk]
   rfl
 . rw [t1 (by assumption)]
   have hf := hfit (by assumption)
   refine ⟨leF_c (leC_os_is (l := (b.drop q.toNat).take n.toNat) rfl rfl rfl ?_ (Nat.le_of_eq rfl) ⟨fun k hk => ?_⟩), leN_var ⟨⟨⟨trivial, leC_sl (fun _ => rfl) rfl rfl fun i _ j _ => leC_cell rfl⟩, leC_int w1⟩, leC_int (by assumption)⟩⟩
   . show 0 + ((IntKind.i64.wrap (q + n)).toNat - (IntKind.i64.wrap (IntKind.i64.wrap (q + n) - n)).toNat) = _
     rw [w2, w1, List.length_take, List.length_drop]
     omega
   . rw [List.length_take, List.length_drop] at hk
     refine congrArg (CV.int .u8) (?_ : b.getD ((IntKind.i64.wrap (IntKind.i64.wrap (q + n) - n)).toNat + (0 + k - 0)) default = _)
     rw [w2, getD_dt _ _ _ _ (by omega) (by omega)]
     exact congrArg (fun i => b.getD i default) (by omega)
theorem uint_take {b : List Int} {q e n : Int} (hr : RdOk b q) (hn : 1 <= n /\ n <= 8) : (uintF (takeS b q e n).1 0 n).1 = (uintS b q e n).1 /\ (takeS b q e n).2 = (uintS b q e n).2 := by
 have h1 := hr.lo
 have h2 := hr.hi
 have h3 := hr.len
 have w0 : IntKind.i64.wrap ((b.length : Int) - q) = b.length - q := IntWalk.i64_in _ (by omega)
 have hz : ∀ m : Nat, beVal (List.replicate m 0) = 0 := fun m => by
  induction m with
  | zero => rfl
  | succ m ih => rw [List.replicate_succ', beVal_snoc, ih]; rfl
 have hrep : (uintF (List.replicate n.toNat 0) 0 n).1 = 0 := by
  unfold uintF
  rw [if_pos (by rw [List.length_replicate]; omega)]
  show beVal (((List.replicate n.toNat 0).drop 0).take n.toNat) = 0
  rw [List.drop_zero, List.take_of_length_le (by rw [List.length_replicate]; exact Nat.le_refl _)]
  exact hz _
 unfold takeS uintS
 rw [w0]
 by_cases he : e = 0
 . subst he
   rw [if_pos rfl]
   by_cases hf : (b.length : Int) - q < n
   . have e1 : failS 0 (decide ((b.length : Int) - q < n)) 4 = 4 := if_pos ⟨decide_eq_true hf, rfl⟩
     have e2 : numF b q n = ((0, 4), q) := by
      unfold numF
      rw [if_neg]
      intro h
      have := uint_true h
      omega
     rw [e1, if_neg (by decide), e2]
     exact ⟨hrep, rfl⟩
   . have e1 : failS 0 (decide ((b.length : Int) - q < n)) 4 = 0 := if_neg (fun h => hf (of_decide_eq_true h.1))
     have hlen : ((b.drop q.toNat).take n.toNat).length = n.toNat := by rw [List.length_take, List.length_drop]; omega
     have e3 : uintF b q n = (beVal ((b.drop q.toNat).take n.toNat), true) := by
      unfold uintF
      rw [if_pos (by omega)]
     have e2 : numF b q n = ((beVal ((b.drop q.toNat).take n.toNat), 0), q + n) := by
      unfold numF
      rw [e3]
      exact if_pos rfl
     rw [e1, if_pos rfl, e2]
     refine ⟨?_, rfl⟩
     unfold uintF
     rw [if_pos (by rw [hlen]; omega)]
     show beVal ((((b.drop q.toNat).take n.toNat).drop 0).take n.toNat) = beVal ((b.drop q.toNat).take n.toNat)
     rw [List.drop_zero, List.take_of_length_le (by rw [hlen]; exact Nat.le_refl _)]
 . have e1 : failS e (decide ((b.length : Int) - q < n)) 4 = e := if_neg (fun h => he h.2)
   rw [e1, if_neg he, if_neg he]
   exact ⟨hrep, rfl⟩
abbrev takeE : Entry := rfE true (AC.cons (cI .i64) AC.nil) (fun b q e a => RdOk b q /\ 0 <= a.1 /\ a.1 <= 16) (fun b q e a => takeS b q e a.1) encTk
def LRe1 : CsL := (153, some takeE) :: LRe0
theorem LRe1_ok : AllOk Try.prog LRe1 := ⟨rfE_ok ⟨_, Try.func153, rfl, by kernel_rfl⟩ (fun h => by cases h) fun b q e a h => take_ok b q e a.1 h.1 h.2, LRe0_ok⟩
theorem take_BL {b : List Int} {q e n : Int} (hb : BL b) : BL (takeS b q e n).1 := by
 unfold takeS
 split
 . exact (hb.drop _).take _
 . exact bl_rep _
theorem take_len {b : List Int} {q e n : Int} (hn : n <= 16) : (takeS b q e n).1.length <= 16 := by
 unfold takeS
 split
 . dsimp only; rw [List.length_take]; omega
 . dsimp only; rw [List.length_replicate]; omega
abbrev encUn (v : Int) : FV := .e (.c (.int .u64 v))
theorem ruint14_ok (b : List Int) (q e n : Int) (hr : RdOk b q) (hn : 1 <= n /\ n <= 8) : MethOk Try.prog 134 [(cI .i64).enc n] (rfN true b q e) (encUn (uintS b q e n).1) (rfN true b (uintS b q e n).2.1 (uintS b q e n).2.2) := by
 obtain ⟨u1, u2⟩ := uint_take (e := e) hr hn
 have hB := take_BL (q := q) (e := e) (n := n) hr.bl
 have hL := take_len (b := b) (q := q) (e := e) (n := n) (by omega)
 obtain ⟨W, eW⟩ : ∃ W, uintS b q e n = W := ⟨_, rfl⟩
 obtain ⟨Tk, eT⟩ : ∃ x, takeS b q e n = x := ⟨_, rfl⟩
 rw [eW, eT] at u1 u2
 rw [eT] at hB hL
 rw [eW, <- u2]
 obtain ⟨U, eU⟩ : ∃ x, uintF Tk.1 0 n = x := ⟨_, rfl⟩
 rw [eU] at u1
 have g1 : True := trivial
 refine meth_intro (wd := 1) (Q := mkQ LRe1) (by decide) tysOk (q_of LRe1_ok) mixed Try.func134 rfl _ (by show 1 + 1 <= _; decide) (flatF_nff (flatF_e (flatE_c flat_int))) (rfN_nf) ?_
 repeat' (first | (apply And.intro <;> intro hc <;> (first | exact Bool.noConfusion hc | (exfalso; first | exact absurd rfl hc) | (simp only [zb0, ne_eq, not_true_eq_false] at hc <;> first | exact absurd rfl hc | (exfalso; first | exact absurd rfl hc) | skip) | skip)) | (refine And.intro zp1 ?_) | (apply And.intro) | (refine Exists.intro b (And.intro ⟨rfl, rfl, by first | exact ⟨hr, by omega, by omega⟩⟩ ?_)) | (intro s hs; (first | (clear g1; have q : Tk = s := (hs.trans eT).symm; clear hs; subst q) | (have q : U = s := (hs.trans ((congrArg (fun l => uintF l 0 n) (toL_b Tk.1)).trans eU)).symm; clear hs; subst q) | skip)))
 all_goals first
  | exact Eq.mp (congrArg BL (toL_b Tk.1).symm) hB
  | (show (toL eB Tk.1.length _).length <= _; rw [toL_len]; omega)
  | exact ⟨leF_int u1, rfN_le rfl rfl⟩
  | skip
abbrev ruintE14 : Entry := rfE false (AC.cons (cI .i64) AC.nil) (fun b q e a => RdOk b q /\ 1 <= a.1 /\ a.1 <= 8) (fun b q e a => uintS b q e a.1) encUn
def LRe2 : CsL := (134, some ruintE14) :: LRe1
theorem LRe2_ok : AllOk Try.prog LRe2 := ⟨rfE_ok ⟨_, Try.func134, rfl, by kernel_rfl⟩ (fun _ r => flatF_e (flatE_c flat_int)) fun b q e a h => ruint14_ok b q e a.1 h.1 h.2, LRe1_ok⟩
def fdI (l : List Ctx) (id now : Int) (i : Nat) : Ctx × Bool := if validT l = true /\ vt now = true then findDec id now (l.drop i) else (default, false)
theorem rforDec_ok (l : List Ctx) (id now : Int) (hl : bytesL l) : PureOk Try.prog 154 [(cSl eCtx eCtx_sz).enc l, (cI .i64).enc id, (cI .i64).enc now] (encCB (forDec l id now)) := by
 have hn := hl.n
 refine pure_intro (wd := 1) (Q := mkQ LQ1) (by decide) tysOk (q_of LQ1_ok) mixed Try.func154 rfl _ (by show 3 <= _; decide) _ ?_
 refine loop_intro (mono_of LQ1_ok) (fun i : {i : Nat // i <= l.length /\ forDec l id now = fdI l id now i} => (⟨[(0, one (.sl false l.length eCtx.sz (rowF eCtx l))), (1, one (.int .i64 id)), (2, one (.int .i64 now)), (6, one (.ptr 0 0 0 false)), (8, one (.int .i64 (i.1 : Int)))],
  [(0, some ⟨82, 1, 20, true, fun _ _ => .top⟩)], 5⟩ : Hd)) (fun i => l.length - i.1) (fun _ => rfl) ?_ ⟨0, by omega, rfl⟩ [] ?_
 . rintro ⟨i, hi, hv⟩
   dsimp only at hi hv ⊢
   have hV : ∀ s : Bool, s = validT (toL eCtx l.length (rowF eCtx l)) -> s = validT l := fun s h => h.trans (congrArg validT (toL_ctx l))
   repeat' (first | (apply And.intro <;> intro hc <;> (first | exact Bool.noConfusion hc | (simp only [zb0] at hc) | skip)) | (refine And.intro zp0 ?_) | (apply And.intro) | (intro s hs))
   . show bytesL (toL eCtx l.length (rowF eCtx l))
     rw [toL_ctx]; exact hl
   . rename_i sv hsv c0 st hst c1 c2 c3
     have v1 : validT l = true := by rw [<- hV sv hsv]; exact c0
     have v2 : vt now = true := by rw [<- (show st = vt now from hst)]; exact c1
     have hd : s = decom (l.getD i default) now := hs.trans (by
      show decom (eCtx.rd (eCtx.cell (l.getD i default))) now = _
      rw [eCtx_rd])
     have e : forDec l id now = (l.getD i default, true) := by
      rw [hv, fdI, if_pos ⟨v1, v2⟩, drop_at (by omega), findDec, if_pos ⟨c3, by rw [<- hd]; exact hc⟩]
     rw [e]
     refine Done.mk (leF_tup ?_)
     repeat' (first | exact zw2 | refine leE_all ?_ | exact leC_bool (by assumption) | apply And.intro)
   . rename_i sv hsv c0 st hst c1 c2 c3
     have v1 : validT l = true := by rw [<- hV sv hsv]; exact c0
     have v2 : vt now = true := by rw [<- (show st = vt now from hst)]; exact c1
     have hd : s = decom (l.getD i default) now := hs.trans (by
      show decom (eCtx.rd (eCtx.cell (l.getD i default))) now = _
      rw [eCtx_rd])
     refine ⟨⟨i + 1, by omega, ?_⟩, [], by dsimp only; omega, rfl, ?_, ?_⟩
     . rw [hv, fdI, fdI, if_pos ⟨v1, v2⟩, if_pos ⟨v1, v2⟩, drop_at (show i < l.length by omega), findDec, if_neg (by rw [<- hd, hc]; simp)]
     . repeat' (first | exact zw0 | refine leF_int ?_ | refine leF_bool ?_ | exact zw1 | apply And.intro)
       refine (IntWalk.i64_in _ ?_).trans ?_
       . constructor <;> omega
       . dsimp only
         omega
     . repeat' (first | exact zw0 | refine leF_int ?_ | refine leF_bool ?_ | exact zw1 | apply And.intro)
   . rename_i sv hsv c0 c1 c2 c3
     have v1 : validT l = true := by rw [<- hV sv hsv]; exact c0
     have v2 : vt now = true := by rw [<- (show s = vt now from hs)]; exact c1
     have hne : (l.getD i default).id ≠ id := c3
     refine ⟨⟨i + 1, by omega, ?_⟩, [], by dsimp only; omega, rfl, ?_, ?_⟩
     . rw [hv, fdI, fdI, if_pos ⟨v1, v2⟩, if_pos ⟨v1, v2⟩, drop_at (show i < l.length by omega), findDec, if_neg (fun h => hne h.1)]
     . repeat' (first | exact zw0 | refine leF_int ?_ | refine leF_bool ?_ | exact zw1 | apply And.intro)
       refine (IntWalk.i64_in _ ?_).trans ?_
       . constructor <;> omega
       . dsimp only
         omega
     . repeat' (first | exact zw0 | refine leF_int ?_ | refine leF_bool ?_ | exact zw1 | apply And.intro)
   . have hil : i = l.length := by omega
     have e : forDec l id now = (default, false) := by
      rw [hv, fdI, hil, List.drop_length]
      split <;> rfl
     rw [e]
     refine Done.mk (leF_tup ?_)
     repeat' (first | exact zw2 | refine leE_all ?_ | exact leC_bool (by assumption) | apply And.intro)
   . have v2 : vt now = false := by rw [<- (show s = vt now from hs)]; assumption
     have e : forDec l id now = (default, false) := by
      rw [hv, fdI, if_neg (by rw [v2]; simp)]
     rw [e]
     refine Done.mk (leF_tup ?_)
     repeat' (first | exact zw2 | refine leE_all ?_ | exact leC_bool (by assumption) | apply And.intro)
   . have v1 : validT l = false := by rw [<- hV s hs]; assumption
     have e : forDec l id now = (default, false) := by
      rw [hv, fdI, if_neg (by rw [v1]; simp)]
     rw [e]
     refine Done.mk (leF_tup ?_)
     repeat' (first | exact zw2 | refine leE_all ?_ | exact leC_bool (by assumption) | apply And.intro)
 . refine ⟨rfl, ?_, ?_⟩
   . repeat' (first | exact zw0 | refine leF_int ?_ | refine leF_bool ?_ | exact zw1 | apply And.intro)
   . repeat' (first | exact zw0 | refine leF_int ?_ | refine leF_bool ?_ | exact zw1 | apply And.intro)
def LRe3 : CsL := (154, some (pureE (AC.cons (cSl eCtx eCtx_sz) (AC.cons (cI .i64) (AC.cons (cI .i64) AC.nil))) (fun a => bytesL a.1) (fun a => forDec a.1 a.2.1 a.2.2.1) encCB)) :: LRe2
theorem LRe3_ok : AllOk Try.prog LRe3 := ⟨pureE_ok ⟨_, Try.func154, rfl, by kernel_rfl⟩ fun a h => rforDec_ok a.1 a.2.1 a.2.2.1 h, LRe2_ok⟩
def ipOfL (l : List Int) : Fin 16 -> Int := fun i => l.getD i.1 default
def adrE (e : Int) (ctx : Bool) (m : Int) (k : Adr) (C : Ctx × Bool) : Int :=
 if ctx = true /\ failS e ((m == 3) && !(iidF k).2) 5 = 0 then failS (failS (failS e ((m == 3) && !(iidF k).2) 5) (!C.2) 9) (decide (64 < C.1.bits)) 5 else failS e ((m == 3) && !(iidF k).2) 5
def adrF (e : Int) (ctx : Bool) (m : Int) (k : Adr) (C : Ctx × Bool) : Int :=
 if ctx = true /\ failS e ((m == 3) && !(iidF k).2) 5 = 0 then hiF C.1.ip else 18338657682652659712
def adrV (b : List Int) (q E m first own : Int) : (Fin 16 -> Int) × Int × Int :=
 if m = 0 then (ipOfL (takeS b q E 16).1, (takeS b q E 16).2) else if m = 1 then (ofF first (uintS b q E 8).1, (uintS b q E 8).2)
 else if m = 2 then (ofF first (1099478073344 + (uintS b q E 2).1), (uintS b q E 2).2) else (ofF first own, q, E)
def adrS (b : List Int) (q e : Int) (ctx : Bool) (m : Int) (k : Adr) (C : Ctx × Bool) : (Fin 16 -> Int) × Int × Int := adrV b q (adrE e ctx m k C) m (adrF e ctx m k C) (iidF k).1
theorem dec_b {l : List Ctx} {id now : Int} (hl : bytesL l) : byteOk (forDec l id now).1.ip := by
 cases h : (forDec l id now).2 with
 | true => exact (dec_valid hl h).2
 | false =>
   unfold forDec at h ⊢
   split
   . rename_i g
     rw [if_pos g] at h
     have : ∀ l : List Ctx, (findDec id now l).2 = false -> (findDec id now l).1 = default := by
      intro l
      induction l with
      | nil => intro _; rfl
      | cons c l ih =>
        intro h
        unfold findDec at h ⊢
        split
        . rename_i g2; rw [if_pos g2] at h; cases h
        . rename_i g2; rw [if_neg g2] at h; exact ih h
     rw [this l h]
     exact ⟨fun i => ⟨(by decide : (0 : Int) <= 0), (by decide : (0 : Int) < 256)⟩⟩
   . exact ⟨fun i => ⟨(by decide : (0 : Int) <= 0), (by decide : (0 : Int) < 256)⟩⟩
theorem uintS_2 {b : List Int} {q e : Int} (hb : BL b) : 0 <= (uintS b q e 2).1 /\ (uintS b q e 2).1 < 65536 := by
 unfold uintS
 split
 . exact num2_v hb
 . exact ⟨(by decide : (0 : Int) <= 0), (by decide : (0 : Int) < 65536)⟩
theorem take16 {b : List Int} {q e : Int} (hr : RdOk b q) : (takeS b q e 16).1.length = 16 := by
 have h1 := hr.lo
 have h2 := hr.hi
 have h3 := hr.len
 have w0 : IntKind.i64.wrap ((b.length : Int) - q) = b.length - q := IntWalk.i64_in _ (by omega)
 unfold takeS
 rw [w0]
 split
 . rename_i g
   dsimp only
   rw [List.length_take, List.length_drop]
   have : ¬ (b.length : Int) - q < 16 := fun h => by
    unfold failS at g
    rw [decide_eq_true h] at g
    split at g
    . cases g
    . rename_i g2; exact g2 ⟨rfl, g⟩
   show min 16 _ = 16
   omega
 . exact List.length_replicate ..
abbrev encIp (a : Fin 16 -> Int) : FV := .e (.agg 16 ((eA .u8 16).cell a))
theorem encIp_flat (a : Fin 16 -> Int) : FlatF (encIp a) := flatF_e (flatE_agg fun i => (eA .u8 16).flat _ _)
theorem radr_t0 (b : List Int) (q e : Int) (k : Adr) (l : List Ctx) (id now : Int) (hr : RdOk b q) (hl : bytesL l) : MethOk Try.prog 136 [cB.enc true, (cI .i64).enc 0, (cE eAdr).enc k, (cSl eCtx eCtx_sz).enc l, (cI .i64).enc id, (cI .i64).enc now] (rfN true b q e) (encIp (adrS b q e true 0 k (forDec l id now)).1) (rfN true b (adrS b q e true 0 k (forDec l id now)).2.1 (adrS b q e true 0 k (forDec l id now)).2.2) := by
 obtain ⟨W, hW⟩ : ∃ W, adrS b q e true 0 k (forDec l id now) = W := ⟨_, rfl⟩
 have d1 : ((0 : Int) == 3 && !(iidF k).2) = false := rfl
 have c1 : failS e false 5 = 0 -> adrE e true 0 k (forDec l id now) = failS (failS (failS e false 5) (!(forDec l id now).2) 9) (decide (64 < (forDec l id now).1.bits)) 5 := fun h => if_pos ⟨rfl, h⟩
 have c2 : failS e false 5 = 0 -> adrF e true 0 k (forDec l id now) = hiF (forDec l id now).1.ip := fun h => if_pos ⟨rfl, h⟩
 have c3 : ¬ failS e false 5 = 0 -> adrE e true 0 k (forDec l id now) = failS e false 5 := fun h => if_neg (fun x => h x.2)
 have c4 : ¬ failS e false 5 = 0 -> adrF e true 0 k (forDec l id now) = 18338657682652659712 := fun h => if_neg (fun x => h x.2)
 have wA : (failS e false 5) = 0 -> W = (ipOfL (takeS b q (failS (failS (failS e false 5) (!(forDec l id now).2) 9) (decide (64 < (forDec l id now).1.bits)) 5) 16).1, (takeS b q (failS (failS (failS e false 5) (!(forDec l id now).2) 9) (decide (64 < (forDec l id now).1.bits)) 5) 16).2) := fun h => by
  rw [<- hW]
  unfold adrS
  rw [c1 h, c2 h]
  rfl
 have wB : ¬ (failS e false 5) = 0 -> W = (ipOfL (takeS b q (failS e false 5) 16).1, (takeS b q (failS e false 5) 16).2) := fun h => by
  rw [<- hW]
  unfold adrS
  rw [c3 h, c4 h]
  rfl
 have hdb := dec_b (id := id) (now := now) hl
 rw [hW]
 clear hW d1 c1 c2 c3 c4
 obtain ⟨I, eI⟩ : ∃ x, iidF k = x := ⟨_, rfl⟩
 obtain ⟨E1, eE1⟩ : ∃ x, failS e false 5 = x := ⟨_, rfl⟩
 rw [eE1] at wA wB
 obtain ⟨C, eC⟩ : ∃ x, forDec l id now = x := ⟨_, rfl⟩
 rw [eC] at wA hdb
 obtain ⟨E2, eE2⟩ : ∃ x, failS E1 (!C.2) 9 = x := ⟨_, rfl⟩
 rw [eE2] at wA
 obtain ⟨E3, eE3⟩ : ∃ x, failS E2 (decide (64 < C.1.bits)) 5 = x := ⟨_, rfl⟩
 rw [eE3] at wA
 have eSp : splF C.1.ip = (hiF C.1.ip, loF C.1.ip) := rfl
 obtain ⟨Hc, eHc⟩ : ∃ x, hiF C.1.ip = x := ⟨_, rfl⟩
 obtain ⟨Lc, eLc⟩ : ∃ x, loF C.1.ip = x := ⟨_, rfl⟩
 rw [eHc, eLc] at eSp
 have lb := take16 (e := E1) hr
 obtain ⟨Tb, eTb⟩ : ∃ x, takeS b q E1 16 = x := ⟨_, rfl⟩
 rw [eTb] at wB lb
 have la := take16 (e := E3) hr
 obtain ⟨Ta, eTa⟩ : ∃ x, takeS b q E3 16 = x := ⟨_, rfl⟩
 rw [eTa] at wA la
 have g1 : True := trivial
 have g2 : True := trivial
 have g3 : True := trivial
 have g4 : True := trivial
 have g5 : True := trivial
 have g6 : True := trivial
 have g7 : True := trivial
 have g8 : True := trivial
 have g9 : True := trivial
 refine meth_intro (wd := 1) (Q := mkQ LRe3) (by decide) tysOk (q_of LRe3_ok) mixed Try.func136 rfl _ (by show 6 + 1 <= _; decide) (flatF_nff (encIp_flat _)) (rfN_nf) ?_
 repeat' (first | (apply And.intro <;> intro hc <;> (first | exact Bool.noConfusion hc | exact zn1 hc | (simp only [zb0, ne_eq, not_true_eq_false] at hc <;> first | exact absurd rfl hc | exact zn1 hc | skip) | skip)) | (refine And.intro zp1 ?_) | (apply And.intro) | (refine Exists.intro b (And.intro ⟨rfl, rfl, by first | exact trivial | exact ⟨hr, by decide, by decide⟩⟩ ?_)) | (intro s hs; (first | (clear g1; have q : I = s := (hs.trans ((congrArg iidF (rd_adr k)).trans eI)).symm; clear hs; subst q) | (clear g2; have q : s = ((), q, E1) := hs.trans (congrArg (fun x => ((), q, x)) eE1); clear hs; subst q) | (clear g3; have h0 : E1 = 0 := (by assumption); have q : C = s := (hs.trans ((congrArg (fun l => forDec l id now) (toL_ctx l)).trans eC)).symm; clear hs; subst q) | (clear g4; have h0 : E1 = 0 := (by assumption); have q : s = ((), q, E2) := hs.trans (congrArg (fun x => ((), q, x)) eE2); clear hs; subst q) | (clear g5; have h0 : E1 = 0 := (by assumption); have q : s = ((), q, E3) := hs.trans (congrArg (fun x => ((), q, x)) eE3); clear hs; subst q) | (clear g6; have h0 : E1 = 0 := (by assumption); have q : s = (Hc, Lc) := (by (dsimp only at hs; refine hs.trans ((congrArg splF (ip_is (a := C.1.ip) (fun j hj => ?_))).trans eSp); (iterate 16 (rcases j with _ | j; exact rfl)); exact absurd hj (by omega))); clear hs; subst q) | (clear g7; have h0 : ¬ E1 = 0 := (by assumption); have q : Tb = s := (hs.trans eTb).symm; clear hs; subst q) | (clear g7; have h0 : E1 = 0 := (by assumption); have q : Ta = s := (hs.trans eTa).symm; clear hs; subst q) | skip)))
 all_goals try (first | exact rfl | exact Nat.le_of_ble_eq_true rfl | exact fun _ => rfl)
 all_goals first
  | exact Eq.mp (congrArg bytesL (toL_ctx l).symm) hl
  | (dsimp only
     refine Eq.mp (congrArg byteOk (ip_is (a := C.1.ip) (fun j hj => ?_)).symm) hdb
     iterate 16 (rcases j with _ | j; exact rfl)
     exact absurd hj (by omega))
  | (rw [wA (by assumption)]
     exact ⟨leF_e (leE_agg rfl (fun i hi => by (iterate 16 (rcases i with _ | i; exact leC_int (by rw [la]; rfl))); exact absurd hi (by omega))), rfN_le rfl rfl⟩)
  | (rw [wB (by assumption)]
     exact ⟨leF_e (leE_agg rfl (fun i hi => by (iterate 16 (rcases i with _ | i; exact leC_int (by rw [lb]; rfl))); exact absurd hi (by omega))), rfN_le rfl rfl⟩)
  | skip
theorem radr_t1 (b : List Int) (q e : Int) (k : Adr) (l : List Ctx) (id now : Int) (hr : RdOk b q) (hl : bytesL l) : MethOk Try.prog 136 [cB.enc true, (cI .i64).enc 1, (cE eAdr).enc k, (cSl eCtx eCtx_sz).enc l, (cI .i64).enc id, (cI .i64).enc now] (rfN true b q e) (encIp (adrS b q e true 1 k (forDec l id now)).1) (rfN true b (adrS b q e true 1 k (forDec l id now)).2.1 (adrS b q e true 1 k (forDec l id now)).2.2) := by
 obtain ⟨W, hW⟩ : ∃ W, adrS b q e true 1 k (forDec l id now) = W := ⟨_, rfl⟩
 have d1 : ((1 : Int) == 3 && !(iidF k).2) = false := rfl
 have c1 : failS e false 5 = 0 -> adrE e true 1 k (forDec l id now) = failS (failS (failS e false 5) (!(forDec l id now).2) 9) (decide (64 < (forDec l id now).1.bits)) 5 := fun h => if_pos ⟨rfl, h⟩
 have c2 : failS e false 5 = 0 -> adrF e true 1 k (forDec l id now) = hiF (forDec l id now).1.ip := fun h => if_pos ⟨rfl, h⟩
 have c3 : ¬ failS e false 5 = 0 -> adrE e true 1 k (forDec l id now) = failS e false 5 := fun h => if_neg (fun x => h x.2)
 have c4 : ¬ failS e false 5 = 0 -> adrF e true 1 k (forDec l id now) = 18338657682652659712 := fun h => if_neg (fun x => h x.2)
 have wA : (failS e false 5) = 0 -> W = (ofF (hiF (forDec l id now).1.ip) (uintS b q (failS (failS (failS e false 5) (!(forDec l id now).2) 9) (decide (64 < (forDec l id now).1.bits)) 5) 8).1, (uintS b q (failS (failS (failS e false 5) (!(forDec l id now).2) 9) (decide (64 < (forDec l id now).1.bits)) 5) 8).2) := fun h => by
  rw [<- hW]
  unfold adrS
  rw [c1 h, c2 h]
  rfl
 have wB : ¬ (failS e false 5) = 0 -> W = (ofF 18338657682652659712 (uintS b q (failS e false 5) 8).1, (uintS b q (failS e false 5) 8).2) := fun h => by
  rw [<- hW]
  unfold adrS
  rw [c3 h, c4 h]
  rfl
 have hdb := dec_b (id := id) (now := now) hl
 rw [hW]
 clear hW d1 c1 c2 c3 c4
 obtain ⟨I, eI⟩ : ∃ x, iidF k = x := ⟨_, rfl⟩
 obtain ⟨E1, eE1⟩ : ∃ x, failS e false 5 = x := ⟨_, rfl⟩
 rw [eE1] at wA wB
 obtain ⟨C, eC⟩ : ∃ x, forDec l id now = x := ⟨_, rfl⟩
 rw [eC] at wA hdb
 obtain ⟨E2, eE2⟩ : ∃ x, failS E1 (!C.2) 9 = x := ⟨_, rfl⟩
 rw [eE2] at wA
 obtain ⟨E3, eE3⟩ : ∃ x, failS E2 (decide (64 < C.1.bits)) 5 = x := ⟨_, rfl⟩
 rw [eE3] at wA
 have eSp : splF C.1.ip = (hiF C.1.ip, loF C.1.ip) := rfl
 obtain ⟨Hc, eHc⟩ : ∃ x, hiF C.1.ip = x := ⟨_, rfl⟩
 obtain ⟨Lc, eLc⟩ : ∃ x, loF C.1.ip = x := ⟨_, rfl⟩
 rw [eHc, eLc] at eSp
 rw [eHc] at wA
 obtain ⟨Tb, eTb⟩ : ∃ x, uintS b q E1 8 = x := ⟨_, rfl⟩
 rw [eTb] at wB
 obtain ⟨Ta, eTa⟩ : ∃ x, uintS b q E3 8 = x := ⟨_, rfl⟩
 rw [eTa] at wA
 obtain ⟨Ab, eAb⟩ : ∃ x, ofF 18338657682652659712 Tb.1 = x := ⟨_, rfl⟩
 rw [eAb] at wB
 obtain ⟨Aa, eAa⟩ : ∃ x, ofF Hc Ta.1 = x := ⟨_, rfl⟩
 rw [eAa] at wA
 have g1 : True := trivial
 have g2 : True := trivial
 have g3 : True := trivial
 have g4 : True := trivial
 have g5 : True := trivial
 have g6 : True := trivial
 have g7 : True := trivial
 have g8 : True := trivial
 have g9 : True := trivial
 refine meth_intro (wd := 1) (Q := mkQ LRe3) (by decide) tysOk (q_of LRe3_ok) mixed Try.func136 rfl _ (by show 6 + 1 <= _; decide) (flatF_nff (encIp_flat _)) (rfN_nf) ?_
 repeat' (first | (apply And.intro <;> intro hc <;> (first | exact Bool.noConfusion hc | exact zn1 hc | (simp only [zb0, ne_eq, not_true_eq_false] at hc <;> first | exact absurd rfl hc | exact zn1 hc | skip) | skip)) | (refine And.intro zp1 ?_) | (apply And.intro) | (refine Exists.intro b (And.intro ⟨rfl, rfl, by first | exact trivial | exact ⟨hr, by decide, by decide⟩⟩ ?_)) | (intro s hs; (first | (clear g1; have q : I = s := (hs.trans ((congrArg iidF (rd_adr k)).trans eI)).symm; clear hs; subst q) | (clear g2; have q : s = ((), q, E1) := hs.trans (congrArg (fun x => ((), q, x)) eE1); clear hs; subst q) | (clear g3; have h0 : E1 = 0 := (by assumption); have q : C = s := (hs.trans ((congrArg (fun l => forDec l id now) (toL_ctx l)).trans eC)).symm; clear hs; subst q) | (clear g4; have h0 : E1 = 0 := (by assumption); have q : s = ((), q, E2) := hs.trans (congrArg (fun x => ((), q, x)) eE2); clear hs; subst q) | (clear g5; have h0 : E1 = 0 := (by assumption); have q : s = ((), q, E3) := hs.trans (congrArg (fun x => ((), q, x)) eE3); clear hs; subst q) | (clear g6; have h0 : E1 = 0 := (by assumption); have q : s = (Hc, Lc) := (by (dsimp only at hs; refine hs.trans ((congrArg splF (ip_is (a := C.1.ip) (fun j hj => ?_))).trans eSp); (iterate 16 (rcases j with _ | j; exact rfl)); exact absurd hj (by omega))); clear hs; subst q) | (clear g7; have h0 : ¬ E1 = 0 := (by assumption); have q : Tb = s := (hs.trans eTb).symm; clear hs; subst q) | (clear g8; have h0 : ¬ E1 = 0 := (by assumption); have q : Ab = s := (hs.trans eAb).symm; clear hs; subst q) | (clear g7; have h0 : E1 = 0 := (by assumption); have q : Ta = s := (hs.trans eTa).symm; clear hs; subst q) | (clear g8; have h0 : E1 = 0 := (by assumption); have q : Aa = s := (hs.trans eAa).symm; clear hs; subst q) | skip)))
 all_goals try (first | exact rfl | exact Nat.le_of_ble_eq_true rfl | exact fun _ => rfl)
 all_goals first
  | exact Eq.mp (congrArg bytesL (toL_ctx l).symm) hl
  | (dsimp only
     refine Eq.mp (congrArg byteOk (ip_is (a := C.1.ip) (fun j hj => ?_)).symm) hdb
     iterate 16 (rcases j with _ | j; exact rfl)
     exact absurd hj (by omega))
  | ((first | rw [wA (by assumption)] | rw [wB (by assumption)])
     exact ⟨leF_e (leE_agg rfl (fun i hi => by (iterate 16 (rcases i with _ | i; exact leC_int rfl)); exact absurd hi (by omega))), rfN_le rfl rfl⟩)
  | skip
theorem radr_t2 (b : List Int) (q e : Int) (k : Adr) (l : List Ctx) (id now : Int) (hr : RdOk b q) (hl : bytesL l) : MethOk Try.prog 136 [cB.enc true, (cI .i64).enc 2, (cE eAdr).enc k, (cSl eCtx eCtx_sz).enc l, (cI .i64).enc id, (cI .i64).enc now] (rfN true b q e) (encIp (adrS b q e true 2 k (forDec l id now)).1) (rfN true b (adrS b q e true 2 k (forDec l id now)).2.1 (adrS b q e true 2 k (forDec l id now)).2.2) := by
 obtain ⟨W, hW⟩ : ∃ W, adrS b q e true 2 k (forDec l id now) = W := ⟨_, rfl⟩
 have d1 : ((2 : Int) == 3 && !(iidF k).2) = false := rfl
 have c1 : failS e false 5 = 0 -> adrE e true 2 k (forDec l id now) = failS (failS (failS e false 5) (!(forDec l id now).2) 9) (decide (64 < (forDec l id now).1.bits)) 5 := fun h => if_pos ⟨rfl, h⟩
 have c2 : failS e false 5 = 0 -> adrF e true 2 k (forDec l id now) = hiF (forDec l id now).1.ip := fun h => if_pos ⟨rfl, h⟩
 have c3 : ¬ failS e false 5 = 0 -> adrE e true 2 k (forDec l id now) = failS e false 5 := fun h => if_neg (fun x => h x.2)
 have c4 : ¬ failS e false 5 = 0 -> adrF e true 2 k (forDec l id now) = 18338657682652659712 := fun h => if_neg (fun x => h x.2)
 have wA : (failS e false 5) = 0 -> W = (ofF (hiF (forDec l id now).1.ip) (1099478073344 + (uintS b q (failS (failS (failS e false 5) (!(forDec l id now).2) 9) (decide (64 < (forDec l id now).1.bits)) 5) 2).1), (uintS b q (failS (failS (failS e false 5) (!(forDec l id now).2) 9) (decide (64 < (forDec l id now).1.bits)) 5) 2).2) := fun h => by
  rw [<- hW]
  unfold adrS
  rw [c1 h, c2 h]
  rfl
 have wB : ¬ (failS e false 5) = 0 -> W = (ofF 18338657682652659712 (1099478073344 + (uintS b q (failS e false 5) 2).1), (uintS b q (failS e false 5) 2).2) := fun h => by
  rw [<- hW]
  unfold adrS
  rw [c3 h, c4 h]
  rfl
 have hdb := dec_b (id := id) (now := now) hl
 rw [hW]
 clear hW d1 c1 c2 c3 c4
 obtain ⟨I, eI⟩ : ∃ x, iidF k = x := ⟨_, rfl⟩
 obtain ⟨E1, eE1⟩ : ∃ x, failS e false 5 = x := ⟨_, rfl⟩
 rw [eE1] at wA wB
 obtain ⟨C, eC⟩ : ∃ x, forDec l id now = x := ⟨_, rfl⟩
 rw [eC] at wA hdb
 obtain ⟨E2, eE2⟩ : ∃ x, failS E1 (!C.2) 9 = x := ⟨_, rfl⟩
 rw [eE2] at wA
 obtain ⟨E3, eE3⟩ : ∃ x, failS E2 (decide (64 < C.1.bits)) 5 = x := ⟨_, rfl⟩
 rw [eE3] at wA
 have eSp : splF C.1.ip = (hiF C.1.ip, loF C.1.ip) := rfl
 obtain ⟨Hc, eHc⟩ : ∃ x, hiF C.1.ip = x := ⟨_, rfl⟩
 obtain ⟨Lc, eLc⟩ : ∃ x, loF C.1.ip = x := ⟨_, rfl⟩
 rw [eHc, eLc] at eSp
 rw [eHc] at wA
 have vb := uintS_2 (q := q) (e := E1) hr.bl
 obtain ⟨Tb, eTb⟩ : ∃ x, uintS b q E1 2 = x := ⟨_, rfl⟩
 rw [eTb] at wB vb
 have ub : IntKind.u64.wrap (1099478073344 + Tb.1) = 1099478073344 + Tb.1 := IntWalk.u64_in _ (by omega)
 have va := uintS_2 (q := q) (e := E3) hr.bl
 obtain ⟨Ta, eTa⟩ : ∃ x, uintS b q E3 2 = x := ⟨_, rfl⟩
 rw [eTa] at wA va
 have ua : IntKind.u64.wrap (1099478073344 + Ta.1) = 1099478073344 + Ta.1 := IntWalk.u64_in _ (by omega)
 obtain ⟨Ab, eAb⟩ : ∃ x, ofF 18338657682652659712 (1099478073344 + Tb.1) = x := ⟨_, rfl⟩
 rw [eAb] at wB
 obtain ⟨Aa, eAa⟩ : ∃ x, ofF Hc (1099478073344 + Ta.1) = x := ⟨_, rfl⟩
 rw [eAa] at wA
 have g1 : True := trivial
 have g2 : True := trivial
 have g3 : True := trivial
 have g4 : True := trivial
 have g5 : True := trivial
 have g6 : True := trivial
 have g7 : True := trivial
 have g8 : True := trivial
 have g9 : True := trivial
 refine meth_intro (wd := 1) (Q := mkQ LRe3) (by decide) tysOk (q_of LRe3_ok) mixed Try.func136 rfl _ (by show 6 + 1 <= _; decide) (flatF_nff (encIp_flat _)) (rfN_nf) ?_
 repeat' (first | (apply And.intro <;> intro hc <;> (first | exact Bool.noConfusion hc | exact zn1 hc | (simp only [zb0, ne_eq, not_true_eq_false] at hc <;> first | exact absurd rfl hc | exact zn1 hc | skip) | skip)) | (refine And.intro zp1 ?_) | (apply And.intro) | (refine Exists.intro b (And.intro ⟨rfl, rfl, by first | exact trivial | exact ⟨hr, by decide, by decide⟩⟩ ?_)) | (intro s hs; (first | (clear g1; have q : I = s := (hs.trans ((congrArg iidF (rd_adr k)).trans eI)).symm; clear hs; subst q) | (clear g2; have q : s = ((), q, E1) := hs.trans (congrArg (fun x => ((), q, x)) eE1); clear hs; subst q) | (clear g3; have h0 : E1 = 0 := (by assumption); have q : C = s := (hs.trans ((congrArg (fun l => forDec l id now) (toL_ctx l)).trans eC)).symm; clear hs; subst q) | (clear g4; have h0 : E1 = 0 := (by assumption); have q : s = ((), q, E2) := hs.trans (congrArg (fun x => ((), q, x)) eE2); clear hs; subst q) | (clear g5; have h0 : E1 = 0 := (by assumption); have q : s = ((), q, E3) := hs.trans (congrArg (fun x => ((), q, x)) eE3); clear hs; subst q) | (clear g6; have h0 : E1 = 0 := (by assumption); have q : s = (Hc, Lc) := (by (dsimp only at hs; refine hs.trans ((congrArg splF (ip_is (a := C.1.ip) (fun j hj => ?_))).trans eSp); (iterate 16 (rcases j with _ | j; exact rfl)); exact absurd hj (by omega))); clear hs; subst q) | (clear g7; have h0 : ¬ E1 = 0 := (by assumption); have q : Tb = s := (hs.trans eTb).symm; clear hs; subst q) | (clear g8; have h0 : ¬ E1 = 0 := (by assumption); have q : Ab = s := (hs.trans ((congrArg (ofF 18338657682652659712) ub).trans eAb)).symm; clear hs; subst q) | (clear g7; have h0 : E1 = 0 := (by assumption); have q : Ta = s := (hs.trans eTa).symm; clear hs; subst q) | (clear g8; have h0 : E1 = 0 := (by assumption); have q : Aa = s := (hs.trans ((congrArg (ofF Hc) ua).trans eAa)).symm; clear hs; subst q) | skip)))
 all_goals try (first | exact rfl | exact Nat.le_of_ble_eq_true rfl | exact fun _ => rfl)
 all_goals first
  | exact Eq.mp (congrArg bytesL (toL_ctx l).symm) hl
  | (dsimp only
     refine Eq.mp (congrArg byteOk (ip_is (a := C.1.ip) (fun j hj => ?_)).symm) hdb
     iterate 16 (rcases j with _ | j; exact rfl)
     exact absurd hj (by omega))
  | ((first | rw [wA (by assumption)] | rw [wB (by assumption)])
     exact ⟨leF_e (leE_agg rfl (fun i hi => by (iterate 16 (rcases i with _ | i; exact leC_int rfl)); exact absurd hi (by omega))), rfN_le rfl rfl⟩)
  | skip
theorem radr_t3 (b : List Int) (q e : Int) (k : Adr) (l : List Ctx) (id now : Int) (hr : RdOk b q) (hl : bytesL l) : MethOk Try.prog 136 [cB.enc true, (cI .i64).enc 3, (cE eAdr).enc k, (cSl eCtx eCtx_sz).enc l, (cI .i64).enc id, (cI .i64).enc now] (rfN true b q e) (encIp (adrS b q e true 3 k (forDec l id now)).1) (rfN true b (adrS b q e true 3 k (forDec l id now)).2.1 (adrS b q e true 3 k (forDec l id now)).2.2) := by
 obtain ⟨W, hW⟩ : ∃ W, adrS b q e true 3 k (forDec l id now) = W := ⟨_, rfl⟩
 have d1 : ((3 : Int) == 3 && !(iidF k).2) = (!(iidF k).2) := rfl
 have c1 : failS e (!(iidF k).2) 5 = 0 -> adrE e true 3 k (forDec l id now) = failS (failS (failS e (!(iidF k).2) 5) (!(forDec l id now).2) 9) (decide (64 < (forDec l id now).1.bits)) 5 := fun h => if_pos ⟨rfl, h⟩
 have c2 : failS e (!(iidF k).2) 5 = 0 -> adrF e true 3 k (forDec l id now) = hiF (forDec l id now).1.ip := fun h => if_pos ⟨rfl, h⟩
 have c3 : ¬ failS e (!(iidF k).2) 5 = 0 -> adrE e true 3 k (forDec l id now) = failS e (!(iidF k).2) 5 := fun h => if_neg (fun x => h x.2)
 have c4 : ¬ failS e (!(iidF k).2) 5 = 0 -> adrF e true 3 k (forDec l id now) = 18338657682652659712 := fun h => if_neg (fun x => h x.2)
 have wA : (failS e (!(iidF k).2) 5) = 0 -> W = (ofF (hiF (forDec l id now).1.ip) (iidF k).1, q, (failS (failS (failS e (!(iidF k).2) 5) (!(forDec l id now).2) 9) (decide (64 < (forDec l id now).1.bits)) 5)) := fun h => by
  rw [<- hW]
  unfold adrS
  rw [c1 h, c2 h]
  rfl
 have wB : ¬ (failS e (!(iidF k).2) 5) = 0 -> W = (ofF 18338657682652659712 (iidF k).1, q, (failS e (!(iidF k).2) 5)) := fun h => by
  rw [<- hW]
  unfold adrS
  rw [c3 h, c4 h]
  rfl
 have hdb := dec_b (id := id) (now := now) hl
 rw [hW]
 clear hW d1 c1 c2 c3 c4
 obtain ⟨I, eI⟩ : ∃ x, iidF k = x := ⟨_, rfl⟩
 rw [eI] at wA wB
 obtain ⟨E1, eE1⟩ : ∃ x, failS e (!I.2) 5 = x := ⟨_, rfl⟩
 rw [eE1] at wA wB
 obtain ⟨C, eC⟩ : ∃ x, forDec l id now = x := ⟨_, rfl⟩
 rw [eC] at wA hdb
 obtain ⟨E2, eE2⟩ : ∃ x, failS E1 (!C.2) 9 = x := ⟨_, rfl⟩
 rw [eE2] at wA
 obtain ⟨E3, eE3⟩ : ∃ x, failS E2 (decide (64 < C.1.bits)) 5 = x := ⟨_, rfl⟩
 rw [eE3] at wA
 have eSp : splF C.1.ip = (hiF C.1.ip, loF C.1.ip) := rfl
 obtain ⟨Hc, eHc⟩ : ∃ x, hiF C.1.ip = x := ⟨_, rfl⟩
 obtain ⟨Lc, eLc⟩ : ∃ x, loF C.1.ip = x := ⟨_, rfl⟩
 rw [eHc, eLc] at eSp
 rw [eHc] at wA
 obtain ⟨Ab, eAb⟩ : ∃ x, ofF 18338657682652659712 I.1 = x := ⟨_, rfl⟩
 rw [eAb] at wB
 obtain ⟨Aa, eAa⟩ : ∃ x, ofF Hc I.1 = x := ⟨_, rfl⟩
 rw [eAa] at wA
 have g1 : True := trivial
 have g2 : True := trivial
 have g3 : True := trivial
 have g4 : True := trivial
 have g5 : True := trivial
 have g6 : True := trivial
 have g7 : True := trivial
 have g8 : True := trivial
 have g9 : True := trivial
 refine meth_intro (wd := 1) (Q := mkQ LRe3) (by decide) tysOk (q_of LRe3_ok) mixed Try.func136 rfl _ (by show 6 + 1 <= _; decide) (flatF_nff (encIp_flat _)) (rfN_nf) ?_
 repeat' (first | (apply And.intro <;> intro hc <;> (first | exact Bool.noConfusion hc | exact zn1 hc | (simp only [zb0, ne_eq, not_true_eq_false] at hc <;> first | exact absurd rfl hc | exact zn1 hc | skip) | skip)) | (refine And.intro zp1 ?_) | (apply And.intro) | (refine Exists.intro b (And.intro ⟨rfl, rfl, by first | exact trivial | exact ⟨hr, by decide, by decide⟩⟩ ?_)) | (intro s hs; (first | (clear g1; have q : I = s := (hs.trans ((congrArg iidF (rd_adr k)).trans eI)).symm; clear hs; subst q) | (clear g2; have q : s = ((), q, E1) := hs.trans (congrArg (fun x => ((), q, x)) eE1); clear hs; subst q) | (clear g3; have h0 : E1 = 0 := (by assumption); have q : C = s := (hs.trans ((congrArg (fun l => forDec l id now) (toL_ctx l)).trans eC)).symm; clear hs; subst q) | (clear g4; have h0 : E1 = 0 := (by assumption); have q : s = ((), q, E2) := hs.trans (congrArg (fun x => ((), q, x)) eE2); clear hs; subst q) | (clear g5; have h0 : E1 = 0 := (by assumption); have q : s = ((), q, E3) := hs.trans (congrArg (fun x => ((), q, x)) eE3); clear hs; subst q) | (clear g6; have h0 : E1 = 0 := (by assumption); have q : s = (Hc, Lc) := (by (dsimp only at hs; refine hs.trans ((congrArg splF (ip_is (a := C.1.ip) (fun j hj => ?_))).trans eSp); (iterate 16 (rcases j with _ | j; exact rfl)); exact absurd hj (by omega))); clear hs; subst q) | (clear g8; have h0 : ¬ E1 = 0 := (by assumption); have q : Ab = s := (hs.trans eAb).symm; clear hs; subst q) | (clear g8; have h0 : E1 = 0 := (by assumption); have q : Aa = s := (hs.trans eAa).symm; clear hs; subst q) | skip)))
 all_goals try (first | exact rfl | exact Nat.le_of_ble_eq_true rfl | exact fun _ => rfl)
 all_goals first
  | exact Eq.mp (congrArg bytesL (toL_ctx l).symm) hl
  | (dsimp only
     refine Eq.mp (congrArg byteOk (ip_is (a := C.1.ip) (fun j hj => ?_)).symm) hdb
     iterate 16 (rcases j with _ | j; exact rfl)
     exact absurd hj (by omega))
  | ((first | rw [wA (by assumption)] | rw [wB (by assumption)])
     exact ⟨leF_e (leE_agg rfl (fun i hi => by (iterate 16 (rcases i with _ | i; exact leC_int rfl)); exact absurd hi (by omega))), rfN_le rfl rfl⟩)
  | skip
theorem radr_f0 (b : List Int) (q e : Int) (k : Adr) (l : List Ctx) (id now : Int) (hr : RdOk b q) (hl : bytesL l) : MethOk Try.prog 136 [cB.enc false, (cI .i64).enc 0, (cE eAdr).enc k, (cSl eCtx eCtx_sz).enc l, (cI .i64).enc id, (cI .i64).enc now] (rfN true b q e) (encIp (adrS b q e false 0 k (forDec l id now)).1) (rfN true b (adrS b q e false 0 k (forDec l id now)).2.1 (adrS b q e false 0 k (forDec l id now)).2.2) := by
 obtain ⟨W, hW⟩ : ∃ W, adrS b q e false 0 k (forDec l id now) = W := ⟨_, rfl⟩
 have d1 : ((0 : Int) == 3 && !(iidF k).2) = false := rfl
 have wB : W = (ipOfL (takeS b q (failS e false 5) 16).1, (takeS b q (failS e false 5) 16).2) := hW.symm
 rw [hW]
 clear hW d1
 obtain ⟨I, eI⟩ : ∃ x, iidF k = x := ⟨_, rfl⟩
 obtain ⟨E1, eE1⟩ : ∃ x, failS e false 5 = x := ⟨_, rfl⟩
 rw [eE1] at wB
 have lb := take16 (e := E1) hr
 obtain ⟨Tb, eTb⟩ : ∃ x, takeS b q E1 16 = x := ⟨_, rfl⟩
 rw [eTb] at wB lb
 have g1 : True := trivial
 have g2 : True := trivial
 have g3 : True := trivial
 have g4 : True := trivial
 have g5 : True := trivial
 have g6 : True := trivial
 have g7 : True := trivial
 have g8 : True := trivial
 have g9 : True := trivial
 refine meth_intro (wd := 1) (Q := mkQ LRe3) (by decide) tysOk (q_of LRe3_ok) mixed Try.func136 rfl _ (by show 6 + 1 <= _; decide) (flatF_nff (encIp_flat _)) (rfN_nf) ?_
 repeat' (first | (apply And.intro <;> intro hc <;> (first | exact Bool.noConfusion hc | exact zn1 hc | (simp only [zb0, ne_eq, not_true_eq_false] at hc <;> first | exact absurd rfl hc | exact zn1 hc | skip) | skip)) | (refine And.intro zp1 ?_) | (apply And.intro) | (refine Exists.intro b (And.intro ⟨rfl, rfl, by first | exact trivial | exact ⟨hr, by decide, by decide⟩⟩ ?_)) | (intro s hs; (first | (clear g1; have q : I = s := (hs.trans ((congrArg iidF (rd_adr k)).trans eI)).symm; clear hs; subst q) | (clear g2; have q : s = ((), q, E1) := hs.trans (congrArg (fun x => ((), q, x)) eE1); clear hs; subst q) | (clear g7; have q : Tb = s := (hs.trans eTb).symm; clear hs; subst q) | skip)))
 all_goals try (first | exact rfl | exact Nat.le_of_ble_eq_true rfl | exact fun _ => rfl)
 all_goals first
  | exact Eq.mp (congrArg bytesL (toL_ctx l).symm) hl
  | (rw [wB]
     exact ⟨leF_e (leE_agg rfl (fun i hi => by (iterate 16 (rcases i with _ | i; exact leC_int (by rw [lb]; rfl))); exact absurd hi (by omega))), rfN_le rfl rfl⟩)
  | skip
theorem radr_f1 (b : List Int) (q e : Int) (k : Adr) (l : List Ctx) (id now : Int) (hr : RdOk b q) (hl : bytesL l) : MethOk Try.prog 136 [cB.enc false, (cI .i64).enc 1, (cE eAdr).enc k, (cSl eCtx eCtx_sz).enc l, (cI .i64).enc id, (cI .i64).enc now] (rfN true b q e) (encIp (adrS b q e false 1 k (forDec l id now)).1) (rfN true b (adrS b q e false 1 k (forDec l id now)).2.1 (adrS b q e false 1 k (forDec l id now)).2.2) := by
 obtain ⟨W, hW⟩ : ∃ W, adrS b q e false 1 k (forDec l id now) = W := ⟨_, rfl⟩
 have d1 : ((1 : Int) == 3 && !(iidF k).2) = false := rfl
 have wB : W = (ofF 18338657682652659712 (uintS b q (failS e false 5) 8).1, (uintS b q (failS e false 5) 8).2) := hW.symm
 rw [hW]
 clear hW d1
 obtain ⟨I, eI⟩ : ∃ x, iidF k = x := ⟨_, rfl⟩
 obtain ⟨E1, eE1⟩ : ∃ x, failS e false 5 = x := ⟨_, rfl⟩
 rw [eE1] at wB
 obtain ⟨Tb, eTb⟩ : ∃ x, uintS b q E1 8 = x := ⟨_, rfl⟩
 rw [eTb] at wB
 obtain ⟨Ab, eAb⟩ : ∃ x, ofF 18338657682652659712 Tb.1 = x := ⟨_, rfl⟩
 rw [eAb] at wB
 have g1 : True := trivial
 have g2 : True := trivial
 have g3 : True := trivial
 have g4 : True := trivial
 have g5 : True := trivial
 have g6 : True := trivial
 have g7 : True := trivial
 have g8 : True := trivial
 have g9 : True := trivial
 refine meth_intro (wd := 1) (Q := mkQ LRe3) (by decide) tysOk (q_of LRe3_ok) mixed Try.func136 rfl _ (by show 6 + 1 <= _; decide) (flatF_nff (encIp_flat _)) (rfN_nf) ?_
 repeat' (first | (apply And.intro <;> intro hc <;> (first | exact Bool.noConfusion hc | exact zn1 hc | (simp only [zb0, ne_eq, not_true_eq_false] at hc <;> first | exact absurd rfl hc | exact zn1 hc | skip) | skip)) | (refine And.intro zp1 ?_) | (apply And.intro) | (refine Exists.intro b (And.intro ⟨rfl, rfl, by first | exact trivial | exact ⟨hr, by decide, by decide⟩⟩ ?_)) | (intro s hs; (first | (clear g1; have q : I = s := (hs.trans ((congrArg iidF (rd_adr k)).trans eI)).symm; clear hs; subst q) | (clear g2; have q : s = ((), q, E1) := hs.trans (congrArg (fun x => ((), q, x)) eE1); clear hs; subst q) | (clear g7; have q : Tb = s := (hs.trans eTb).symm; clear hs; subst q) | (clear g8; have q : Ab = s := (hs.trans eAb).symm; clear hs; subst q) | skip)))
 all_goals try (first | exact rfl | exact Nat.le_of_ble_eq_true rfl | exact fun _ => rfl)
 all_goals first
  | exact Eq.mp (congrArg bytesL (toL_ctx l).symm) hl
  | (rw [wB]
     exact ⟨leF_e (leE_agg rfl (fun i hi => by (iterate 16 (rcases i with _ | i; exact leC_int rfl)); exact absurd hi (by omega))), rfN_le rfl rfl⟩)
  | skip
theorem radr_f2 (b : List Int) (q e : Int) (k : Adr) (l : List Ctx) (id now : Int) (hr : RdOk b q) (hl : bytesL l) : MethOk Try.prog 136 [cB.enc false, (cI .i64).enc 2, (cE eAdr).enc k, (cSl eCtx eCtx_sz).enc l, (cI .i64).enc id, (cI .i64).enc now] (rfN true b q e) (encIp (adrS b q e false 2 k (forDec l id now)).1) (rfN true b (adrS b q e false 2 k (forDec l id now)).2.1 (adrS b q e false 2 k (forDec l id now)).2.2) := by
 obtain ⟨W, hW⟩ : ∃ W, adrS b q e false 2 k (forDec l id now) = W := ⟨_, rfl⟩
 have d1 : ((2 : Int) == 3 && !(iidF k).2) = false := rfl
 have wB : W = (ofF 18338657682652659712 (1099478073344 + (uintS b q (failS e false 5) 2).1), (uintS b q (failS e false 5) 2).2) := hW.symm
 rw [hW]
 clear hW d1
 obtain ⟨I, eI⟩ : ∃ x, iidF k = x := ⟨_, rfl⟩
 obtain ⟨E1, eE1⟩ : ∃ x, failS e false 5 = x := ⟨_, rfl⟩
 rw [eE1] at wB
 have vb := uintS_2 (q := q) (e := E1) hr.bl
 obtain ⟨Tb, eTb⟩ : ∃ x, uintS b q E1 2 = x := ⟨_, rfl⟩
 rw [eTb] at wB vb
 have ub : IntKind.u64.wrap (1099478073344 + Tb.1) = 1099478073344 + Tb.1 := IntWalk.u64_in _ (by omega)
 obtain ⟨Ab, eAb⟩ : ∃ x, ofF 18338657682652659712 (1099478073344 + Tb.1) = x := ⟨_, rfl⟩
 rw [eAb] at wB
 have g1 : True := trivial
 have g2 : True := trivial
 have g3 : True := trivial
 have g4 : True := trivial
 have g5 : True := trivial
 have g6 : True := trivial
 have g7 : True := trivial
 have g8 : True := trivial
 have g9 : True := trivial
 refine meth_intro (wd := 1) (Q := mkQ LRe3) (by decide) tysOk (q_of LRe3_ok) mixed Try.func136 rfl _ (by show 6 + 1 <= _; decide) (flatF_nff (encIp_flat _)) (rfN_nf) ?_
 repeat' (first | (apply And.intro <;> intro hc <;> (first | exact Bool.noConfusion hc | exact zn1 hc | (simp only [zb0, ne_eq, not_true_eq_false] at hc <;> first | exact absurd rfl hc | exact zn1 hc | skip) | skip)) | (refine And.intro zp1 ?_) | (apply And.intro) | (refine Exists.intro b (And.intro ⟨rfl, rfl, by first | exact trivial | exact ⟨hr, by decide, by decide⟩⟩ ?_)) | (intro s hs; (first | (clear g1; have q : I = s := (hs.trans ((congrArg iidF (rd_adr k)).trans eI)).symm; clear hs; subst q) | (clear g2; have q : s = ((), q, E1) := hs.trans (congrArg (fun x => ((), q, x)) eE1); clear hs; subst q) | (clear g7; have q : Tb = s := (hs.trans eTb).symm; clear hs; subst q) | (clear g8; have q : Ab = s := (hs.trans ((congrArg (ofF 18338657682652659712) ub).trans eAb)).symm; clear hs; subst q) | skip)))
 all_goals try (first | exact rfl | exact Nat.le_of_ble_eq_true rfl | exact fun _ => rfl)
 all_goals first
  | exact Eq.mp (congrArg bytesL (toL_ctx l).symm) hl
  | (rw [wB]
     exact ⟨leF_e (leE_agg rfl (fun i hi => by (iterate 16 (rcases i with _ | i; exact leC_int rfl)); exact absurd hi (by omega))), rfN_le rfl rfl⟩)
  | skip
theorem radr_f3 (b : List Int) (q e : Int) (k : Adr) (l : List Ctx) (id now : Int) (hr : RdOk b q) (hl : bytesL l) : MethOk Try.prog 136 [cB.enc false, (cI .i64).enc 3, (cE eAdr).enc k, (cSl eCtx eCtx_sz).enc l, (cI .i64).enc id, (cI .i64).enc now] (rfN true b q e) (encIp (adrS b q e false 3 k (forDec l id now)).1) (rfN true b (adrS b q e false 3 k (forDec l id now)).2.1 (adrS b q e false 3 k (forDec l id now)).2.2) := by
 obtain ⟨W, hW⟩ : ∃ W, adrS b q e false 3 k (forDec l id now) = W := ⟨_, rfl⟩
 have d1 : ((3 : Int) == 3 && !(iidF k).2) = (!(iidF k).2) := rfl
 have wB : W = (ofF 18338657682652659712 (iidF k).1, q, (failS e (!(iidF k).2) 5)) := hW.symm
 rw [hW]
 clear hW d1
 obtain ⟨I, eI⟩ : ∃ x, iidF k = x := ⟨_, rfl⟩
 rw [eI] at wB
 obtain ⟨E1, eE1⟩ : ∃ x, failS e (!I.2) 5 = x := ⟨_, rfl⟩
 rw [eE1] at wB
 obtain ⟨Ab, eAb⟩ : ∃ x, ofF 18338657682652659712 I.1 = x := ⟨_, rfl⟩
 rw [eAb] at wB
 have g1 : True := trivial
 have g2 : True := trivial
 have g3 : True := trivial
 have g4 : True := trivial
 have g5 : True := trivial
 have g6 : True := trivial
 have g7 : True := trivial
 have g8 : True := trivial
 have g9 : True := trivial
 refine meth_intro (wd := 1) (Q := mkQ LRe3) (by decide) tysOk (q_of LRe3_ok) mixed Try.func136 rfl _ (by show 6 + 1 <= _; decide) (flatF_nff (encIp_flat _)) (rfN_nf) ?_
 repeat' (first | (apply And.intro <;> intro hc <;> (first | exact Bool.noConfusion hc | exact zn1 hc | (simp only [zb0, ne_eq, not_true_eq_false] at hc <;> first | exact absurd rfl hc | exact zn1 hc | skip) | skip)) | (refine And.intro zp1 ?_) | (apply And.intro) | (refine Exists.intro b (And.intro ⟨rfl, rfl, by first | exact trivial | exact ⟨hr, by decide, by decide⟩⟩ ?_)) | (intro s hs; (first | (clear g1; have q : I = s := (hs.trans ((congrArg iidF (rd_adr k)).trans eI)).symm; clear hs; subst q) | (clear g2; have q : s = ((), q, E1) := hs.trans (congrArg (fun x => ((), q, x)) eE1); clear hs; subst q) | (clear g8; have q : Ab = s := (hs.trans eAb).symm; clear hs; subst q) | skip)))
 all_goals try (first | exact rfl | exact Nat.le_of_ble_eq_true rfl | exact fun _ => rfl)
 all_goals first
  | exact Eq.mp (congrArg bytesL (toL_ctx l).symm) hl
  | (rw [wB]
     exact ⟨leF_e (leE_agg rfl (fun i hi => by (iterate 16 (rcases i with _ | i; exact leC_int rfl)); exact absurd hi (by omega))), rfN_le rfl rfl⟩)
  | skip
theorem take_l {b : List Int} {q e : Int} (hr : RdOk b q) (n : Nat) (hn : n <= 16) : (takeS b q e (n : Int)).1.length = n := by
 have h1 := hr.lo
 have h2 := hr.hi
 have h3 := hr.len
 have w0 : IntKind.i64.wrap ((b.length : Int) - q) = b.length - q := IntWalk.i64_in _ (by omega)
 unfold takeS
 rw [w0]
 split
 . rename_i g
   dsimp only
   rw [List.length_take, List.length_drop]
   have : ¬ (b.length : Int) - q < n := fun h => by
    unfold failS at g
    rw [decide_eq_true h] at g
    split at g
    . cases g
    . rename_i g2; exact g2 ⟨rfl, g⟩
   omega
 . exact (List.length_replicate ..).trans (by omega)
def grpS (b : List Int) (q e m : Int) : (Fin 16 -> Int) × Int × Int :=
 if m = 0 then (ipOfL (takeS b q e 16).1, (takeS b q e 16).2) else if m = 1 then (grpV 6 (takeS b q e 6).1, (takeS b q e 6).2)
 else if m = 2 then (grpV 4 (takeS b q e 4).1, (takeS b q e 4).2) else (grpV 1 (takeS b q e 1).1, (takeS b q e 1).2)
theorem rgrp_0 (b : List Int) (q e : Int) (hr : RdOk b q) : MethOk Try.prog 137 [(cI .i64).enc 0] (rfN true b q e) (encIp (grpS b q e 0).1) (rfN true b (grpS b q e 0).2.1 (grpS b q e 0).2.2) := by
 have eW : grpS b q e 0 = (ipOfL (takeS b q e 16).1, (takeS b q e 16).2) := rfl
 rw [eW]
 have hl := take_l (e := e) hr 16 (by decide)
 obtain ⟨T, eT⟩ : ∃ x, takeS b q e 16 = x := ⟨_, rfl⟩
 have hl' : T.1.length = 16 := by rw [<- eT]; exact hl
 rw [eT]
 have g1 : True := trivial
 refine meth_intro (wd := 1) (Q := mkQ LRe3) (by decide) tysOk (q_of LRe3_ok) mixed Try.func137 rfl _ (by show 1 + 1 <= _; decide) (flatF_nff (encIp_flat _)) (rfN_nf) ?_
 repeat' (first | (apply And.intro <;> intro hc <;> (first | exact Bool.noConfusion hc | exact zn1 hc | (simp only [zb0, ne_eq, not_true_eq_false] at hc <;> first | exact absurd rfl hc | exact zn1 hc | skip) | skip)) | (refine And.intro zp1 ?_) | (apply And.intro) | (refine Exists.intro b (And.intro ⟨rfl, rfl, by first | exact trivial | exact ⟨hr, by decide, by decide⟩⟩ ?_)) | (intro s hs; (first | (clear g1; have q : T = s := (hs.trans eT).symm; clear hs; subst q) | skip)))
 all_goals try (first | exact rfl | exact Nat.le_of_ble_eq_true rfl | exact fun _ => rfl | (show _ <= T.1.length; rw [hl']; decide) | (show _ < T.1.length; rw [hl']; decide) | (show (0 : Int) <= _; decide) | (show _ < (T.1.length : Int); rw [hl']; decide) | (show _ <= (T.1.length : Int); rw [hl']; decide))
 all_goals first
  | exact ⟨leF_e (leE_agg rfl (fun i hi => by (iterate 16 (rcases i with _ | i; first | exact leC_int rfl | exact leC_int (by rw [hl']; rfl))); exact absurd hi (by omega))), rfN_le rfl rfl⟩
  | skip
theorem rgrp_1 (b : List Int) (q e : Int) (hr : RdOk b q) : MethOk Try.prog 137 [(cI .i64).enc 1] (rfN true b q e) (encIp (grpS b q e 1).1) (rfN true b (grpS b q e 1).2.1 (grpS b q e 1).2.2) := by
 have eW : grpS b q e 1 = (grpV 6 (takeS b q e 6).1, (takeS b q e 6).2) := rfl
 rw [eW]
 have hl := take_l (e := e) hr 6 (by decide)
 obtain ⟨T, eT⟩ : ∃ x, takeS b q e 6 = x := ⟨_, rfl⟩
 have hl' : T.1.length = 6 := by rw [<- eT]; exact hl
 rw [eT]
 have g1 : True := trivial
 refine meth_intro (wd := 1) (Q := mkQ LRe3) (by decide) tysOk (q_of LRe3_ok) mixed Try.func137 rfl _ (by show 1 + 1 <= _; decide) (flatF_nff (encIp_flat _)) (rfN_nf) ?_
 repeat' (first | (apply And.intro <;> intro hc <;> (first | exact Bool.noConfusion hc | exact zn1 hc | (simp only [zb0, ne_eq, not_true_eq_false] at hc <;> first | exact absurd rfl hc | exact zn1 hc | skip) | skip)) | (refine And.intro zp1 ?_) | (apply And.intro) | (refine Exists.intro b (And.intro ⟨rfl, rfl, by first | exact trivial | exact ⟨hr, by decide, by decide⟩⟩ ?_)) | (intro s hs; (first | (clear g1; have q : T = s := (hs.trans eT).symm; clear hs; subst q) | skip)))
 all_goals try (first | exact rfl | exact Nat.le_of_ble_eq_true rfl | exact fun _ => rfl | (show _ <= T.1.length; rw [hl']; decide) | (show _ < T.1.length; rw [hl']; decide) | (show (0 : Int) <= _; decide) | (show _ < (T.1.length : Int); rw [hl']; decide) | (show _ <= (T.1.length : Int); rw [hl']; decide))
 all_goals first
  | exact ⟨leF_e (leE_agg rfl (fun i hi => by (iterate 16 (rcases i with _ | i; first | exact leC_int rfl | exact leC_int (by rw [hl']; rfl))); exact absurd hi (by omega))), rfN_le rfl rfl⟩
  | skip
theorem rgrp_2 (b : List Int) (q e : Int) (hr : RdOk b q) : MethOk Try.prog 137 [(cI .i64).enc 2] (rfN true b q e) (encIp (grpS b q e 2).1) (rfN true b (grpS b q e 2).2.1 (grpS b q e 2).2.2) := by
 have eW : grpS b q e 2 = (grpV 4 (takeS b q e 4).1, (takeS b q e 4).2) := rfl
 rw [eW]
 have hl := take_l (e := e) hr 4 (by decide)
 obtain ⟨T, eT⟩ : ∃ x, takeS b q e 4 = x := ⟨_, rfl⟩
 have hl' : T.1.length = 4 := by rw [<- eT]; exact hl
 rw [eT]
 have g1 : True := trivial
 refine meth_intro (wd := 1) (Q := mkQ LRe3) (by decide) tysOk (q_of LRe3_ok) mixed Try.func137 rfl _ (by show 1 + 1 <= _; decide) (flatF_nff (encIp_flat _)) (rfN_nf) ?_
 repeat' (first | (apply And.intro <;> intro hc <;> (first | exact Bool.noConfusion hc | exact zn1 hc | (simp only [zb0, ne_eq, not_true_eq_false] at hc <;> first | exact absurd rfl hc | exact zn1 hc | skip) | skip)) | (refine And.intro zp1 ?_) | (apply And.intro) | (refine Exists.intro b (And.intro ⟨rfl, rfl, by first | exact trivial | exact ⟨hr, by decide, by decide⟩⟩ ?_)) | (intro s hs; (first | (clear g1; have q : T = s := (hs.trans eT).symm; clear hs; subst q) | skip)))
 all_goals try (first | exact rfl | exact Nat.le_of_ble_eq_true rfl | exact fun _ => rfl | (show _ <= T.1.length; rw [hl']; decide) | (show _ < T.1.length; rw [hl']; decide) | (show (0 : Int) <= _; decide) | (show _ < (T.1.length : Int); rw [hl']; decide) | (show _ <= (T.1.length : Int); rw [hl']; decide))
 all_goals first
  | exact ⟨leF_e (leE_agg rfl (fun i hi => by (iterate 16 (rcases i with _ | i; first | exact leC_int rfl | exact leC_int (by rw [hl']; rfl))); exact absurd hi (by omega))), rfN_le rfl rfl⟩
  | skip
theorem rgrp_3 (b : List Int) (q e : Int) (hr : RdOk b q) : MethOk Try.prog 137 [(cI .i64).enc 3] (rfN true b q e) (encIp (grpS b q e 3).1) (rfN true b (grpS b q e 3).2.1 (grpS b q e 3).2.2) := by
 have eW : grpS b q e 3 = (grpV 1 (takeS b q e 1).1, (takeS b q e 1).2) := rfl
 rw [eW]
 have hl := take_l (e := e) hr 1 (by decide)
 obtain ⟨T, eT⟩ : ∃ x, takeS b q e 1 = x := ⟨_, rfl⟩
 have hl' : T.1.length = 1 := by rw [<- eT]; exact hl
 rw [eT]
 have g1 : True := trivial
 refine meth_intro (wd := 1) (Q := mkQ LRe3) (by decide) tysOk (q_of LRe3_ok) mixed Try.func137 rfl _ (by show 1 + 1 <= _; decide) (flatF_nff (encIp_flat _)) (rfN_nf) ?_
 repeat' (first | (apply And.intro <;> intro hc <;> (first | exact Bool.noConfusion hc | exact zn1 hc | (simp only [zb0, ne_eq, not_true_eq_false] at hc <;> first | exact absurd rfl hc | exact zn1 hc | skip) | skip)) | (refine And.intro zp1 ?_) | (apply And.intro) | (refine Exists.intro b (And.intro ⟨rfl, rfl, by first | exact trivial | exact ⟨hr, by decide, by decide⟩⟩ ?_)) | (intro s hs; (first | (clear g1; have q : T = s := (hs.trans eT).symm; clear hs; subst q) | skip)))
 all_goals try (first | exact rfl | exact Nat.le_of_ble_eq_true rfl | exact fun _ => rfl | (show _ <= T.1.length; rw [hl']; decide) | (show _ < T.1.length; rw [hl']; decide) | (show (0 : Int) <= _; decide) | (show _ < (T.1.length : Int); rw [hl']; decide) | (show _ <= (T.1.length : Int); rw [hl']; decide))
 all_goals first
  | exact ⟨leF_e (leE_agg rfl (fun i hi => by (iterate 16 (rcases i with _ | i; first | exact leC_int rfl | exact leC_int (by rw [hl']; rfl))); exact absurd hi (by omega))), rfN_le rfl rfl⟩
  | skip
theorem rgrpR_ok (b : List Int) (q e m : Int) (hr : RdOk b q) (hm : 0 <= m /\ m <= 3) : MethOk Try.prog 137 [(cI .i64).enc m] (rfN true b q e) (encIp (grpS b q e m).1) (rfN true b (grpS b q e m).2.1 (grpS b q e m).2.2) := by
 have h : m = 0 \/ m = 1 \/ m = 2 \/ m = 3 := by omega
 rcases h with rfl | rfl | rfl | rfl
 . exact rgrp_0 b q e hr
 . exact rgrp_1 b q e hr
 . exact rgrp_2 b q e hr
 . exact rgrp_3 b q e hr
theorem radrR_ok (b : List Int) (q e : Int) (ctx : Bool) (m : Int) (k : Adr) (l : List Ctx) (id now : Int) (hr : RdOk b q) (hl : bytesL l) (hm : 0 <= m /\ m <= 3) : MethOk Try.prog 136 [cB.enc ctx, (cI .i64).enc m, (cE eAdr).enc k, (cSl eCtx eCtx_sz).enc l, (cI .i64).enc id, (cI .i64).enc now] (rfN true b q e) (encIp (adrS b q e ctx m k (forDec l id now)).1) (rfN true b (adrS b q e ctx m k (forDec l id now)).2.1 (adrS b q e ctx m k (forDec l id now)).2.2) := by
 have h : m = 0 \/ m = 1 \/ m = 2 \/ m = 3 := by omega
 cases ctx with
 | true =>
   rcases h with rfl | rfl | rfl | rfl
   . exact radr_t0 b q e k l id now hr hl
   . exact radr_t1 b q e k l id now hr hl
   . exact radr_t2 b q e k l id now hr hl
   . exact radr_t3 b q e k l id now hr hl
 | false =>
   rcases h with rfl | rfl | rfl | rfl
   . exact radr_f0 b q e k l id now hr hl
   . exact radr_f1 b q e k l id now hr hl
   . exact radr_f2 b q e k l id now hr hl
   . exact radr_f3 b q e k l id now hr hl
abbrev radrA : AC (Bool × Int × Adr × List Ctx × Int × Int × Unit) := AC.cons cB (AC.cons (cI .i64) (AC.cons (cE eAdr) (AC.cons (cSl eCtx eCtx_sz) (AC.cons (cI .i64) (AC.cons (cI .i64) AC.nil)))))
abbrev radrE : Entry := rfE false radrA (fun b q e a => RdOk b q /\ bytesL a.2.2.2.1 /\ 0 <= a.2.1 /\ a.2.1 <= 3) (fun b q e a => adrS b q e a.1 a.2.1 a.2.2.1 (forDec a.2.2.2.1 a.2.2.2.2.1 a.2.2.2.2.2.1)) encIp
abbrev rgrpSE : Entry := rfE false (AC.cons (cI .i64) AC.nil) (fun b q e a => RdOk b q /\ 0 <= a.1 /\ a.1 <= 3) (fun b q e a => grpS b q e a.1) encIp
def LRe4 : CsL := (136, some radrE) :: (137, some rgrpSE) :: (91, some (pureE chkA (fun a => bytesL a.2.2.1) (fun a => checkF a.1 a.2.1 a.2.2.1 a.2.2.2.1) (cI .i64).enc)) :: LRe3
theorem LRe4_ok : AllOk Try.prog LRe4 := ⟨rfE_ok ⟨_, Try.func136, rfl, by kernel_rfl⟩ (fun _ r => encIp_flat r) fun b q e a h => radrR_ok b q e a.1 a.2.1 a.2.2.1 a.2.2.2.1 a.2.2.2.2.1 a.2.2.2.2.2.1 h.1 h.2.1 h.2.2, rfE_ok ⟨_, Try.func137, rfl, by kernel_rfl⟩ (fun _ r => encIp_flat r) fun b q e a h => rgrpR_ok b q e a.1 h.1 h.2, pureE_ok ⟨_, Try.func91, rfl, by kernel_rfl⟩ fun a h => rready_ok a.1 a.2.1 a.2.2.1 a.2.2.2.1 h, LRe3_ok⟩
structure J (R : RD Hdr) (e : Int) (rest : RD Hdr) : Prop where
 ok : e = 0 -> R = rest
 err : e ≠ 0 -> R.1.2 = e
section
variable {R : RD Hdr} {b : List Int} {e q : Int}
theorem J_num {n : Int} {K : Int -> Int -> RD Hdr} (h : J R e (thenD (numF b q n) zeroH K)) : J R (uintS b q e n).2.2 (K (uintS b q e n).1 (uintS b q e n).2.1) := by
 unfold uintS
 by_cases he : e = 0
 . rw [if_pos he]
   have h1 := h.ok he
   unfold thenD at h1
   refine ⟨fun h2 => ?_, fun h2 => ?_⟩
   . rw [if_pos h2] at h1; exact h1
   . rw [if_neg h2] at h1; rw [h1]
 . rw [if_neg he]
   exact ⟨fun h2 => absurd h2 he, fun _ => h.err he⟩
theorem J_fail {bad : Bool} {c : Int} {z : Hdr} {q : Int} {rest : RD Hdr} (hc : c ≠ 0) (h : J R e (if bad = true then ((z, c), q) else rest)) : J R (failS e bad c) rest := by
 unfold failS
 by_cases he : e = 0
 . have h1 := h.ok he
   cases hb : bad with
   | true =>
     rw [hb, if_pos rfl] at h1
     rw [if_pos ⟨rfl, he⟩]
     exact ⟨fun h2 => absurd h2 hc, fun _ => by rw [h1]⟩
   | false =>
     rw [hb, if_neg (by decide)] at h1
     rw [if_neg (fun x => Bool.noConfusion x.1)]
     exact ⟨fun _ => h1, fun h2 => absurd he h2⟩
 . rw [if_neg (fun x => he x.2)]
   exact ⟨fun h2 => absurd h2 he, fun _ => h.err he⟩
theorem J_if {c : Prop} [Decidable c] {x y : RD Hdr} (h : J R e (if c then x else y)) : (c -> J R e x) /\ (¬ c -> J R e y) := by
 refine ⟨fun hc => ?_, fun hc => ?_⟩
 . rw [if_pos hc] at h; exact h
 . rw [if_neg hc] at h; exact h
end
theorem thenD_assoc {α β γ : Type} {x : RD α} {z : β} {z' : γ} {f : α -> Int -> RD β} {g : β -> Int -> RD γ} : thenD (thenD x z f) z' g = thenD x z' fun v q => thenD (f v q) z' g := by
 unfold thenD
 by_cases h : x.1.2 = 0
 . rw [if_pos h, if_pos h]
 . rw [if_neg h, if_neg h]
   exact (if_neg h).symm
theorem thenD_if {α β : Type} {c : Prop} [Decidable c] {x y : RD α} {z : β} {f : α -> Int -> RD β} : thenD (if c then x else y) z f = if c then thenD x z f else thenD y z f := by
 split <;> rfl
theorem thenD_5 {α β : Type} {v : α} {q : Int} {z : β} {f : α -> Int -> RD β} : thenD ((v, 5), q) z f = ((z, 5), q) := if_neg (show ¬ (5 : Int) = 0 by decide)
section
variable (b : List Int) (f t : Adr) (l : List Ctx) (now : Int)
def K2 (y ids : Int) (h : Hdr) (q : Int) : RD Hdr := thenD (dstD b y ids t l now q) zeroH fun dst q => (({ h with dst := dst }, 0), q)
def K1 (y ids : Int) (h : Hdr) (q : Int) : RD Hdr := thenD (srcD b y ids f l now q) zeroH fun src q => K2 b t l now y ids { h with src := src } q
def KH (x y ids c fl nx q : Int) : RD Hdr := thenD (if x % 4 = 0 then numF b q 1 else ((hopV (x % 4), 0), q)) zeroH fun hp q => K1 b f t l now y ids ⟨c, fl, nx, hp, zeroA, zeroA, 0, 0⟩ q
def KN (x y ids c fl q : Int) : RD Hdr := thenD (if x / 4 % 2 = 0 then numF b q 1 else ((17, 0), q)) zeroH fun nx q => if x / 4 % 2 = 0 /\ nx = 17 then ((zeroH, 5), q) else KH b f t l now x y ids c fl nx q
def KL (x y ids c fl q : Int) : RD Hdr := if 1048575 < fl then ((zeroH, 5), q) else KN b f t l now x y ids c fl q
def K0 (x y ids q : Int) : RD Hdr :=
 thenD (if x / 8 % 4 = 0 \/ x / 8 % 4 = 2 then numF b q 1 else ((0, 0), q)) zeroH fun c q =>
 thenD (if x / 8 % 4 = 0 \/ x / 8 % 4 = 1 then numF b q 3 else ((0, 0), q)) zeroH fun fl q => KL b f t l now x y ids c fl q
def KI (x y q : Int) : RD Hdr := if 128 <= y then thenD (numF b q 1) zeroH fun i q => K0 b f t l now x y i q else K0 b f t l now x y 0 q
theorem read_K : readD b f t l now = thenD (numF b 0 1) zeroH fun x q => if x < 96 \/ 127 < x then ((zeroH, 5), q) else thenD (numF b q 1) zeroH fun y q => if badY y = true then ((zeroH, 5), q) else KI b f t l now x y q := by
 have hK : ∀ x y i q, thenD (((x, y, i), 0), q) zeroH (fun (s : I3) q => thenD (fieldsD b s.1 q) zeroH fun h q => thenD (srcD b s.2.1 s.2.2 f l now q) zeroH fun src q => thenD (dstD b s.2.1 s.2.2 t l now q) zeroH fun dst q => (({ h with src := src, dst := dst }, 0), q)) = K0 b f t l now x y i q := by
  intro x y i q
  rw [thenD_ok]
  unfold fieldsD K0 KL KN KH K1 K2
  simp only [thenD_assoc, thenD_if, thenD_5, thenD_ok]
 unfold readD startF KI
 simp only [thenD_assoc, thenD_if, thenD_5, hK]
end
end Go.Proofs.Ytjknkfjhcapocaa.AX
