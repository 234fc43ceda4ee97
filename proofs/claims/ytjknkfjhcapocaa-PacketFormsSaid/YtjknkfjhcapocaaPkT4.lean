/- Layer 13 by AX2: Decode, Forward, Same of the reference. -/
import Derived.Test.YtjknkfjhcapocaaPkT3
namespace Go.Proofs.Ytjknkfjhcapocaa.AX
open Go.RowKit
set_option linter.unusedVariables false
set_option linter.unusedSimpArgs false
set_option maxHeartbeats 8000000 in
set_option maxRecDepth 20000 in
theorem rdecode_ok (b : List Int) (hb : BL b) (hl : b.length ≤ 140737488355328) : PureOk Try.prog 71 [(cSl eB eB_sz).enc b] (encPE (rdecF b)) := by
  obtain ⟨P, eP⟩ : ∃ P, pkF b = P := ⟨_, rfl⟩
  obtain ⟨R, eR⟩ : ∃ R, rsumB b = R := ⟨_, rfl⟩
  have hR : 0 ≤ R ∧ R < 65536 := by
    rw [← eR]
    unfold rsumB
    split
    · exact u16r' _
    · omega
  obtain ⟨W, eW⟩ : ∃ W, rdecF b = W := ⟨_, rfl⟩
  rw [eW]
  have hP : 40 ≤ b.length → b.length ≤ 1280 → PkW P ∧ P.2.length ≤ 1280 := fun h1 h2 => by
    rw [← eP]
    refine ⟨pkF_w hb h1, ?_⟩
    rw [pkF_pay]
    split
    · rw [List.length_drop]; omega
    · rw [List.length_drop]; omega
  unfold rdecF at eW
  rw [eP, eR] at eW
  have hn : P.1.nxt = b.getD 6 default := by rw [← eP]; exact pkF_nxt b
  refine pure_intro (wd := 1) (Q := mkQ LRp5) (by decide) tysOk (q_of LRp5_ok) mixed Try.func71 rfl _ (by show 1 ≤ _; decide) _ ?_
  repeat' (first | (apply And.intro <;> intro hc <;> (first | exact Bool.noConfusion hc | (simp only [decide_eq_true_eq, decide_eq_false_iff_not, Bool.not_eq_true', Bool.not_eq_false', beq_iff_eq, beq_eq_false_iff_ne, bne_iff_ne, bne_eq_false_iff_eq, Bool.true_eq_false, Bool.false_eq_true, ne_eq, not_true_eq_false] at hc <;> first | exact absurd rfl hc | skip) | skip)) | (refine And.intro (by first | exact trivial | decide | omega | (dsimp only; omega) | exact fun _ _ => rfl | exact ⟨by assumption, by first | exact trivial | decide | omega | (dsimp only; omega)⟩) ?_) | (apply And.intro) | (intro s hs; (first | (have q : s = (P, R) := (by (rw [hs]; dsimp only; rw [toL_b, eP, eR])); clear hs; subst q) | (have q : s = validP P := hs.trans (congrArg validP (pk_eq P _)); clear hs; subst q) | (have q : s = sumP P := hs.trans (congrArg sumP (pk_eq P _)); clear hs; subst q) | (have hE : s = encB P R := hs.trans (congrArg (fun x => encB x R) (pk_eq P _)); clear hs) | (have hS := hs; dsimp only at hS; rw [toL_b0, toL_b] at hS; clear hs) | skip)))
  all_goals
    try (have h6 : b.getD 6 default = 17 := by assumption)
    try (have h6 : ¬ b.getD 6 default = 17 := by assumption)
  all_goals first
    | (dsimp only; rw [toL_b]; exact hb)
    | (dsimp only; rw [toL_b]; omega)
    | exact rfl
    | exact Eq.mp (congrArg PkW (pk_eq P _).symm) (hP (by omega) (by omega)).1
    | (show (toL eB _ _).length ≤ _; rw [toL_len]; have := (hP (by omega) (by omega)).2; omega)
    | (have hq := encB_len P R; have hz := (hP (by omega) (by omega)).2; dsimp only; rw [toL_b0, hE]; unfold sizeP at hq; split at hq <;> omega)
    | exact hR.1
    | exact hR.2
    | (dsimp only; rw [toL_b]; intro h; omega)
    | (have e : W = (pk0, 3) := by rw [← eW, if_pos (by omega)]
       rw [e]
       refine Done.mk (leF_tup ⟨leE_tail rfl (fun j hj => ?_) (leC_nils_sl rfl), leC_int rfl, trivial⟩)
       iterate 38 (rcases j with _ | j; exact leC_int rfl)
       exact absurd hj (by show ¬ _ < 38; omega))
    | (have e : W = (pk0, 4) := by rw [← eW, if_neg (by omega), if_pos (by omega)]
       rw [e]
       refine Done.mk (leF_tup ⟨leE_tail rfl (fun j hj => ?_) (leC_nils_sl rfl), leC_int rfl, trivial⟩)
       iterate 38 (rcases j with _ | j; exact leC_int rfl)
       exact absurd hj (by show ¬ _ < 38; omega))
    | (have hv : validP P = false := by assumption
       have e : W = (pk0, 5) := by rw [← eW, if_neg (by omega), if_neg (by omega), if_pos (.inl hv)]
       rw [e]
       refine Done.mk (leF_tup ⟨leE_tail rfl (fun j hj => ?_) (leC_nils_sl rfl), leC_int rfl, trivial⟩)
       iterate 38 (rcases j with _ | j; exact leC_int rfl)
       exact absurd hj (by show ¬ _ < 38; omega))
    | (have hv := of_decide_eq_false (hS.symm.trans (by assumption))
       rw [hE] at hv
       have e : W = (pk0, 5) := by rw [← eW, if_neg (by omega), if_neg (by omega), if_pos (.inr hv)]
       rw [e]
       refine Done.mk (leF_tup ⟨leE_tail rfl (fun j hj => ?_) (leC_nils_sl rfl), leC_int rfl, trivial⟩)
       iterate 38 (rcases j with _ | j; exact leC_int rfl)
       exact absurd hj (by show ¬ _ < 38; omega))
    | (have hv := of_decide_eq_true (hS.symm.trans (by assumption))
       rw [hE] at hv
       have hvv : validP P = true := by assumption
       have n5 : ¬ (validP P = false ∨ encB P R ≠ b) := fun h => h.elim (fun h => Bool.noConfusion (hvv.symm.trans h)) (fun h => h hv)
       first
         | (have e : W = (pk0, 6) := by rw [← eW, if_neg (by omega), if_neg (by omega), if_neg n5, if_pos ⟨by omega, by assumption⟩]
            rw [e]
            refine Done.mk (leF_tup ⟨leE_tail rfl (fun j hj => ?_) (leC_nils_sl rfl), leC_int rfl, trivial⟩)
            iterate 38 (rcases j with _ | j; exact leC_int rfl)
            exact absurd hj (by show ¬ _ < 38; omega))
         | (have e : W = (P, 0) := by rw [← eW, if_neg (by omega), if_neg (by omega), if_neg n5, if_neg (fun h => by first | exact h.2 (by assumption) | omega)]
            rw [e]
            refine Done.mk (leF_tup ⟨leE_tail rfl (fun j hj => ?_) (leC_sl (fun _ => rfl) rfl rfl fun i _ j _ => leC_int rfl), leC_int rfl, trivial⟩)
            iterate 38 (rcases j with _ | j; exact leC_int rfl)
            exact absurd hj (by show ¬ _ < 38; omega)))
    | skip
abbrev rdecE : Entry := decE
def LRp6 : CsL := (71, some decE) :: LRp5
theorem LRp6_ok : AllOk Try.prog LRp6 := ⟨pureE_ok ⟨_, Try.func71, rfl, by kernel_rfl⟩ fun a h => (rdec_eq h.1) ▸ rdecode_ok a.1 h.1 h.2, LRp5_ok⟩
end Go.Proofs.Ytjknkfjhcapocaa.AX
