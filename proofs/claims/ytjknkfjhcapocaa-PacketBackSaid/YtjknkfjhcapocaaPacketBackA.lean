/- PacketBack, by AX2: the law returns true. -/
import Derived.Test.YtjknkfjhcapocaaPkU
namespace Go.Proofs.Ytjknkfjhcapocaa.AX
open Go.RowKit
set_option linter.unusedVariables false
set_option linter.unusedSimpArgs false
set_option maxHeartbeats 4000000 in
set_option maxRecDepth 20000 in
theorem back_ok (n : Nat) (l : List Int) (hl : rngL l) : PureOk Try.prog 5 [.e (.c (.sl true n 1 (rI l)))] (.e (.c (.bool true))) := by
  refine pure_intro (wd := 1) (Q := mkQ LWp) (by decide) tysOk (q_of LWp_ok) mixed Try.func5 rfl _ (by show 1 ≤ _; decide) _ ?_
  repeat' (first | (apply And.intro <;> intro hc <;> (first | exact Bool.noConfusion hc | (simp only [decide_eq_true_eq, decide_eq_false_iff_not, Bool.not_eq_true', Bool.not_eq_false', beq_iff_eq, beq_eq_false_iff_ne, bne_iff_ne, bne_eq_false_iff_eq, Bool.true_eq_false, Bool.false_eq_true, ne_eq, not_true_eq_false] at hc <;> first | exact absurd rfl hc | skip) | skip)) | (refine And.intro (by first | exact trivial | decide | omega | (dsimp only; omega) | exact fun _ _ => rfl | exact ⟨by assumption, by first | exact trivial | decide | omega | (dsimp only; omega)⟩) ?_) | (apply And.intro) | (intro s hs; (first | (have q : s = validP r := hs.trans (congrArg validP (pk_eq r _)); clear hs; subst q) | (have q : s = sizeP r := hs.trans (congrArg sizeP (pk_eq r _)); clear hs; subst q) | (have q : s = encR r := hs.trans (congrArg encR (pk_eq r _)); clear hs; rw [hE] at q; subst q) | (have q : s = (r, 0) := (by (refine hs.trans ?_; show decF (toL eB L.length fun k j => rowF eB L (0 + k) j) = _; rw [toL_b0]; exact hD)); clear hs; subst q) | (have q : s = true := hs; clear hs; subst q) | (rename PkM _ => hm; rename Pkt => r; obtain ⟨L, hE, hLn, hLb, hD⟩ : ∃ L, encR r = some L ∧ (L.length : Int) = sizeP r ∧ BL L ∧ decF L = (r, 0) := ⟨encB r (sumP r), if_pos hm.v, encB_len _ _, encB_BL hm.w _, enc_dec hm⟩))))
  · exact ⟨l, rfl, hl⟩
  all_goals
    have hw := valid_len hm.v
    have hsz := valid_size hm.v
  all_goals first
    | exact rfl
    | exact Eq.mp (congrArg PkW (pk_eq r _).symm) hm.w
    | (show (toL eB r.2.length _).length ≤ _
       rw [toL_len]
       omega)
    | (show BL (toL eB L.length fun k j => rowF eB L (0 + k) j); rw [toL_b0]; exact hLb)
    | (show (toL eB L.length fun k j => rowF eB L (0 + k) j).length ≤ _; rw [toL_len]; omega)
    | exact (pk_eq r _).trans (pk_eq r _).symm
    | exact fun _ => rfl
    | exact absurd hLn (by assumption)
    | exact Done.mk (leF_bool (decide_eq_true (show (L.length : Int) ≤ 1280 by omega)))
    | exact absurd rfl (by assumption : ¬ ecR (some L) = 0)
    | exact absurd (hm.v.symm.trans (by assumption)) (by decide)
    | skip
end Go.Proofs.Ytjknkfjhcapocaa.AX
