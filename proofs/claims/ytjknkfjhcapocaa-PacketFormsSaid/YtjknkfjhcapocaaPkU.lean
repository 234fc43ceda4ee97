/- The laws about packets: made, known, all contracts. -/
import Derived.Test.YtjknkfjhcapocaaPkT5
import Derived.Test.YtjknkfjhcapocaaPkN
namespace Go.Proofs.Ytjknkfjhcapocaa.AX
open Go.RowKit
set_option linter.unusedVariables false
set_option linter.unusedSimpArgs false
/-- The entry of a function of a row of numbers whose outcome is any r with S r. -/
def madeE {R : Type} (S : R → Prop) (enc : R → FV) : Entry := fun args _ _ _ =>
  match args with
  | [.e (.c (.sl true n s f))] => bif Nat.beq s 1 then some fun K => (∃ l, f = rI l ∧ rngL l) ∧ ∀ r, S r → K (enc r) [] [] else none
  | _ => none
theorem madeE_ok {R : Type} {S : R → Prop} {enc : R → FV} {f : FuncId} (hb : hasBody Try.prog f) (h : ∀ n l, rngL l → ∃ r, S r ∧ PureOk Try.prog f [.e (.c (.sl true n 1 (rI l)))] (enc r)) : EntOk Try.prog f (madeE S enc) := by
  refine ⟨fun args H nm wd q hwd hq K hK => ?_, fun args H nm wd q hq K K' hKK hK => ?_⟩
  · unfold madeE at hq
    split at hq
    · rename_i n s g
      obtain ⟨hbb, hq⟩ := cond_some hq
      subst hq
      have hbb := Nat.eq_of_beq_eq_true hbb
      subst hbb
      obtain ⟨⟨l, rfl, hl⟩, hK⟩ := hK
      obtain ⟨r, h1, h2⟩ := h n l hl
      refine ⟨_, _, _, callR_pure (args' := [.e (.c (.sl true n 1 (rI l)))]) (rd := []) hb (fun H' _ => ⟨rfl, fun i x y hx hy => ?_⟩) h2, hK r h1⟩
      cases i with
      | zero => simp only [List.getElem?_cons_zero, Option.some.injEq] at hx hy; subst hx hy; exact bo_shI
      | succ i => cases i <;> cases hx
    · cases hq
  · unfold madeE at hq
    split at hq
    · obtain ⟨hbb, hq⟩ := cond_some hq
      subst hq
      exact ⟨hK.1, fun r h => hKK _ _ _ (hK.2 r h)⟩
    · cases hq
abbrev packE : Entry := tapeE (AC.cons (cE eAdr) (AC.cons (cE eAdr) AC.nil)) (fun _ => True) (fun a (r : Pkt) => PkM r) (fun r => .e (tailR eHd eB r))
def LMp : CsL := (36, some packE) :: LM0
theorem LMp_ok : AllOk Try.prog LMp := ⟨tapeE_ok ⟨_, Try.func36, rfl, by kernel_rfl⟩ fun n l q a ht hp => packet_ok n l q a.1 a.2.1 ht, LM0_ok⟩
set_option maxRecDepth 20000 in
theorem made_ok (n : Nat) (l : List Int) (hl : rngL l) : ∃ r, PkM r ∧ PureOk Try.prog 17 [.e (.c (.sl true n 1 (rI l)))] (.e (tailR eHd eB r)) := by
  refine pure_some (wd := 1) (Q := mkQ LMp) (by decide) tysOk (q_of LMp_ok) mixed Try.func17 rfl _ (by show 1 ≤ _; decide) (S := PkM) (enc := fun r => .e (tailR eHd eB r)) ?_
  repeat' (first | (apply And.intro <;> intro hc <;> (first | exact Bool.noConfusion hc | (simp only [decide_eq_true_eq, decide_eq_false_iff_not, Bool.not_eq_true', Bool.not_eq_false', beq_iff_eq, beq_eq_false_iff_ne, bne_iff_ne, bne_eq_false_iff_eq, Bool.true_eq_false, Bool.false_eq_true] at hc) | skip)) | (refine And.intro (by first | exact trivial | decide | omega | (dsimp only; omega) | exact fun _ _ => rfl | exact ⟨by assumption, by first | exact trivial | decide | omega | (dsimp only; omega)⟩) ?_) | (apply And.intro) | (intro s hs))
  · exact ⟨l, rfl, hl⟩
  intro ht0
  repeat' (first | (apply And.intro <;> intro hc <;> (first | exact Bool.noConfusion hc | (simp only [decide_eq_true_eq, decide_eq_false_iff_not, Bool.not_eq_true', Bool.not_eq_false', beq_iff_eq, beq_eq_false_iff_ne, bne_iff_ne, bne_eq_false_iff_eq, Bool.true_eq_false, Bool.false_eq_true] at hc) | skip)) | (refine And.intro (by first | exact trivial | decide | omega | (dsimp only; omega) | exact fun _ _ => rfl | exact ⟨by assumption, by first | exact trivial | decide | omega | (dsimp only; omega)⟩) ?_) | (apply And.intro) | (intro s hs))
  rename_i hm
  refine ⟨_, hm, Done.mk (leF_e (leE_tail rfl (fun j hj => ?_) (leC_sl (fun _ => rfl) rfl rfl fun i _ j _ => leC_int rfl)))⟩
  iterate 38 (rcases j with _ | j; exact leC_int rfl)
  exact absurd hj (by show ¬ _ < 38; omega)
abbrev mkE13 : Entry := madeE PkM (fun r => .e (tailR eHd eB r))
/-- The least packet. -/
def kP : Pkt := (⟨0, 0, 59, 1, fun _ => 0, fun _ => 0, 0, 0⟩, [])
theorem kP_m : PkM kP := ⟨by decide, by decide, by decide, by decide, by decide, fun i => by have : vget kP.1.src i = 0 := (by unfold vget kP; split <;> rfl); omega, fun i => by have : vget kP.1.dst i = 0 := (by unfold vget kP; split <;> rfl); omega, by decide, by decide, BL.nil⟩
theorem kL : ∃ L, encR kP = some L ∧ L.length = 40 ∧ L.getD 0 default = 96 ∧ BL L ∧ fwdF L = ([], 2) := by
  refine ⟨encB kP (sumP kP), if_pos kP_m.v, ?_, ?_, encB_BL kP_m.w _, ?_⟩
  · have h := encB_len kP (sumP kP)
    have : sizeP kP = 40 := rfl
    omega
  · rw [encB_hd]; rfl
  · rw [fwd_enc kP_m]; rfl
theorem kp_eq {G : Nat → CV} {F : Nat → Nat → CV} (h : ∀ j, j < 38 → G j = eHd.cell kP.1 j) : ((eHd.rd G, toL eB 0 F) : Pkt) = kP := by rw [hd_congr G (eHd.cell kP.1) h, eHd_rd]; rfl
set_option maxHeartbeats 8000000 in
set_option maxRecDepth 20000 in
theorem known_ok : PureOk Try.prog 28 [] (cB.enc true) := by
  obtain ⟨L, h1, h2, h3, h4, h5⟩ := kL
  refine pure_intro (wd := 1) (Q := mkQ LRp) (by decide) tysOk (q_of LRp_ok) mixed Try.func28 rfl _ (by show 0 ≤ _; decide) _ ?_
  repeat' (first | (apply And.intro <;> intro hc <;> (first | exact Bool.noConfusion hc | (simp only [decide_eq_true_eq, decide_eq_false_iff_not, Bool.not_eq_true', Bool.not_eq_false', beq_iff_eq, beq_eq_false_iff_ne, bne_iff_ne, bne_eq_false_iff_eq, Bool.true_eq_false, Bool.false_eq_true, ne_eq, not_true_eq_false] at hc <;> first | exact absurd rfl hc | skip) | skip)) | (refine And.intro (by first | exact trivial | decide | omega | (dsimp only; omega) | exact fun _ _ => rfl | exact ⟨by assumption, by first | exact trivial | decide | omega | (dsimp only; omega)⟩) ?_) | (apply And.intro) | (intro s hs; (first | (have q : s = some L := (by (refine hs.trans ((congrArg encR (kp_eq (fun j hj => ?_))).trans h1); (iterate 38 (rcases j with _ | j; exact rfl)); exact absurd hj (by omega))); clear hs; subst q) | (have q : s = ([], 2) := (by (refine hs.trans ?_; show fwdF (toL eB L.length fun k j => rowF eB L (0 + k) j) = _; rw [toL_b0]; exact h5)); clear hs; subst q) | skip)))
  · refine Eq.mp (congrArg PkW (kp_eq (fun j hj => ?_)).symm) kP_m.w
    iterate 38 (rcases j with _ | j; exact rfl)
    exact absurd hj (by omega)
  · exact Nat.le_trans (Nat.le_of_eq (toL_len _ _ _)) (Nat.zero_le _)
  all_goals first
    | exact rfl
    | exact Done.mk (leF_bool rfl)
    | (show BL (toL eB L.length fun k j => rowF eB L (0 + k) j); rw [toL_b0]; exact h4)
    | (show (toL eB L.length fun k j => rowF eB L (0 + k) j).length ≤ _; rw [toL_len, h2]; decide)
    | (have hb : ¬ L.getD 0 default = 96 := by assumption
       exact absurd h3 hb)
    | (have hb : ¬ (L.length : Int) = 40 := by assumption
       exact absurd (by rw [h2]; rfl) hb)
    | exact absurd rfl (by assumption : ¬ ecR (some L) = 0)
    | skip
abbrev kn13E : Entry := pureE AC.nil (fun _ => True) (fun _ => true) cB.enc
def LWp : CsL := (17, some mkE13) :: (28, some kn13E) :: (LT0 ++ LRp)
theorem LWp_ok : AllOk Try.prog LWp := ⟨madeE_ok ⟨_, Try.func17, rfl, by kernel_rfl⟩ made_ok, pureE_ok ⟨_, Try.func28, rfl, by kernel_rfl⟩ fun _ _ => known_ok, append_ok LT0_ok LRp_ok⟩
end Go.Proofs.Ytjknkfjhcapocaa.AX
