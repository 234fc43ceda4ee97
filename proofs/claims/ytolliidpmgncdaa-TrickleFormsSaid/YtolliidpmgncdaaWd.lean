/- The makers Base and Time (by AX2). -/
import Derived.Test.YtolliidpmgncdaaTp
namespace Go.Proofs.Ytolliidpmgncdaa.AX
open Go.RowKit
set_option linter.unusedVariables false
set_option linter.unusedSimpArgs false
theorem base_ok (n : Nat) (l : List Int) (q : Int) (ht : TapeOk n (rI l) q) :
    ∃ (r q' : Int), (0 ≤ r ∧ r ≤ 1099511627776) ∧ TapeOk n (rI l) q' ∧ MethOk Try.prog 21 [] (tapeN n (rI l) q) ((cI .i64).enc r) (tapeN n (rI l) q') := by
  refine tape_intro (wd := 1) (Q := mkQ LTb) (by decide) tysOk (q_of LTb_ok) mixed Try.func21 rfl _ (by show 0 + 1 ≤ _; decide) (fun _ => nff_int) ?_
  repeat' (first | (apply And.intro <;> intro hc <;> (first | exact Bool.noConfusion hc | (simp only [decide_eq_true_eq, decide_eq_false_iff_not, Bool.not_eq_true', Bool.not_eq_false', beq_iff_eq, beq_eq_false_iff_ne, bne_iff_ne, bne_eq_false_iff_eq, Bool.true_eq_false, Bool.false_eq_true] at hc) | skip)) | (refine And.intro (by first | exact trivial | decide | omega | (dsimp only; omega) | exact fun _ _ => rfl | exact ⟨by assumption, by first | exact trivial | decide | omega | (dsimp only; omega)⟩) ?_) | (apply And.intro) | (intro s hs))
  · rename_i r hr
    have hr' : 0 ≤ r ∧ r < 5 := hr
    exact ⟨(r, _), ⟨⟨by omega, by omega⟩, by assumption⟩, ⟨leF_int rfl, tapeN_le⟩⟩
  · rename_i r hr
    have hr' : 0 ≤ r ∧ r < 40 := hr
    exact ⟨(1099511627776 - r, _), ⟨⟨by omega, by omega⟩, by assumption⟩, ⟨leF_int (IntWalk.i64_in _ (by omega)), tapeN_le⟩⟩
  · rename_i r hr
    have hr' : 0 ≤ r ∧ r < 1000 := hr
    exact ⟨(r, _), ⟨⟨by omega, by omega⟩, by assumption⟩, ⟨leF_int rfl, tapeN_le⟩⟩
theorem time_ok (n : Nat) (l : List Int) (q b : Int) (ht : TapeOk n (rI l) q) (hb : 0 ≤ b ∧ b ≤ 1099511627776) :
    ∃ (r q' : Int), (0 ≤ r ∧ r ≤ 1099511627776) ∧ TapeOk n (rI l) q' ∧ MethOk Try.prog 26 [(cI .i64).enc b] (tapeN n (rI l) q) ((cI .i64).enc r) (tapeN n (rI l) q') := by
  refine tape_intro (wd := 1) (Q := mkQ LTb) (by decide) tysOk (q_of LTb_ok) mixed Try.func26 rfl _ (by show 1 + 1 ≤ _; decide) (fun _ => nff_int) ?_
  repeat' (first | (apply And.intro <;> intro hc <;> (first | exact Bool.noConfusion hc | (simp only [decide_eq_true_eq, decide_eq_false_iff_not, Bool.not_eq_true', Bool.not_eq_false', beq_iff_eq, beq_eq_false_iff_ne, bne_iff_ne, bne_eq_false_iff_eq, Bool.true_eq_false, Bool.false_eq_true] at hc) | skip)) | (refine And.intro (by first | exact trivial | decide | omega | (dsimp only; omega) | exact fun _ _ => rfl | exact ⟨by assumption, by first | exact trivial | decide | omega | (dsimp only; omega)⟩) ?_) | (apply And.intro) | (intro s hs))
  rename_i r hr
  have hr' : 0 ≤ r ∧ r < 60 := hr
  refine ⟨(max 0 (min 1099511627776 (b + r - 30)), _), ⟨⟨by omega, by omega⟩, by assumption⟩, ⟨leF_int ?_, tapeN_le⟩⟩
  rw [IntWalk.i64_in (b + r) (by omega), IntWalk.i64_in (b + r - 30) (by omega)]
  split <;> split <;> omega
abbrev baseE : Entry := tapeE AC.nil (fun _ => True) (fun a (r : Int) => 0 ≤ r ∧ r ≤ 1099511627776) (cI .i64).enc
abbrev wtimeE : Entry := tapeE (AC.cons (cI .i64) AC.nil) (fun a => 0 ≤ a.1 ∧ a.1 ≤ 1099511627776) (fun a (r : Int) => 0 ≤ r ∧ r ≤ 1099511627776) (cI .i64).enc
def LWd : CsL := (21, some baseE) :: (26, some wtimeE) :: LTb
theorem LWd_ok : AllOk Try.prog LWd := ⟨tapeE_ok ⟨_, Try.func21, rfl, by kernel_rfl⟩ fun n l q a ht hp => base_ok n l q ht, tapeE_ok ⟨_, Try.func26, rfl, by kernel_rfl⟩ fun n l q a ht hp => time_ok n l q a.1 ht hp, LTb_ok⟩
end Go.Proofs.Ytolliidpmgncdaa.AX
