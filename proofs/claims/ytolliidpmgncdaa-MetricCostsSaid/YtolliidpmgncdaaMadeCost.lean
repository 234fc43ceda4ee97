/- The contract of multihopworld.Cost: some cost below Infinity. -/
import Derived.Test.YtolliidpmgncdaaTape
namespace Go.Proofs.Ytolliidpmgncdaa
open Go.RowKit
set_option linter.unusedVariables false

set_option maxHeartbeats 1000000 in
theorem cost_any {w : World} {B g : Nat} (ht : Tape w B g) :
    Calls Try.prog 28 #[.pointer (some ⟨g, 0, none⟩)] w fun e w' => ∃ v : Int, e = .returned (.int .i64 v) ∧ 0 ≤ v ∧ v < 65535 ∧ Tape w' B g ∧ Only g w w' := by
  go_enter Try.func28, Try.ntmps28
  go_wp2_with fail
  refine (tnext_any ht 6 (by omega) (by omega)).mono ?_
  rintro e w1 ⟨v1, rfl, h1, h2, ht1, ho1⟩
  by_cases e0 : v1 = 0
  · have t0 : (v1 == 0) = true := by simp [e0]
    clear e0
    go_wp2_with fail
    refine (tnext_any ht1 4 (by omega) (by omega)).mono ?_
    rintro e w2 ⟨v2, rfl, h3, h4, ht2, ho2⟩
    go_wp2_with fail
    go_ret
    exact ⟨v2, rfl, by omega, by omega, ht2, ho1.trans ho2⟩
  · have t0 : (v1 == 0) = false := by simp [e0]
    by_cases e1 : v1 = 1
    · have t1 : (v1 == 1) = true := by simp [e1]
      clear e0 e1
      go_wp2_with fail
      refine (tnext_any ht1 600 (by omega) (by omega)).mono ?_
      rintro e w2 ⟨v2, rfl, h3, h4, ht2, ho2⟩
      go_wp2_with fail
      go_ret
      exact ⟨65534 - v2, rfl, by omega, by omega, ht2, ho1.trans ho2⟩
    · have t1 : (v1 == 1) = false := by simp [e1]
      clear e0 e1
      go_wp2_with fail
      refine (tnext_any ht1 30 (by omega) (by omega)).mono ?_
      rintro e w2 ⟨v2, rfl, h3, h4, ht2, ho2⟩
      go_wp2_with fail
      go_ret
      exact ⟨256 + 32 * v2, rfl, by omega, by omega, ht2, ho1.trans ho2⟩
end Go.Proofs.Ytolliidpmgncdaa
