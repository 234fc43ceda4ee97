/- The walk of MetricAdds. -/
import Derived.Test.YtolliidpmgncdaaMetKnown
namespace Go.Proofs.Ytolliidpmgncdaa
open Go.RowKit
set_option linter.unusedVariables false

theorem addC_eq {a b : Int} (ha : 0 ≤ a ∧ a ≤ 65535) (hb : 0 ≤ b ∧ b ≤ 65535) : addC a b = min (a + b) 65535 := by
  unfold addC; rw [if_pos ⟨validC_iff.2 ha, validC_iff.2 hb⟩]

set_option maxHeartbeats 1000000 in
theorem walkMetricAdds (a0 : Int) (a1 : Int) (a2 : Int) (w : World) (w0 : (Lit.int .i64 a0).wf = true) (w1 : (Lit.int .i64 a1).wf = true) (w2 : (Lit.int .i64 a2).wf = true) :
    Calls Try.prog 8 #[.int .i64 a0, .int .i64 a1, .int .i64 a2] w fun e w' => e = .returned (.bool true) ∧ Below w.heap.size w w' := by
  have b0 := bounds_i64 w0
  have b1 := bounds_i64 w1
  have b2 := bounds_i64 w2
  clear w0 w1 w2
  go_enter Try.func8, Try.ntmps8
  go_wp2_with (go_at_call 19; refine (mod_any _ _ (by omega) (by omega) (by omega) _).mono ?_; rintro e w' ⟨rfl, rfl⟩)
  have m0 := Int.emod_nonneg a0 (show (65536 : Int) ≠ 0 by omega)
  have m1 := Int.emod_nonneg a1 (show (65536 : Int) ≠ 0 by omega)
  have m2 := Int.emod_nonneg a2 (show (65536 : Int) ≠ 0 by omega)
  have n0 := Int.emod_lt_of_pos a0 (show (0 : Int) < 65536 by omega)
  have n1 := Int.emod_lt_of_pos a1 (show (0 : Int) < 65536 by omega)
  have n2 := Int.emod_lt_of_pos a2 (show (0 : Int) < 65536 by omega)
  clear b0 b1 b2
  generalize a0 % 65536 = a at *
  generalize a1 % 65536 = b at *
  generalize a2 % 65536 = c at *
  have hx := addC_eq (a := a) (b := b) (by omega) (by omega)
  have hxr : 0 ≤ addC a b ∧ addC a b ≤ 65535 := by rw [hx]; omega
  have hy := addC_eq (a := b) (b := c) (by omega) (by omega)
  have hyr : 0 ≤ addC b c ∧ addC b c ≤ 65535 := by rw [hy]; omega
  have H1 : Hid (addC b a = addC a b) := Lib.hid (by rw [addC_eq (by omega) (by omega), hx]; omega)
  have H2 : Hid (addC a (addC b c) = addC (addC a b) c) := Lib.hid (by
    rw [addC_eq (by omega) hyr, addC_eq hxr (by omega), hx, hy]; omega)
  have H3 : Hid (addC a 0 = a) := Lib.hid (by rw [addC_eq (by omega) (by omega)]; omega)
  have H4 : Hid (addC a 65535 = 65535) := Lib.hid (by rw [addC_eq (by omega) (by omega)]; omega)
  have g1 : a ≤ addC a b := by rw [hx]; omega
  have g2 : b ≤ addC a b := by rw [hx]; omega
  clear hx hy
  refine (madd_any _ _ _).mono ?_
  rintro e w' ⟨rfl, rfl⟩
  go_wp2_with fail
  refine (madd_any _ _ _).mono ?_
  rintro e w' ⟨rfl, rfl⟩
  rw [H1.out]
  go_wp2_with fail
  refine (madd_any _ _ _).mono ?_
  rintro e w' ⟨rfl, rfl⟩
  go_wp2_with fail
  refine (madd_any _ _ _).mono ?_
  rintro e w' ⟨rfl, rfl⟩
  go_wp2_with fail
  refine (madd_any _ _ _).mono ?_
  rintro e w' ⟨rfl, rfl⟩
  rw [H2.out]
  go_wp2_with fail
  refine (madd_any _ _ _).mono ?_
  rintro e w' ⟨rfl, rfl⟩
  rw [H3.out]
  go_wp2_with fail
  refine (madd_any _ _ _).mono ?_
  rintro e w' ⟨rfl, rfl⟩
  rw [H4.out]
  go_wp2_with fail
  refine (mknown_any _).mono ?_
  rintro e w2 ⟨rfl, hb2⟩
  go_wp2_with fail
  go_ret
  exact ⟨rfl, hb2⟩
end Go.Proofs.Ytolliidpmgncdaa
