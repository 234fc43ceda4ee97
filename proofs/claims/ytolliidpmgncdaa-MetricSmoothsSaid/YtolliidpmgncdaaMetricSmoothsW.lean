/- The walk of MetricSmooths. -/
import Derived.Test.YtolliidpmgncdaaMetKnown
namespace Go.Proofs.Ytolliidpmgncdaa
open Go.RowKit
set_option linter.unusedVariables false

/-- The distance after k steps is at most f k, from any start below 65535: it falls by a quarter, rounded up. -/
def distN : Nat → Nat
  | 0 => 65534
  | k + 1 => distN k - (distN k + 3) / 4
theorem distN_50 : distN 50 = 0 := by decide
theorem smooth_eq {o s : Int} (ho : 0 ≤ o ∧ o < 65535) (hs : 0 ≤ s ∧ s < 65535) : smoothC o s = if o ≤ s then o + (s - o + 3) / 4 else o - (o - s + 3) / 4 := by
  unfold smoothC
  rw [if_pos ⟨validC_iff.2 (by omega), validC_iff.2 (by omega)⟩, if_neg (by omega)]
/-- One step comes nearer. -/
theorem smooth_step {o s : Int} {k : Nat} (ho : 0 ≤ o ∧ o < 65535) (hs : 0 ≤ s ∧ s < 65535) (h1 : o - s ≤ distN k) (h2 : s - o ≤ distN k) :
    (0 ≤ smoothC o s ∧ smoothC o s < 65535) ∧ smoothC o s - s ≤ distN (k + 1) ∧ s - smoothC o s ≤ distN (k + 1) ∧ (o < s → o < smoothC o s ∧ smoothC o s ≤ s) ∧ (s < o → smoothC o s < o ∧ s ≤ smoothC o s) ∧ (o = s → smoothC o s = o) := by
  rw [smooth_eq ho hs]
  have e : distN (k + 1) = distN k - (distN k + 3) / 4 := rfl
  rw [e]
  generalize distN k = d at *
  split <;> omega

set_option maxHeartbeats 1000000 in
theorem walkMetricSmooths (a0 : Int) (a1 : Int) (w : World) (w0 : (Lit.int .i64 a0).wf = true) (w1 : (Lit.int .i64 a1).wf = true) :
    Calls Try.prog 9 #[.int .i64 a0, .int .i64 a1] w fun e w' => e = .returned (.bool true) ∧ Below w.heap.size w w' := by
  have b0 := bounds_i64 w0
  have b1 := bounds_i64 w1
  clear w0 w1
  go_enter Try.func9, Try.ntmps9
  go_wp2_with (go_at_call 19; refine (mod_any _ _ (by omega) (by omega) (by omega) _).mono ?_; rintro e w' ⟨rfl, rfl⟩)
  have m0 := Int.emod_nonneg a0 (show (65535 : Int) ≠ 0 by omega)
  have m1 := Int.emod_nonneg a1 (show (65535 : Int) ≠ 0 by omega)
  have n0 := Int.emod_lt_of_pos a0 (show (0 : Int) < 65535 by omega)
  have n1 := Int.emod_lt_of_pos a1 (show (0 : Int) < 65535 by omega)
  clear b0 b1
  generalize a0 % 65535 = a at *
  generalize a1 % 65535 = s at *
  go_loop [5, 6] (fun x i => ∃ (o : Int) (k : Nat), k ≤ 50 ∧ i = .int .i64 k ∧ x = .int .i64 o ∧ 0 ≤ o ∧ o < 65535 ∧ Hid (o - s ≤ distN k ∧ s - o ≤ distN k)) (fun _ i => 50 - (intOf i).toNat)
  case atStart => exact ⟨a, 0, by omega, rfl, rfl, m0, n0, Lib.hid (by unfold distN; omega)⟩
  case round =>
    obtain ⟨o, k, hk, rfl, rfl, ho1, ho2, HD⟩ := hrel
    by_cases hk50 : k < 50
    · obtain ⟨q0, q1, q2, q3, q4, q5⟩ := smooth_step (k := k) ⟨ho1, ho2⟩ ⟨m1, n1⟩ HD.out.1 HD.out.2
      have HQ := Lib.hid (show _ ∧ _ from ⟨q1, q2⟩)
      clear q1 q2
      go_wp2_with fail
      refine (msmooth_any _ _ _).mono ?_
      rintro e w' ⟨rfl, rfl⟩
      generalize smoothC o s = y at *
      rcases (show o < s ∨ s < o ∨ o = s from by omega) with h | h | h
      · have := q3 h
        clear q3 q4 q5
        have t1 : (o == s) = false := by simp; omega
        go_wp2_with fail
        go_round
        case rel => exact ⟨y, k + 1, by omega, by go_num, rfl, by omega, by omega, HQ⟩
        case measure => simp [intOf]; omega
      · have := q4 h
        clear q3 q4 q5
        have t1 : (o == s) = false := by simp; omega
        go_wp2_with fail
        go_round
        case rel => exact ⟨y, k + 1, by omega, by go_num, rfl, by omega, by omega, HQ⟩
        case measure => simp [intOf]; omega
      · have hy := q5 h
        clear q3 q4 q5
        subst hy
        have t1 : (y == s) = true := by simp [h]
        have t2 : (y != y) = false := by simp
        have e1 : y ≤ s := by omega
        have e2 : s ≤ y := by omega
        clear h
        go_wp2_with fail
        go_round
        case rel => exact ⟨y, k + 1, by omega, by go_num, rfl, by omega, by omega, HQ⟩
        case measure => simp [intOf]; omega
    · obtain rfl : k = 50 := by omega
      have hos : o = s := by have := HD.out; rw [distN_50] at this; omega
      have t1 : (o == s) = true := by simp [hos]
      clear hos HD
      go_wp2_with fail
      refine (mknown_any _).mono ?_
      rintro e w2 ⟨rfl, hb2⟩
      go_wp2_with fail
      go_ret
      exact ⟨rfl, hb2⟩
end Go.Proofs.Ytolliidpmgncdaa
