/- The contract of multihopmade.Mod. -/
import Derived.Test.YtolliidpmgncdaaChecked
import Derived.Test.YtolliidpmgncdaaWords
import Derived.WalkSpells
namespace Go.Proofs.Ytolliidpmgncdaa
open Go.RowKit
set_option linter.unusedVariables false

/-- A remainder as a natural number below the divisor. -/
theorem emod_nat (v : Int) (n : Int) (hn : 1 ≤ n) : ∃ i : Nat, v % n = (i : Int) ∧ (i : Int) < n :=
  ⟨(v % n).toNat, by have := Int.emod_nonneg v (show n ≠ 0 by omega); omega, by have := Int.emod_lt_of_pos v (show 0 < n by omega); have := Int.emod_nonneg v (show n ≠ 0 by omega); omega⟩

theorem tmod_facts (v n : Int) (hn : 1 ≤ n) : -n < v.tmod n ∧ v.tmod n < n ∧ (v.tmod n < 0 → v.tmod n + n = v % n) ∧ (0 ≤ v.tmod n → v.tmod n = v % n) := by
  have h1 := Int.emod_nonneg v (show n ≠ 0 by omega)
  have h2 := Int.emod_lt_of_pos v (show 0 < n by omega)
  have h3 := Int.tmod_eq_emod (a := v) (b := n)
  by_cases hc : 0 ≤ v ∨ n ∣ v
  · rw [if_pos hc] at h3; omega
  · rw [if_neg hc] at h3
    have h4 : v % n ≠ 0 := fun e => hc (.inr (Int.dvd_of_emod_eq_zero e))
    omega

theorem mod_any (v n : Int) (hn : 1 ≤ n) (hn2 : n ≤ 9223372036854775807) (hv : -9223372036854775808 ≤ v ∧ v ≤ 9223372036854775807) (w : World) :
    Calls Try.prog 19 #[.int .i64 v, .int .i64 n] w fun e w' => e = .returned (.int .i64 (v % n)) ∧ w = w' := by
  obtain ⟨h1, h2, h3, h4⟩ := tmod_facts v n hn
  have H3 := Lib.hid h3
  have H4 := Lib.hid h4
  clear h3 h4
  have hn0 : (n == 0) = false := by simp; omega
  go_enter Try.func19, Try.ntmps19
  go_wp2_with fail
  · go_ret
    exact ⟨by rw [← H3.out ‹_›]; rfl, rfl⟩
  · go_ret
    exact ⟨by rw [← H4.out ‹_›]; rfl, rfl⟩
end Go.Proofs.Ytolliidpmgncdaa
