/- The walk of ChecksumParts: the law returns true and writes nothing that was there. -/
import Derived.Test.YtnfndhgcfhlemaaKnown
import Derived.Deep.RegionHeld3
import Derived.Deep.RegionWith
import Derived.Deep.DrawnRows
namespace Go.Proofs.Ytnfndhgcfhlemaa
open Go.RowKit
set_option linter.unusedVariables false
attribute [local go_sem ↓] Go.wp_at_zero Go.wp_at_succ

set_option maxHeartbeats 1000000 in
theorem walkChecksumParts (a0 : Option Addr) (len0 cap0 : Nat) (z0 : List Int) (a1 : Int) (a2 : Int) (w : World) (w0 : IsRow .u8 w a0 len0 cap0 z0) (r0 : cap0 * 1 ≤ 140737488351232) (w1 : (Lit.int .i64 a1).wf = true) (w2 : (Lit.int .i64 a2).wf = true) :
    Calls Try.prog 3 #[.slice a0 len0 cap0, .int .i64 a1, .int .i64 a2] w fun e w' => e = .returned (.bool true) ∧ Below w.heap.size w w' := by
  obtain ⟨l, rfl, hlc, hcm, hr⟩ := w0.bytes
  have b1 := bounds_i64 w1
  have b2 := bounds_i64 w2
  clear w0 w1 w2 hcm
  have hl : l.length ≤ 140737488351232 := by omega
  go_enter Try.func3, Try.ntmps3
  go_wp2_with fail
  refine (mod_any _ _ (by omega) (by omega) (by omega) _).mono ?_
  rintro e w' ⟨rfl, rfl⟩
  obtain ⟨i, hi, hil⟩ : ∃ i : Nat, a1 % ((l.length : Int) + 1) = (i : Int) ∧ i ≤ l.length :=
    ⟨(a1 % ((l.length : Int) + 1)).toNat, by have := Int.emod_nonneg a1 (show (l.length : Int) + 1 ≠ 0 by omega); omega, by have := Int.emod_lt_of_pos a1 (show 0 < (l.length : Int) + 1 by omega); omega⟩
  rw [hi]
  clear hi
  go_wp2_with fail
  refine (mod_any _ _ (by omega) (by omega) (by omega) _).mono ?_
  rintro e w' ⟨rfl, rfl⟩
  obtain ⟨k, hk, hkl⟩ : ∃ k : Nat, a2 % ((l.length : Int) - (i : Int) + 1) = (k : Int) ∧ k ≤ l.length - i :=
    ⟨(a2 % ((l.length : Int) - (i : Int) + 1)).toNat, by have := Int.emod_nonneg a2 (show (l.length : Int) - (i : Int) + 1 ≠ 0 by omega); omega, by have := Int.emod_lt_of_pos a2 (show 0 < (l.length : Int) - (i : Int) + 1 by omega); omega⟩
  rw [hk]
  clear hk
  obtain ⟨m, hm⟩ : ∃ m : Nat, (i : Int) + (k : Int) = (m : Int) := ⟨i + k, by omega⟩
  go_wp2_with fail
  have i1 : (0 : Int) ≤ (i : Int) := by omega
  have i2 : (i : Int) ≤ (cap0 : Int) := by omega
  have i3 : (0 : Int) ≤ (m : Int) := by omega
  have i4 : (i : Int) ≤ (m : Int) := by omega
  have i5 : (m : Int) ≤ (cap0 : Int) := by omega
  have i6 : (m : Int) ≤ (l.length : Int) := by omega
  have HI : Hid (inet (l.take i ++ ((l.take m).drop i ++ l.drop m)) = inet l) := Lib.hid (by
    congr 1
    have e1 : l.take i = (l.take m).take i := by rw [List.take_take, Nat.min_eq_left (by omega)]
    rw [← List.append_assoc, e1, List.take_append_drop, List.take_append_drop])
  have S0 := Lib.hid (sl_to (m := i) hr hlc (by omega))
  have S1 := Lib.hid (sl_cut (i := i) (m := m) hr hlc (by omega) (by omega))
  have S2 := Lib.hid (sl_from (i := m) hr hlc (by omega))
  have S3 := Lib.hid (sl_mk rfl hlc hr)
  clear hm
  obtain ⟨A1, hA1⟩ : ∃ A1, (if cap0 = i then a0 else a0.map (·.add i)) = A1 := ⟨_, rfl⟩
  obtain ⟨A2, hA2⟩ : ∃ A2, (if cap0 = m then a0 else a0.map (·.add m)) = A2 := ⟨_, rfl⟩
  rw [hA1] at S1
  rw [hA2] at S2
  go_region_held3 (fun W => Below w.heap.size w W) (first | assumption | exact (Below.refl _ _).drew | exact bel_alloc ‹_› _ | exact bel_trans ‹_› hb1)
    (first
      | (go_at_call 12; refine (known_any _).mono ?_; rintro e w1 ⟨rfl, hb1⟩)
      | (go_at_call 13; (with_reducible refine (internet_1 (v0 := .slice a0 l.length cap0) (l0 := l) ?_ ?_ ?_).mono ?_); (focus simp [go_sem]); (focus exact S3.out.below ‹_›); (focus omega); rintro e w2 ⟨rfl, rfl⟩; dsimp only)
      | (go_at_call 13; (with_reducible refine (internet_3 (v0 := .slice a0 i cap0) (v1 := .slice A1 (m - i) (cap0 - i)) (v2 := .slice A2 (l.length - m) (cap0 - m)) (l0 := l.take i) (l1 := (l.take m).drop i) (l2 := l.drop m) ?_ ?_ ?_ ?_ ?_ ?_ ?_).mono ?_); (focus simp [go_sem]); (focus simp [go_sem]); (focus simp [go_sem]); (focus exact S0.out.below ‹_›); (focus exact S1.out.below ‹_›); (focus exact S2.out.below ‹_›); (focus (simp only [List.length_append, List.length_take, List.length_drop]; omega)); rintro e w2 ⟨rfl, rfl⟩; rw [HI.out]; dsimp only))
  all_goals
    go_wp2_with fail
    go_ret
    exact ⟨rfl, by assumption⟩
end Go.Proofs.Ytnfndhgcfhlemaa
