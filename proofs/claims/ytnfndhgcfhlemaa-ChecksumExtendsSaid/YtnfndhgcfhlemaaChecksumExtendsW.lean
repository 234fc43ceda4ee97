/- The walk of ChecksumExtends. -/
import Derived.Test.YtnfndhgcfhlemaaKnown
import Derived.Deep.RegionHeld3
import Derived.Deep.DrawnRows
namespace Go.Proofs.Ytnfndhgcfhlemaa
open Go.RowKit
set_option linter.unusedVariables false
attribute [local go_sem ↓] Go.wp_at_zero Go.wp_at_succ

set_option maxHeartbeats 1000000 in
theorem walkChecksumExtends (a0 : Option Addr) (len0 cap0 : Nat) (z0 : List Int) (a1 : Int) (w : World) (w0 : IsRow .u8 w a0 len0 cap0 z0) (rr0 : cap0 * 1 ≤ 140737488351232) (w1 : (Lit.int .i64 a1).wf = true) :
    Calls Try.prog 4 #[.slice a0 len0 cap0, .int .i64 a1] w fun e w' => e = .returned (.bool true) ∧ Below w.heap.size w w' := by
  obtain ⟨l, rfl, hlc, hcm, hr⟩ := w0.bytes
  have b1 := bounds_i64 w1
  clear w0 w1 hcm
  have hl : l.length ≤ 140737488351232 := by omega
  go_enter Try.func4, Try.ntmps4
  go_wp2_with fail
  refine (mod_any _ _ (by omega) (by omega) (by omega) _).mono ?_
  rintro e w' ⟨rfl, rfl⟩
  obtain ⟨i, hi, hil⟩ := emod_nat a1 ((l.length : Int) + 1) (by omega)
  rw [hi]
  clear hi
  have i1 : (0 : Int) ≤ (i : Int) := by omega
  have i2 : (i : Int) ≤ (cap0 : Int) := by omega
  have i6 : (i : Int) ≤ (l.length : Int) := by omega
  have HI : Hid (crc (crc 0 (l.take i)) (l.drop i) = crc 0 l) := Lib.hid (by rw [← crc_append, List.take_append_drop])
  have S0 := Lib.hid (sl_to (m := i) hr hlc (by omega))
  have S2 := Lib.hid (sl_from (i := i) hr hlc (by omega))
  have S3 := Lib.hid (sl_mk rfl hlc hr)
  obtain ⟨A2, hA2⟩ : ∃ A2, (if cap0 = i then a0 else a0.map (·.add i)) = A2 := ⟨_, rfl⟩
  rw [hA2] at S2
  have hc0 : crc 0 (l.take i) < 65536 := crc_lt (by omega) _
  go_wp2_with fail
  go_region_held3 (fun W => Below w.heap.size w W) (first | assumption | exact (Below.refl _ _).drew | exact bel_alloc ‹_› _ | exact bel_trans ‹_› hb1)
    (first
      | (go_at_call 12; refine (known_any _).mono ?_; rintro e w1 ⟨rfl, hb1⟩)
      | (go_at_call 15; (with_reducible refine (crc_sl (v := .slice a0 i cap0) (l := l.take i) ?_ ?_).mono ?_); (focus exact S0.out.below ‹_›); (focus (simp only [List.length_take]; omega)); rintro e w2 ⟨rfl, rfl⟩; dsimp only)
      | (go_at_call 15; (with_reducible refine (crc_sl (v := .slice a0 l.length cap0) (l := l) ?_ ?_).mono ?_); (focus exact S3.out.below ‹_›); (focus omega); rintro e w2 ⟨rfl, rfl⟩; dsimp only)
      | (go_at_call 14; (with_reducible refine (extend_sl (l := l.drop i) hc0 ?_ ?_).mono ?_); (focus exact S2.out.below ‹_›); (focus (simp only [List.length_drop]; omega)); rintro e w2 ⟨rfl, rfl⟩; rw [HI.out]; dsimp only))
  all_goals
    go_wp2_with fail
    go_ret
    exact ⟨rfl, by assumption⟩
end Go.Proofs.Ytnfndhgcfhlemaa
