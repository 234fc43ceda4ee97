/- The contracts of metric.Valid, Add, Link, Smooth, isTime, ValidChoice. -/
import Derived.Test.YtolliidpmgncdaaChecked
import Derived.Test.YtolliidpmgncdaaMet
import Derived.Test.YtolliidpmgncdaaWords
import Derived.WalkSpells
import Derived.WalkLawsBesides
import Derived.Outline
import Derived.Deep.QuietTactic
import Derived.BigQuiet
namespace Go.Proofs.Ytolliidpmgncdaa
open Go.RowKit
set_option linter.unusedVariables false

theorem mvalid_any (c : Int) (w : World) : Calls Try.prog 29 #[.int .i64 c] w fun e w' => e = .returned (.bool (validC c)) ∧ w = w' := by
  have HV : Hid (validC c = decide (0 ≤ c ∧ c ≤ 65535)) := Lib.hid rfl
  by_cases h0 : 0 ≤ c
  · by_cases h1 : c ≤ 65535
    · go_enter Try.func29, Try.ntmps29
      go_wp2_with fail
      go_ret
      exact ⟨by rw [HV.out, decide_eq_true ⟨h0, h1⟩]; rfl, rfl⟩
    · go_enter Try.func29, Try.ntmps29
      go_wp2_with fail
      go_ret
      exact ⟨by rw [HV.out, decide_eq_false (by omega)]; rfl, rfl⟩
  · go_enter Try.func29, Try.ntmps29
    go_wp2_with fail
    go_ret
    exact ⟨by rw [HV.out, decide_eq_false (by omega)]; rfl, rfl⟩

theorem ret_int {k : IntKind} {a b : Int} (h : a = b) : Ending.returned (.int k a) = .returned (.int k b) := by rw [h]
theorem mtime_any (c : Int) (w : World) : Calls Try.prog 55 #[.int .i64 c] w fun e w' => e = .returned (.bool (isTimeB c)) ∧ w = w' := by
  have HV : Hid (isTimeB c = decide (0 ≤ c ∧ c ≤ 1099511627776)) := Lib.hid rfl
  by_cases h0 : 0 ≤ c
  · by_cases h1 : c ≤ 1099511627776
    · go_enter Try.func55, Try.ntmps55
      go_wp2_with fail
      go_ret
      exact ⟨by rw [HV.out, decide_eq_true ⟨h0, h1⟩]; rfl, rfl⟩
    · go_enter Try.func55, Try.ntmps55
      go_wp2_with fail
      go_ret
      exact ⟨by rw [HV.out, decide_eq_false (by omega)]; rfl, rfl⟩
  · go_enter Try.func55, Try.ntmps55
    go_wp2_with fail
    go_ret
    exact ⟨by rw [HV.out, decide_eq_false (by omega)]; rfl, rfl⟩

set_option maxHeartbeats 1000000 in
theorem madd_any (a b : Int) (w : World) : Calls Try.prog 31 #[.int .i64 a, .int .i64 b] w fun e w' => e = .returned (.int .i64 (addC a b)) ∧ w = w' := by
  obtain ⟨r, hr⟩ : ∃ r, addC a b = r := ⟨_, rfl⟩
  rw [hr]
  unfold addC at hr
  cases ha : validC a
  · rw [if_neg (by simp [ha])] at hr
    subst hr
    go_enter Try.func31, Try.ntmps31
    go_wp2_with (go_at_call 29; refine (mvalid_any _ _).mono ?_; rintro e w' ⟨rfl, rfl⟩)
    go_ret
    exact ⟨rfl, rfl⟩
  · cases hb : validC b
    · rw [if_neg (by simp [hb])] at hr
      subst hr
      go_enter Try.func31, Try.ntmps31
      go_wp2_with (go_at_call 29; refine (mvalid_any _ _).mono ?_; rintro e w' ⟨rfl, rfl⟩)
      go_ret
      exact ⟨rfl, rfl⟩
    · have a2 := validC_iff.1 ha
      have b2 := validC_iff.1 hb
      rw [if_pos ⟨ha, hb⟩] at hr
      by_cases h : a + b ≤ 65535
      · have HR := Lib.hid hr
        clear hr
        go_enter Try.func31, Try.ntmps31
        go_wp2_with (go_at_call 29; refine (mvalid_any _ _).mono ?_; rintro e w' ⟨rfl, rfl⟩)
        all_goals (go_ret; exact ⟨ret_int (by have := HR.out; omega), rfl⟩)
      · have HR := Lib.hid hr
        clear hr
        go_enter Try.func31, Try.ntmps31
        go_wp2_with (go_at_call 29; refine (mvalid_any _ _).mono ?_; rintro e w' ⟨rfl, rfl⟩)
        all_goals (go_ret; exact ⟨ret_int (by have := HR.out; omega), rfl⟩)
set_option maxHeartbeats 1000000 in
theorem mlink_any (a b : Int) (w : World) : Calls Try.prog 33 #[.int .i64 a, .int .i64 b] w fun e w' => e = .returned (.int .i64 (linkC a b)) ∧ w = w' := by
  obtain ⟨r, hr⟩ : ∃ r, linkC a b = r := ⟨_, rfl⟩
  rw [hr]
  unfold linkC at hr
  cases ha : validC a
  · rw [if_neg (by simp [ha])] at hr
    subst hr
    go_enter Try.func33, Try.ntmps33
    go_wp2_with (go_at_call 29; refine (mvalid_any _ _).mono ?_; rintro e w' ⟨rfl, rfl⟩)
    go_ret
    exact ⟨rfl, rfl⟩
  · cases hb : validC b
    · rw [if_neg (by simp [hb])] at hr
      subst hr
      go_enter Try.func33, Try.ntmps33
      go_wp2_with (go_at_call 29; refine (mvalid_any _ _).mono ?_; rintro e w' ⟨rfl, rfl⟩)
      go_ret
      exact ⟨rfl, rfl⟩
    · have a2 := validC_iff.1 ha
      have b2 := validC_iff.1 hb
      by_cases h1 : a = 65535
      · rw [if_neg (by simp [h1])] at hr
        have hb1 : (a == 65535) = true := by simp [h1]
        clear h1
        have HR := Lib.hid hr
        clear hr
        go_enter Try.func33, Try.ntmps33
        go_wp2_with (go_at_call 29; refine (mvalid_any _ _).mono ?_; rintro e w' ⟨rfl, rfl⟩)
        all_goals (go_ret; exact ⟨ret_int (by have := HR.out; omega), rfl⟩)
      · have hb1 : (a == 65535) = false := by simp [h1]
        by_cases h2 : b = 65535
        · rw [if_neg (by simp [h2])] at hr
          have hb2 : (b == 65535) = true := by simp [h2]
          clear h2
          have HR := Lib.hid hr
          clear hr
          go_enter Try.func33, Try.ntmps33
          go_wp2_with (go_at_call 29; refine (mvalid_any _ _).mono ?_; rintro e w' ⟨rfl, rfl⟩)
          all_goals (go_ret; exact ⟨ret_int (by have := HR.out; omega), rfl⟩)
        · rw [if_pos ⟨ha, hb, h1, h2⟩] at hr
          have hb2 : (b == 65535) = false := by simp [h2]
          by_cases h3 : b ≤ 1
          · have HR := Lib.hid hr
            clear hr
            go_enter Try.func33, Try.ntmps33
            go_wp2_with (go_at_call 29; refine (mvalid_any _ _).mono ?_; rintro e w' ⟨rfl, rfl⟩)
            all_goals (go_ret; exact ⟨ret_int (by have := HR.out; omega), rfl⟩)
          · have HR := Lib.hid hr
            clear hr
            go_enter Try.func33, Try.ntmps33
            go_wp2_with (go_at_call 29; refine (mvalid_any _ _).mono ?_; rintro e w' ⟨rfl, rfl⟩)
            all_goals (go_ret; exact ⟨ret_int (by have := HR.out; omega), rfl⟩)
set_option maxHeartbeats 1000000 in
theorem msmooth_any (a b : Int) (w : World) : Calls Try.prog 35 #[.int .i64 a, .int .i64 b] w fun e w' => e = .returned (.int .i64 (smoothC a b)) ∧ w = w' := by
  obtain ⟨r, hr⟩ : ∃ r, smoothC a b = r := ⟨_, rfl⟩
  rw [hr]
  unfold smoothC at hr
  cases ha : validC a
  · rw [if_neg (by simp [ha])] at hr
    subst hr
    go_enter Try.func35, Try.ntmps35
    go_wp2_with (go_at_call 29; refine (mvalid_any _ _).mono ?_; rintro e w' ⟨rfl, rfl⟩)
    go_ret
    exact ⟨rfl, rfl⟩
  · cases hb : validC b
    · rw [if_neg (by simp [hb])] at hr
      subst hr
      go_enter Try.func35, Try.ntmps35
      go_wp2_with (go_at_call 29; refine (mvalid_any _ _).mono ?_; rintro e w' ⟨rfl, rfl⟩)
      go_ret
      exact ⟨rfl, rfl⟩
    · have a2 := validC_iff.1 ha
      have b2 := validC_iff.1 hb
      rw [if_pos ⟨ha, hb⟩] at hr
      by_cases h1 : a = 65535
      · rw [if_pos (.inl h1)] at hr
        have hb1 : (a == 65535) = true := by simp [h1]
        clear h1
        have HR := Lib.hid hr
        clear hr
        go_enter Try.func35, Try.ntmps35
        go_wp2_with (go_at_call 29; refine (mvalid_any _ _).mono ?_; rintro e w' ⟨rfl, rfl⟩)
        all_goals (go_ret; exact ⟨ret_int (by have := HR.out; omega), rfl⟩)
      · have hb1 : (a == 65535) = false := by simp [h1]
        by_cases h2 : b = 65535
        · rw [if_pos (.inr h2)] at hr
          have hb2 : (b == 65535) = true := by simp [h2]
          clear h2
          have HR := Lib.hid hr
          clear hr
          go_enter Try.func35, Try.ntmps35
          go_wp2_with (go_at_call 29; refine (mvalid_any _ _).mono ?_; rintro e w' ⟨rfl, rfl⟩)
          all_goals (go_ret; exact ⟨ret_int (by have := HR.out; omega), rfl⟩)
        · rw [if_neg (by omega)] at hr
          have hb2 : (b == 65535) = false := by simp [h2]
          by_cases h3 : a ≤ b
          · rw [if_pos h3] at hr
            have HR := Lib.hid hr
            clear hr
            go_enter Try.func35, Try.ntmps35
            go_wp2_with (go_at_call 29; refine (mvalid_any _ _).mono ?_; rintro e w' ⟨rfl, rfl⟩)
            all_goals (go_ret; exact ⟨ret_int (by have := HR.out; omega), rfl⟩)
          · rw [if_neg h3] at hr
            have HR := Lib.hid hr
            clear hr
            go_enter Try.func35, Try.ntmps35
            go_wp2_with (go_at_call 29; refine (mvalid_any _ _).mono ?_; rintro e w' ⟨rfl, rfl⟩)
            all_goals (go_ret; exact ⟨ret_int (by have := HR.out; omega), rfl⟩)

def choV (x : Cho) : Value := .agg #[.int .u64 x.n, .int .i64 x.c, .int .i64 x.b]
theorem mvalidCho_any (x : Cho) (w : World) : Calls Try.prog 53 #[choV x] w fun e w' => e = .returned (.bool (validCho x)) ∧ Below w.heap.size w w' := by
  obtain ⟨n, c, b⟩ := x
  have HV : Hid (validCho ⟨n, c, b⟩ = (validC c && (b == -1 || isTimeB b))) := Lib.hid rfl
  unfold choV
  cases hc : validC c
  · go_enter Try.func53, Try.ntmps53
    go_wp2_with (first | (go_at_call 29; refine (mvalid_any _ _).mono ?_; rintro e w' ⟨rfl, rfl⟩) | (go_at_call 55; refine (mtime_any _ _).mono ?_; rintro e w' ⟨rfl, rfl⟩))
    go_ret
    exact ⟨by rw [HV.out, hc]; rfl, (Below.refl _ _).alloc (Nat.le_refl _) _⟩
  · cases hb : (b == -1)
    · go_enter Try.func53, Try.ntmps53
      go_wp2_with (first | (go_at_call 29; refine (mvalid_any _ _).mono ?_; rintro e w' ⟨rfl, rfl⟩) | (go_at_call 55; refine (mtime_any _ _).mono ?_; rintro e w' ⟨rfl, rfl⟩))
      go_ret
      exact ⟨by rw [HV.out, hc, hb]; rfl, (Below.refl _ _).alloc (Nat.le_refl _) _⟩
    · go_enter Try.func53, Try.ntmps53
      go_wp2_with (first | (go_at_call 29; refine (mvalid_any _ _).mono ?_; rintro e w' ⟨rfl, rfl⟩) | (go_at_call 55; refine (mtime_any _ _).mono ?_; rintro e w' ⟨rfl, rfl⟩))
      go_ret
      exact ⟨by rw [HV.out, hc, hb]; rfl, (Below.refl _ _).alloc (Nat.le_refl _) _⟩
end Go.Proofs.Ytolliidpmgncdaa
