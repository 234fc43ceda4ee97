/- The contracts of the references of Valid, Add, Link and Smooth. -/
import Derived.Test.YtolliidpmgncdaaMetW
namespace Go.Proofs.Ytolliidpmgncdaa
open Go.RowKit
set_option linter.unusedVariables false

theorem rvalid_any (c : Int) (w : World) : Calls Try.prog 30 #[.int .i64 c] w fun e w' => e = .returned (.bool (validC c)) ∧ w = w' := by
  have HV : Hid (validC c = decide (0 ≤ c ∧ c ≤ 65535)) := Lib.hid rfl
  by_cases h0 : 0 ≤ c
  · by_cases h1 : c ≤ 65535
    · go_enter Try.func30, Try.ntmps30
      go_wp2_with fail
      go_ret
      exact ⟨by rw [HV.out, decide_eq_true ⟨h0, h1⟩]; rfl, rfl⟩
    · go_enter Try.func30, Try.ntmps30
      go_wp2_with fail
      go_ret
      exact ⟨by rw [HV.out, decide_eq_false (by omega)]; rfl, rfl⟩
  · go_enter Try.func30, Try.ntmps30
    go_wp2_with fail
    go_ret
    exact ⟨by rw [HV.out, decide_eq_false (by omega)]; rfl, rfl⟩

set_option maxHeartbeats 1000000 in
theorem radd_any (a b : Int) (w : World) : Calls Try.prog 32 #[.int .i64 a, .int .i64 b] w fun e w' => e = .returned (.int .i64 (addC a b)) ∧ w = w' := by
  obtain ⟨r, hr⟩ : ∃ r, addC a b = r := ⟨_, rfl⟩
  rw [hr]
  unfold addC at hr
  cases ha : validC a
  · rw [if_neg (by simp [ha])] at hr
    subst hr
    go_enter Try.func32, Try.ntmps32
    go_wp2_with (go_at_call 30; refine (rvalid_any _ _).mono ?_; rintro e w' ⟨rfl, rfl⟩)
    go_ret
    exact ⟨rfl, rfl⟩
  · cases hb : validC b
    · rw [if_neg (by simp [hb])] at hr
      subst hr
      go_enter Try.func32, Try.ntmps32
      go_wp2_with (go_at_call 30; refine (rvalid_any _ _).mono ?_; rintro e w' ⟨rfl, rfl⟩)
      go_ret
      exact ⟨rfl, rfl⟩
    · have a2 := validC_iff.1 ha
      have b2 := validC_iff.1 hb
      rw [if_pos ⟨ha, hb⟩] at hr
      by_cases h : a + b ≤ 65535
      · have HR := Lib.hid hr
        clear hr
        go_enter Try.func32, Try.ntmps32
        go_wp2_with (go_at_call 30; refine (rvalid_any _ _).mono ?_; rintro e w' ⟨rfl, rfl⟩)
        all_goals (go_ret; exact ⟨ret_int (by have := HR.out; omega), rfl⟩)
      · have HR := Lib.hid hr
        clear hr
        go_enter Try.func32, Try.ntmps32
        go_wp2_with (go_at_call 30; refine (rvalid_any _ _).mono ?_; rintro e w' ⟨rfl, rfl⟩)
        all_goals (go_ret; exact ⟨ret_int (by have := HR.out; omega), rfl⟩)
set_option maxHeartbeats 1000000 in
theorem rlink_any (a b : Int) (w : World) : Calls Try.prog 34 #[.int .i64 a, .int .i64 b] w fun e w' => e = .returned (.int .i64 (linkC a b)) ∧ w = w' := by
  obtain ⟨r, hr⟩ : ∃ r, linkC a b = r := ⟨_, rfl⟩
  rw [hr]
  unfold linkC at hr
  cases ha : validC a
  · rw [if_neg (by simp [ha])] at hr
    subst hr
    go_enter Try.func34, Try.ntmps34
    go_wp2_with (go_at_call 30; refine (rvalid_any _ _).mono ?_; rintro e w' ⟨rfl, rfl⟩)
    go_ret
    exact ⟨rfl, rfl⟩
  · cases hb : validC b
    · rw [if_neg (by simp [hb])] at hr
      subst hr
      go_enter Try.func34, Try.ntmps34
      go_wp2_with (go_at_call 30; refine (rvalid_any _ _).mono ?_; rintro e w' ⟨rfl, rfl⟩)
      go_ret
      exact ⟨rfl, rfl⟩
    · have a2 := validC_iff.1 ha
      have b2 := validC_iff.1 hb
      by_cases h1 : a = 65535
      · rw [if_neg (by simp [h1])] at hr
        have hb1 : (a == 65535) = true := by simp [h1]
        clear h1
        have HR := Lib.hid hr
        clear hr
        go_enter Try.func34, Try.ntmps34
        go_wp2_with (go_at_call 30; refine (rvalid_any _ _).mono ?_; rintro e w' ⟨rfl, rfl⟩)
        all_goals (go_ret; exact ⟨ret_int (by have := HR.out; omega), rfl⟩)
      · have hb1 : (a == 65535) = false := by simp [h1]
        by_cases h2 : b = 65535
        · rw [if_neg (by simp [h2])] at hr
          have hb2 : (b == 65535) = true := by simp [h2]
          clear h2
          have HR := Lib.hid hr
          clear hr
          go_enter Try.func34, Try.ntmps34
          go_wp2_with (go_at_call 30; refine (rvalid_any _ _).mono ?_; rintro e w' ⟨rfl, rfl⟩)
          all_goals (go_ret; exact ⟨ret_int (by have := HR.out; omega), rfl⟩)
        · rw [if_pos ⟨ha, hb, h1, h2⟩] at hr
          have hb2 : (b == 65535) = false := by simp [h2]
          by_cases h3 : b ≤ 1
          · have HR := Lib.hid hr
            clear hr
            go_enter Try.func34, Try.ntmps34
            go_wp2_with (go_at_call 30; refine (rvalid_any _ _).mono ?_; rintro e w' ⟨rfl, rfl⟩)
            all_goals (go_ret; exact ⟨ret_int (by have := HR.out; omega), rfl⟩)
          · have HR := Lib.hid hr
            clear hr
            go_enter Try.func34, Try.ntmps34
            go_wp2_with (go_at_call 30; refine (rvalid_any _ _).mono ?_; rintro e w' ⟨rfl, rfl⟩)
            all_goals (go_ret; exact ⟨ret_int (by have := HR.out; omega), rfl⟩)
set_option maxHeartbeats 1000000 in
theorem rsmooth_any (a b : Int) (w : World) : Calls Try.prog 36 #[.int .i64 a, .int .i64 b] w fun e w' => e = .returned (.int .i64 (smoothC a b)) ∧ w = w' := by
  obtain ⟨r, hr⟩ : ∃ r, smoothC a b = r := ⟨_, rfl⟩
  rw [hr]
  unfold smoothC at hr
  cases ha : validC a
  · rw [if_neg (by simp [ha])] at hr
    subst hr
    go_enter Try.func36, Try.ntmps36
    go_wp2_with (go_at_call 30; refine (rvalid_any _ _).mono ?_; rintro e w' ⟨rfl, rfl⟩)
    go_ret
    exact ⟨rfl, rfl⟩
  · cases hb : validC b
    · rw [if_neg (by simp [hb])] at hr
      subst hr
      go_enter Try.func36, Try.ntmps36
      go_wp2_with (go_at_call 30; refine (rvalid_any _ _).mono ?_; rintro e w' ⟨rfl, rfl⟩)
      go_ret
      exact ⟨rfl, rfl⟩
    · have a2 := validC_iff.1 ha
      have b2 := validC_iff.1 hb
      rw [if_pos ⟨ha, hb⟩] at hr
      by_cases h1 : a = 65535
      · rw [if_pos (.inl h1)] at hr
        have hb1 : (a == 65535) = true := by simp [h1]
        clear h1
        have HR := Lib.hid hr
        clear hr
        go_enter Try.func36, Try.ntmps36
        go_wp2_with (go_at_call 30; refine (rvalid_any _ _).mono ?_; rintro e w' ⟨rfl, rfl⟩)
        all_goals (go_ret; exact ⟨ret_int (by have := HR.out; omega), rfl⟩)
      · have hb1 : (a == 65535) = false := by simp [h1]
        by_cases h2 : b = 65535
        · rw [if_pos (.inr h2)] at hr
          have hb2 : (b == 65535) = true := by simp [h2]
          clear h2
          have HR := Lib.hid hr
          clear hr
          go_enter Try.func36, Try.ntmps36
          go_wp2_with (go_at_call 30; refine (rvalid_any _ _).mono ?_; rintro e w' ⟨rfl, rfl⟩)
          all_goals (go_ret; exact ⟨ret_int (by have := HR.out; omega), rfl⟩)
        · rw [if_neg (by omega)] at hr
          have hb2 : (b == 65535) = false := by simp [h2]
          by_cases h3 : a ≤ b
          · rw [if_pos h3] at hr
            have HR := Lib.hid hr
            clear hr
            go_enter Try.func36, Try.ntmps36
            go_wp2_with (go_at_call 30; refine (rvalid_any _ _).mono ?_; rintro e w' ⟨rfl, rfl⟩)
            all_goals (go_ret; exact ⟨ret_int (by have := HR.out; omega), rfl⟩)
          · rw [if_neg h3] at hr
            have HR := Lib.hid hr
            clear hr
            go_enter Try.func36, Try.ntmps36
            go_wp2_with (go_at_call 30; refine (rvalid_any _ _).mono ?_; rintro e w' ⟨rfl, rfl⟩)
            all_goals (go_ret; exact ⟨ret_int (by have := HR.out; omega), rfl⟩)

end Go.Proofs.Ytolliidpmgncdaa
