/- Plain laws about trickle timers that are stepped at every time. -/
import Derived.Test.YtolliidpmgncdaaTrk
namespace Go.Proofs.Ytolliidpmgncdaa
set_option linter.unusedVariables false
/-- The timer is valid, the time lies in its interval or at its end, and it has not fired while its time to fire is not reached. -/
structure TInv (x : Trk) (now : Int) : Prop where
  valid : validT x = true
  lo : x.start ≤ now
  hi : now ≤ x.start + x.len
  fire : x.fired = false → now ≤ x.fire

theorem validT_mk {t : Trk} (h1 : numbersB t.min t.dbl t.red = true) (h2 : isTimeT t.start = true) (h3 : 0 ≤ t.heard ∧ t.heard ≤ 1048576) (h4 : fitsTo t.min t.len (t.dbl.toNat + 1) = true) (h5 : t.start + t.len / 2 ≤ t.fire ∧ t.fire ≤ t.start + t.len - 1) : validT t = true := by
  unfold validT
  rw [h1, h2, h4, decide_eq_true h3, decide_eq_true h5]
  rfl
theorem validT_parts {t : Trk} (h : validT t = true) : numbersB t.min t.dbl t.red = true ∧ isTimeT t.start = true := by
  simp only [validT, Bool.and_eq_true] at h
  exact ⟨h.1.1.1.1, h.1.1.1.2⟩
theorem hear_inv {x : Trk} {now : Int} (h : TInv x now) : TInv (hearT x) now := by
  have hn := validT_num h.valid
  obtain ⟨p1, p2⟩ := validT_parts h.valid
  unfold hearT
  rw [if_pos h.valid]
  split
  · exact ⟨validT_mk p1 p2 ⟨by show 0 ≤ x.heard + 1; omega, by show x.heard + 1 ≤ _; omega⟩ hn.2.2.2.2.1 hn.2.2.2.2.2, h.lo, h.hi, h.fire⟩
  · exact h
theorem hear_same (x : Trk) (h : validT x = true) : (hearT x).fired = x.fired := by
  unfold hearT
  rw [if_pos h]
  split <;> rfl
theorem fits_double {m l d : Int} (hm : 2 ≤ m) (hd : 0 ≤ d) (h : fitsTo m l (d.toNat + 1) = true) : fitsTo m (min (2 * l) (m * 2 ^ d.toNat)) (d.toNat + 1) = true := by
  obtain ⟨j, hj, rfl⟩ := fitsTo_iff.1 h
  rw [fitsTo_iff]
  by_cases hjd : j = d.toNat
  · subst hjd
    refine ⟨d.toNat, by omega, ?_⟩
    have : (0 : Int) ≤ m * 2 ^ d.toNat := Int.mul_nonneg (by omega) (Int.pow_nonneg (by omega))
    omega
  · refine ⟨j + 1, by omega, ?_⟩
    have h1 : 2 * (m * 2 ^ j) = m * 2 ^ (j + 1) := by rw [Int.pow_succ]; rw [← Int.mul_assoc m, Int.mul_comm 2]
    have h2 : (2 : Int) ^ (j + 1) ≤ 2 ^ d.toNat := by
      have := Nat.pow_le_pow_right (n := 2) (by omega) (show j + 1 ≤ d.toNat by omega)
      have e1 : ((2 ^ (j + 1) : Nat) : Int) = 2 ^ (j + 1) := by simp
      have e2 : ((2 ^ d.toNat : Nat) : Int) = 2 ^ d.toNat := by simp
      rw [← e1, ← e2]; omega
    have h3 := Int.mul_le_mul_of_nonneg_left h2 (show 0 ≤ m by omega)
    rw [h1]
    omega
theorem begin_valid {x : Trk} {l now draw : Int} (hv : validT x = true) (hf : fitsTo x.min l (x.dbl.toNat + 1) = true) (hn : 0 ≤ now ∧ now ≤ 1099511627776) : validT (beginT x l now draw) = true ∧ 2 ≤ l ∧ l ≤ 268435456 := by
  have hn2 := validT_num hv
  obtain ⟨p1, p2⟩ := validT_parts hv
  have hl := fits_bd ⟨hn2.1.1, hn2.1.2.1⟩ ⟨hn2.1.2.2.1, hn2.1.2.2.2.1⟩ hf
  have hm : 0 ≤ draw % (l - l / 2) ∧ draw % (l - l / 2) < l - l / 2 := ⟨Int.emod_nonneg _ (by omega), Int.emod_lt_of_pos _ (by omega)⟩
  refine ⟨validT_mk p1 (isTimeT_iff.2 hn) ⟨by show (0 : Int) ≤ 0; omega, by show (0 : Int) ≤ _; omega⟩ hf ⟨?_, ?_⟩, by omega, hl.2⟩
  · show now + l / 2 ≤ now + l / 2 + draw % (l - l / 2); omega
  · show now + l / 2 + draw % (l - l / 2) ≤ now + l - 1; omega
theorem fire_valid {x : Trk} {now : Int} (hv : validT x = true) : validT (fireT x now).1 = true ∧ (fireT x now).1.start = x.start ∧ (fireT x now).1.len = x.len ∧ (fireT x now).1.fire = x.fire ∧ (fireT x now).1.min = x.min ∧ (fireT x now).1.dbl = x.dbl := by
  unfold fireT
  split
  · have hn := validT_num hv
    obtain ⟨p1, p2⟩ := validT_parts hv
    exact ⟨validT_mk p1 p2 hn.2.2.1 hn.2.2.2.2.1 hn.2.2.2.2.2, rfl, rfl, rfl, rfl, rfl⟩
  · exact ⟨hv, rfl, rfl, rfl, rfl, rfl⟩
structure TStep (x : Trk) (now : Int) (s : Trk × Bool × Int) : Prop where
  ok : s.2.2 = 0
  inv : TInv s.1 (now + 1)
  sends : s.2.1 = true → x.fired = false ∧ x.start + x.len / 2 ≤ now ∧ now < x.start + x.len ∧ (x.red = 0 ∨ x.heard < x.red) ∧ s.1.start = x.start ∧ s.1.fired = true
  still : x.fired = true → s.1.start = x.start → s.1.fired = true
  turn : s.1.start ≠ x.start → s.1.start = now ∧ now = x.start + x.len ∧ s.1.len = min (2 * x.len) (x.min * 2 ^ x.dbl.toNat)
theorem step_inv {x : Trk} {now draw : Int} (h : TInv x now) (hn : 0 ≤ now ∧ now ≤ 1099511627776) : TStep x now (stepT x now draw) := by
  have hv := validT_num h.valid
  have hl := h.lo
  have hh := h.hi
  obtain ⟨f1, f2, f3, f4, f5, f6⟩ := fire_valid (now := now) h.valid
  have hs : stepT x now draw = (if x.start + x.len ≤ now then beginT (fireT x now).1 (min (2 * x.len) (x.min * 2 ^ x.dbl.toNat)) now draw else (fireT x now).1, (fireT x now).2, 0) := by
    unfold stepT; rw [if_pos h.valid, if_pos ⟨isTimeT_iff.2 hn, h.lo⟩]
  rw [hs]
  have hF : (fireT x now).2 = true → x.fired = false ∧ x.fire ≤ now ∧ (x.red = 0 ∨ x.heard < x.red) ∧ (fireT x now).1.fired = true := by
    unfold fireT
    split
    · rename_i hc
      intro hd
      exact ⟨hc.1, hc.2, by simpa using hd, rfl⟩
    · intro hd; cases hd
  have hS : x.fired = true → (fireT x now).1.fired = true := by
    unfold fireT
    intro hx
    rw [if_neg (by rw [hx]; simp)]
    exact hx
  have hN : (fireT x now).1.fired = false → x.fired = false ∧ ¬ x.fire ≤ now := by
    unfold fireT
    split
    · intro hd; cases hd
    · rename_i hc
      intro hd
      exact ⟨hd, fun hle => hc ⟨hd, hle⟩⟩
  by_cases he : x.start + x.len ≤ now
  · simp only [if_pos he]
    have hfd : fitsTo (fireT x now).1.min (min (2 * x.len) (x.min * 2 ^ x.dbl.toNat)) ((fireT x now).1.dbl.toNat + 1) = true := by
      rw [f5, f6]; exact fits_double (by omega) (by omega) hv.2.2.2.2.1
    obtain ⟨g1, g2, g3⟩ := begin_valid (draw := draw) f1 hfd hn
    have g4 := validT_num g1
    have e1 : (beginT (fireT x now).1 (min (2 * x.len) (x.min * 2 ^ x.dbl.toNat)) now draw).start = now := rfl
    have e2 : (beginT (fireT x now).1 (min (2 * x.len) (x.min * 2 ^ x.dbl.toNat)) now draw).len = min (2 * x.len) (x.min * 2 ^ x.dbl.toNat) := rfl
    rw [e1, e2] at g4
    refine ⟨rfl, ⟨g1, by rw [e1]; omega, by rw [e1, e2]; omega, fun _ => by show now + 1 ≤ (beginT (fireT x now).1 (min (2 * x.len) (x.min * 2 ^ x.dbl.toNat)) now draw).fire; omega⟩, fun hd => ?_, fun _ hd => ?_, fun _ => ⟨rfl, by omega, rfl⟩⟩
    · obtain ⟨a1, a2, _⟩ := hF hd
      have := h.fire a1
      omega
    · rw [e1] at hd; omega
  · simp only [if_neg he]
    refine ⟨rfl, ⟨f1, by rw [f2]; omega, by rw [f2, f3]; omega, fun hd => ?_⟩, fun hd => ?_, fun hx _ => hS hx, fun hd => absurd f2 hd⟩
    · obtain ⟨a1, a2⟩ := hN hd
      rw [f4]; omega
    · obtain ⟨a1, a2, a3, a4⟩ := hF hd
      exact ⟨a1, by omega, by omega, a3, f2, a4⟩
theorem new_inv {m d r draw : Int} (h : numbersB m d r = true) : (newT m d r 0 draw).2 = 0 ∧ TInv (newT m d r 0 draw).1 0 ∧ (newT m d r 0 draw).1.fired = false := by
  have ht : isTimeT 0 = true := by simp [isTimeT]
  have hn := numbersB_iff.1 h
  have e : newT m d r 0 draw = (beginT ⟨m, d, r, 0, 0, 0, 0, false⟩ m 0 draw, 0) := by unfold newT; rw [if_pos ⟨ht, h⟩]
  rw [e]
  have hm : 0 ≤ draw % (m - m / 2) ∧ draw % (m - m / 2) < m - m / 2 := ⟨Int.emod_nonneg _ (by omega), Int.emod_lt_of_pos _ (by omega)⟩
  have hv : validT (beginT ⟨m, d, r, 0, 0, 0, 0, false⟩ m 0 draw) = true := by
    refine validT_mk h ht ⟨by show (0 : Int) ≤ 0; omega, by show (0 : Int) ≤ _; omega⟩ (fitsTo_iff.2 ⟨0, by omega, by show m = m * 2 ^ 0; simp⟩) ⟨?_, ?_⟩
    · show (0 : Int) + m / 2 ≤ 0 + m / 2 + draw % (m - m / 2); omega
    · show (0 : Int) + m / 2 + draw % (m - m / 2) ≤ 0 + m - 1; omega
  refine ⟨rfl, ⟨hv, by show (0 : Int) ≤ 0; omega, by show (0 : Int) ≤ 0 + m; omega, fun _ => by show (0 : Int) ≤ 0 + m / 2 + draw % (m - m / 2); omega⟩, rfl⟩
end Go.Proofs.Ytolliidpmgncdaa
