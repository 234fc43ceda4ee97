/- The plain functions of package trickle. -/
namespace Go.Proofs.Ytolliidpmgncdaa

structure Trk where
  min : Int
  dbl : Int
  red : Int
  start : Int
  len : Int
  fire : Int
  heard : Int
  fired : Bool

def isTimeT (t : Int) : Bool := decide (0 ≤ t ∧ t ≤ 1099511627776)
def numbersB (m d r : Int) : Bool := decide (2 ≤ m ∧ m ≤ 4096 ∧ 0 ≤ d ∧ d ≤ 16 ∧ 0 ≤ r ∧ r ≤ 64)
/-- The length is the shortest one doubled fewer than k times. -/
def fitsTo (m l : Int) : Nat → Bool
  | 0 => false
  | k + 1 => fitsTo m l k || (l == m * 2 ^ k)
def validT (t : Trk) : Bool :=
  numbersB t.min t.dbl t.red && isTimeT t.start && decide (0 ≤ t.heard ∧ t.heard ≤ 1048576) && fitsTo t.min t.len (t.dbl.toNat + 1) && decide (t.start + t.len / 2 ≤ t.fire ∧ t.fire ≤ t.start + t.len - 1)
def beginT (t : Trk) (length now draw : Int) : Trk := { t with start := now, len := length, fire := now + length / 2 + draw % (length - length / 2), heard := 0, fired := false }
def zeroT : Trk := ⟨0, 0, 0, 0, 0, 0, 0, false⟩
def newT (m d r now draw : Int) : Trk × Int :=
  if isTimeT now = true ∧ numbersB m d r = true then (beginT ⟨m, d, r, 0, 0, 0, 0, false⟩ m now draw, 0) else (zeroT, 2)
def hearT (t : Trk) : Trk := if validT t = true then (if t.heard < 1048576 then { t with heard := t.heard + 1 } else t) else zeroT
def resetT (t : Trk) (now draw : Int) : Trk × Int :=
  if validT t = true then (if isTimeT now = true then (if t.len = t.min then (t, 0) else (beginT t t.min now draw, 0)) else (zeroT, 2)) else (zeroT, 1)
def fireT (t : Trk) (now : Int) : Trk × Bool :=
  if t.fired = false ∧ t.fire ≤ now then ({ t with fired := true }, decide (t.red = 0 ∨ t.heard < t.red)) else (t, false)
def stepT (t : Trk) (now draw : Int) : Trk × Bool × Int :=
  if validT t = true then
    if isTimeT now = true ∧ t.start ≤ now then
      (if t.start + t.len ≤ now then beginT (fireT t now).1 (Min.min (2 * t.len) (t.min * 2 ^ t.dbl.toNat)) now draw else (fireT t now).1, (fireT t now).2, 0)
    else (zeroT, false, 2)
  else (zeroT, false, 1)

theorem isTimeT_iff {c : Int} : isTimeT c = true ↔ 0 ≤ c ∧ c ≤ 1099511627776 := by simp [isTimeT]
theorem numbersB_iff {m d r : Int} : numbersB m d r = true ↔ 2 ≤ m ∧ m ≤ 4096 ∧ 0 ≤ d ∧ d ≤ 16 ∧ 0 ≤ r ∧ r ≤ 64 := by simp [numbersB]
theorem fitsTo_iff {m l : Int} {k : Nat} : fitsTo m l k = true ↔ ∃ j, j < k ∧ l = m * 2 ^ j := by
  induction k with
  | zero => simp [fitsTo]
  | succ k ih =>
    simp only [fitsTo, Bool.or_eq_true, ih, beq_iff_eq]
    constructor
    · rintro (⟨j, hj, e⟩ | e)
      · exact ⟨j, by omega, e⟩
      · exact ⟨k, by omega, e⟩
    · rintro ⟨j, hj, e⟩
      by_cases h : j = k
      · subst h; exact .inr e
      · exact .inl ⟨j, by omega, e⟩
theorem pow_bd {m : Int} {j : Nat} (hm : 2 ≤ m ∧ m ≤ 4096) (hj : j ≤ 16) : m ≤ m * 2 ^ j ∧ m * 2 ^ j ≤ 268435456 := by
  have e : ((2 ^ j : Nat) : Int) = 2 ^ j := by simp
  have h1 : (1 : Int) ≤ 2 ^ j := by
    have := Nat.one_le_two_pow (n := j)
    rw [← e]; omega
  have h2 : (2 : Int) ^ j ≤ 65536 := by
    have := Nat.pow_le_pow_right (n := 2) (by omega) hj
    rw [← e]; omega
  constructor
  · have := Int.mul_le_mul_of_nonneg_left h1 (show 0 ≤ m by omega); omega
  · have := Int.mul_le_mul hm.2 h2 (by omega) (by omega); omega
theorem fits_bd {m l d : Int} (hm : 2 ≤ m ∧ m ≤ 4096) (hd : 0 ≤ d ∧ d ≤ 16) (h : fitsTo m l (d.toNat + 1) = true) : m ≤ l ∧ l ≤ 268435456 := by
  obtain ⟨j, hj, rfl⟩ := fitsTo_iff.1 h
  exact pow_bd hm (by omega)
theorem validT_num {t : Trk} (h : validT t = true) : (2 ≤ t.min ∧ t.min ≤ 4096 ∧ 0 ≤ t.dbl ∧ t.dbl ≤ 16 ∧ 0 ≤ t.red ∧ t.red ≤ 64) ∧ (0 ≤ t.start ∧ t.start ≤ 1099511627776) ∧ (0 ≤ t.heard ∧ t.heard ≤ 1048576) ∧ (t.min ≤ t.len ∧ t.len ≤ 268435456) ∧ fitsTo t.min t.len (t.dbl.toNat + 1) = true ∧ t.start + t.len / 2 ≤ t.fire ∧ t.fire ≤ t.start + t.len - 1 := by
  simp only [validT, Bool.and_eq_true, decide_eq_true_eq, numbersB_iff, isTimeT_iff] at h
  obtain ⟨⟨⟨⟨h1, h2⟩, h3⟩, h4⟩, h5⟩ := h
  exact ⟨h1, h2, h3, fits_bd ⟨h1.1, h1.2.1⟩ ⟨h1.2.2.1, h1.2.2.2.1⟩ h4, h4, h5⟩
end Go.Proofs.Ytolliidpmgncdaa
