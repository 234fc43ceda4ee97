/- Plain laws of the CRC: it is linear, and a burst of at most 16 bits is noticed. -/
import Derived.Test.YtnfndhgcfhlemaaCheck
namespace Go.Proofs.Ytnfndhgcfhlemaa

theorem xor_mod2 (a b : Nat) : (a ^^^ b) % 2 = (a % 2 + b % 2) % 2 := by
  have := Nat.xor_mod_two_eq_one (a := a) (b := b)
  omega
theorem xor_div2 (a b : Nat) : (a ^^^ b) / 2 = a / 2 ^^^ b / 2 := by
  have := Nat.xor_div_two_pow (a := a) (b := b) (n := 1)
  simpa using this
theorem crcBit_xor (a b : Nat) : crcBit (a ^^^ b) = crcBit a ^^^ crcBit b := by
  unfold crcBit
  rw [xor_mod2, xor_div2]
  rcases Nat.mod_two_eq_zero_or_one a with ha | ha <;> rcases Nat.mod_two_eq_zero_or_one b with hb | hb <;> simp only [ha, hb] <;> simp
  · rw [Nat.xor_assoc]
  · rw [Nat.xor_assoc, Nat.xor_assoc, Nat.xor_comm (b / 2)]
  · have : a / 2 ^^^ 33800 ^^^ (b / 2 ^^^ 33800) = a / 2 ^^^ b / 2 ^^^ (33800 ^^^ 33800) := by
      rw [Nat.xor_assoc, Nat.xor_assoc, ← Nat.xor_assoc 33800, Nat.xor_comm 33800 (b / 2), Nat.xor_assoc]
    rw [this, Nat.xor_self, Nat.xor_zero]
theorem crcBits_xor (k a b : Nat) : crcBits k (a ^^^ b) = crcBits k a ^^^ crcBits k b := by
  induction k with
  | zero => rfl
  | succ k ih => simp only [crcBits, ih, crcBit_xor]
theorem crcBits_add (j k a : Nat) : crcBits j (crcBits k a) = crcBits (j + k) a := by
  induction j with
  | zero => simp [crcBits]
  | succ j ih => rw [show j + 1 + k = (j + k) + 1 from by omega]; simp only [crcBits, ih]
theorem crcBit_even' (v : Nat) : crcBit (v * 2) = v := by
  unfold crcBit; rw [if_neg (by omega)]; omega
theorem crcBits_shift (k v : Nat) : crcBits k (v <<< k) = v := by
  induction k generalizing v with
  | zero => simp [crcBits]
  | succ k ih =>
    have e : v <<< (k + 1) = (v * 2) <<< k := by rw [Nat.shiftLeft_eq, Nat.shiftLeft_eq, Nat.pow_succ, Nat.mul_comm (2 ^ k) 2, Nat.mul_assoc]
    rw [crcBits, e, ih, crcBit_even']
theorem crcBit_zero {v : Nat} (h : v < 65536) (h0 : crcBit v = 0) : v = 0 := by
  unfold crcBit at h0
  split at h0
  · have h1 : v / 2 = 33800 := by
      have := congrArg (· ^^^ 33800) h0
      simp only [Nat.xor_assoc, Nat.xor_self, Nat.xor_zero, Nat.zero_xor] at this
      exact this
    omega
  · omega
theorem crcBits_zero (k : Nat) {v : Nat} (h : v < 65536) (h0 : crcBits k v = 0) : v = 0 := by
  induction k with
  | zero => exact h0
  | succ k ih => exact ih (crcBit_zero (crcBits_lt k h) h0)
theorem crcBits_of_zero (k : Nat) : crcBits k 0 = 0 := by
  induction k with
  | zero => rfl
  | succ k ih => simp [crcBits, ih, crcBit]

/-- The bits of a string of bytes as a number, the least significant bit of the first byte first. -/
def val : List UInt8 → Nat
  | [] => 0
  | b :: l => b.toNat ^^^ val l <<< 8
theorem crc_val (l : List UInt8) : ∀ c, crc c l = crcBits (8 * l.length) (c ^^^ val l) := by
  induction l with
  | nil => intro c; simp [crc, val, crcBits]
  | cons b l ih =>
    intro c
    have e : crc c (b :: l) = crc (crcByte c b) l := rfl
    rw [e, ih, show 8 * (b :: l).length = 8 * l.length + 8 from by simp; omega, ← crcBits_add]
    congr 1
    rw [val, ← Nat.xor_assoc, crcBits_xor, crcBits_shift]
    rfl
theorem val_set (l : List UInt8) (j : Nat) (y : UInt8) (h : j < l.length) : val (l.set j y) = val l ^^^ (l[j].toNat ^^^ y.toNat) <<< (8 * j) := by
  induction l generalizing j with
  | nil => simp at h
  | cons b l ih =>
    cases j with
    | zero =>
      simp only [List.set_cons_zero, val, List.getElem_cons_zero, Nat.mul_zero, Nat.shiftLeft_zero]
      rw [Nat.xor_comm b.toNat (val l <<< 8), Nat.xor_assoc, ← Nat.xor_assoc b.toNat b.toNat, Nat.xor_self, Nat.zero_xor, Nat.xor_comm]
    | succ j =>
      simp only [List.set_cons_succ, val, List.getElem_cons_succ]
      rw [ih j (by simpa using h), Nat.shiftLeft_xor_distrib, ← Nat.xor_assoc, ← Nat.shiftLeft_add]
      congr 3

/-- Data with two bytes behind it is right just where the whole has the CRC 0. -/
theorem checkB_zero {l : List UInt8} (h : 2 ≤ l.length) : checkB l = decide (crc 0 l = 0) := by
  obtain ⟨n, hn⟩ : ∃ n, l.length = n + 2 := ⟨l.length - 2, by omega⟩
  have hcl : crc 0 (l.take n) < 65536 := crc_lt (by omega) _
  obtain ⟨lo, hlo⟩ := u8_ex (crc 0 (l.take n) % 256) (by omega)
  obtain ⟨hi, hhi⟩ := u8_ex (crc 0 (l.take n) / 256) (by omega)
  rw [checkB_long hn lo hi hlo hhi]
  have e2 : l = l.take n ++ [l[n], l[n + 1]] := by
    have : l.drop n = [l[n], l[n + 1]] := by
      rw [List.drop_eq_getElem_cons (by omega), List.drop_eq_getElem_cons (by omega), List.drop_eq_nil_of_le (by omega)]
    rw [← this, List.take_append_drop]
  have e3 : crc 0 l = crcBits 16 (crc 0 (l.take n) ^^^ (l[n].toNat ^^^ l[n + 1].toNat <<< 8)) := by
    conv => lhs; rw [e2]
    rw [crc_append, crc_val]
    simp [val]
  rw [e3]
  generalize crc 0 (l.take n) = c at *
  generalize l[n] = x at *
  generalize l[n + 1] = y at *
  have hx := x.toNat_lt
  have hy := y.toNat_lt
  have hxy : x.toNat ^^^ y.toNat <<< 8 = y.toNat * 256 + x.toNat := by
    have := Nat.shiftLeft_add_eq_or_of_lt (i := 8) (b := x.toNat) hx y.toNat
    rw [Nat.shiftLeft_eq] at this
    rw [Nat.shiftLeft_eq, show y.toNat * 256 + x.toNat = y.toNat * 2 ^ 8 + x.toNat from rfl, this]
    apply Nat.eq_of_testBit_eq
    intro i
    simp only [Nat.testBit_xor, Nat.testBit_or]
    by_cases hi : i < 8
    · have : (y.toNat * 2 ^ 8).testBit i = false := by rw [Nat.testBit_mul_two_pow, decide_eq_false (by omega)]; rfl
      rw [this]; simp
    · have : x.toNat.testBit i = false := Nat.testBit_lt_two_pow (Nat.lt_of_lt_of_le hx (Nat.pow_le_pow_right (by omega) (by omega)))
      rw [this]; simp
  rw [hxy]
  have key : crcBits 16 (c ^^^ (y.toNat * 256 + x.toNat)) = 0 ↔ c = y.toNat * 256 + x.toNat := by
    constructor
    · intro h0
      have h1 := crcBits_zero 16 (v := c ^^^ (y.toNat * 256 + x.toNat)) (Nat.xor_lt_two_pow (n := 16) hcl (by omega)) h0
      have := congrArg (· ^^^ (y.toNat * 256 + x.toNat)) h1
      simpa only [Nat.xor_assoc, Nat.xor_self, Nat.xor_zero, Nat.zero_xor] using this
    · intro h0
      rw [← h0, Nat.xor_self, crcBits_of_zero]
  rw [Bool.eq_iff_iff]
  simp only [decide_eq_true_eq, key, Bool.and_eq_true, beq_iff_eq]
  constructor
  · rintro ⟨rfl, rfl⟩; omega
  · intro h0
    exact ⟨UInt8.toNat_inj.1 (by omega), UInt8.toNat_inj.1 (by omega)⟩
theorem checkB_append (l : List UInt8) : checkB (l ++ crcTail l) = true := by
  have hn : (l ++ crcTail l).length = l.length + 2 := by simp [crcTail]
  unfold checkB
  have e1 : (l ++ crcTail l).length - 2 = l.length := by omega
  rw [e1, List.take_left, List.drop_left, decide_eq_true (by omega)]
  simp

/-- The burst: what remains of the pattern p after i rounds, at the bit 'at'. -/
theorem burst_check {l m : List UInt8} {at_ p i : Nat} (hl : 2 ≤ l.length) (hml : m.length = l.length) (hc : checkB l = true) (hv : val m = val l ^^^ (p % 2 ^ i) <<< at_) (hi : i ≤ 16) (hat : at_ ≤ 8 * l.length) :
    checkB m = !decide (p % 2 ^ i ≠ 0) := by
  rw [checkB_zero hl] at hc
  simp only [decide_eq_true_eq] at hc
  rw [checkB_zero (by omega), crc_val, hml, hv, Nat.zero_xor, crcBits_xor]
  have h1 : crcBits (8 * l.length) (val l) = 0 := by rw [crc_val, Nat.zero_xor] at hc; exact hc
  rw [h1, Nat.zero_xor]
  obtain ⟨k, hk⟩ : ∃ k, 8 * l.length = k + at_ := ⟨8 * l.length - at_, by omega⟩
  rw [hk, ← crcBits_add, crcBits_shift]
  have hlt : p % 2 ^ i < 65536 := by
    have h2 := Nat.mod_lt p (Nat.two_pow_pos i)
    have h3 : 2 ^ i ≤ 2 ^ 16 := Nat.pow_le_pow_right (by omega) hi
    omega
  generalize p % 2 ^ i = q at *
  rw [Bool.eq_iff_iff]
  simp
  constructor
  · exact crcBits_zero k hlt
  · rintro rfl; exact crcBits_of_zero k
theorem burst_step {p i : Nat} : p % 2 ^ (i + 1) = if p / 2 ^ i % 2 = 1 then p % 2 ^ i ^^^ 2 ^ i else p % 2 ^ i := by
  have h1 : p % 2 ^ (i + 1) = p % 2 ^ i + 2 ^ i * (p / 2 ^ i % 2) := by rw [Nat.pow_succ, Nat.mod_mul]
  have hlt := Nat.mod_lt p (Nat.two_pow_pos i)
  split
  · rename_i h
    rw [h1, h, Nat.mul_one]
    have := Nat.two_pow_add_eq_or_of_lt hlt 1
    rw [Nat.mul_one] at this
    rw [Nat.add_comm, this]
    apply Nat.eq_of_testBit_eq
    intro j
    simp only [Nat.testBit_xor, Nat.testBit_or, Nat.testBit_two_pow]
    by_cases hj : i = j
    · subst hj
      have : (p % 2 ^ i).testBit i = false := Nat.testBit_lt_two_pow hlt
      simp [this]
    · simp [hj]
  · rename_i h
    have : p / 2 ^ i % 2 = 0 := by omega
    rw [h1, this]; simp
end Go.Proofs.Ytnfndhgcfhlemaa
