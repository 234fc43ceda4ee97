/- The contracts of checksum.Extend and CRC, and of multihopmade.Mod. -/
import Derived.Test.YtnfndhgcfhlemaaChecked
import Derived.Test.YtnfndhgcfhlemaaPlain
import Derived.Test.YtnfndhgcfhlemaaWords
import Derived.WalkSpells
import Derived.Outline
import Derived.Laws.BitsAllLaws
namespace Go.Proofs.Ytnfndhgcfhlemaa
open Go.RowKit
set_option linter.unusedVariables false

/-- One step of the CRC. -/
def crcBit (c : Nat) : Nat := if c % 2 = 1 then c / 2 ^^^ 33800 else c / 2
def crcBits : Nat → Nat → Nat
  | 0, c => c
  | k + 1, c => crcBit (crcBits k c)
def crcByte (c : Nat) (b : UInt8) : Nat := crcBits 8 (c ^^^ b.toNat)
def crc (c : Nat) (l : List UInt8) : Nat := l.foldl crcByte c

theorem crcBit_lt {c : Nat} (h : c < 65536) : crcBit c < 65536 := by
  unfold crcBit; split
  · exact Nat.xor_lt_two_pow (n := 16) (by omega) (by omega)
  · omega
theorem crcBits_lt (k : Nat) {c : Nat} (h : c < 65536) : crcBits k c < 65536 := by
  induction k with
  | zero => exact h
  | succ k ih => exact crcBit_lt ih
theorem xor_byte_lt {c : Nat} (h : c < 65536) (b : UInt8) : c ^^^ b.toNat < 65536 :=
  Nat.xor_lt_two_pow (n := 16) h (by have := b.toNat_lt; omega)
theorem crcByte_lt {c : Nat} (h : c < 65536) (b : UInt8) : crcByte c b < 65536 := crcBits_lt 8 (xor_byte_lt h b)
theorem crc_lt {c : Nat} (h : c < 65536) (l : List UInt8) : crc c l < 65536 := by
  induction l generalizing c with
  | nil => exact h
  | cons b l ih => exact ih (crcByte_lt h b)
theorem crc_snoc (c : Nat) (l : List UInt8) (b : UInt8) : crc c (l ++ [b]) = crcByte (crc c l) b := by simp [crc]

theorem crcBit_odd {y : Nat} (hy : y < 65536) (h : ((y : Int) % 2 == 1) = true) : Value.int .u16 (bits .xor .u16 ((y : Int) / 2) 33800) = .int .u16 ((crcBit y : Nat) : Int) := by
  have hz := u16_xor_nat (y / 2) 33800 (by omega) (by omega)
  have h1 : y % 2 = 1 := by simp at h; omega
  have e : ((y / 2 : Nat) : Int) = (y : Int) / 2 := by omega
  rw [e] at hz
  unfold crcBit
  rw [if_pos h1, ← hz]
  rfl
theorem crcBit_even {y : Nat} (h : ((y : Int) % 2 == 1) = false) : Value.int .u16 ((y : Int) / 2) = .int .u16 ((crcBit y : Nat) : Int) := by
  have h1 : ¬ y % 2 = 1 := by simp at h; omega
  unfold crcBit
  rw [if_neg h1]
  congr 1

set_option maxHeartbeats 400000 in
theorem extend_any (c : Nat) (hc : c < 65536) (A : Option Addr) (cap : Nat) (l : List UInt8) (w : World) (h : Row w A (bv l)) (hl : l.length ≤ 281474976710000) :
    Calls Try.prog 14 #[.int .u16 c, .slice A l.length cap] w fun e w' => e = .returned (.int .u16 (crc c l)) ∧ w = w' := by
  go_enter Try.func14, Try.ntmps14
  go_wp2
  go_loop [0, 10] (fun r i => ∃ k : Nat, k ≤ l.length ∧ i = .int .i64 k ∧ r = .int .u16 (crc c (l.take k))) (fun _ i => l.length - (intOf i).toNat)
  case atStart => exact ⟨0, Nat.zero_le _, rfl, rfl⟩
  case round =>
    obtain ⟨k, hk, rfl, rfl⟩ := hrel
    by_cases hlt : k < l.length
    · obtain ⟨ad, rfl, _, hcb⟩ := h.byte hlt
      have H1 := Lib.hid (take_snoc_ hlt)
      have H2 := Lib.hid (crc_snoc c (l.take k) l[k])
      have hx := xor_byte_lt (crc_lt hc (l.take k)) l[k]
      have hx1 := u16_xor_nat (crc c (l.take k)) l[k].toNat (crc_lt hc _) (by have := l[k].toNat_lt; omega)
      have H3 : Hid (crcByte (crc c (l.take k)) l[k] = crcBits 8 (crc c (l.take k) ^^^ l[k].toNat)) := Lib.hid rfl
      have hr := crc_lt hc (l.take k)
      have hb := l[k].toNat_lt
      generalize l[k].toNat = b at *
      generalize hR : crc c (l.take k) = r at *
      clear hR
      go_wp2
      generalize r ^^^ b = x at *
      clear hx1
      go_loop [0, 18] (fun r i => ∃ k : Nat, k ≤ 8 ∧ i = .int .i64 k ∧ r = .int .u16 (crcBits k x)) (fun _ i => 8 - (intOf i).toNat)
      case atStart => exact ⟨0, Nat.zero_le _, rfl, rfl⟩
      case round =>
        obtain ⟨j, hj, rfl, rfl⟩ := hrel
        by_cases hj8 : j < 8
        · have hy := crcBits_lt j hx
          have HB : Hid (crcBits (j + 1) x = crcBit (crcBits j x)) := Lib.hid rfl
          generalize crcBits j x = y at *
          have ha : bits .and .u16 (y : Int) 1 = ((y % 2 : Nat) : Int) := by
            have := u16_and_nat y 1 hy (by omega)
            rw [Nat.and_one_is_mod] at this
            exact this
          go_wp2_with fail
          · go_round
            case rel => exact ⟨j + 1, by omega, by go_num, by rw [HB.out]; exact crcBit_odd hy ‹_›⟩
            case measure => simp [intOf]; omega
          · go_round
            case rel => exact ⟨j + 1, by omega, by go_num, by rw [HB.out]; exact crcBit_even ‹_›⟩
            case measure => simp [intOf]; omega
        · obtain rfl : j = 8 := by omega
          rw [← H3.out]
          go_wp2_with fail
          go_round
          case rel => exact ⟨k + 1, by omega, by go_num, by rw [H1.out, H2.out]⟩
          case measure => simp [intOf]; omega
    · obtain rfl : k = l.length := by omega
      go_wp2_with fail
      go_ret
      exact ⟨rfl, rfl⟩

theorem extend_sl {c : Nat} {v : Value} {l : List UInt8} {w : World} (hc : c < 65536) (h : Sl w v l) (hl : l.length ≤ 281474976710000) :
    Calls Try.prog 14 #[.int .u16 c, v] w fun e w' => e = .returned (.int .u16 (crc c l)) ∧ w = w' := by
  obtain ⟨A, cap, rfl, _, hr⟩ := h
  exact extend_any c hc A cap l w hr hl

theorem crc_any (A : Option Addr) (n cap : Nat) (l : List UInt8) (w : World) (h : Row w A (bv l)) (hn : l.length = n) (hl : n ≤ 281474976710000) :
    Calls Try.prog 15 #[.slice A n cap] w fun e w' => e = .returned (.int .u16 (crc 0 l)) ∧ w = w' := by
  subst hn
  go_enter Try.func15, Try.ntmps15
  go_wp2_with fail
  refine (extend_any 0 (by omega) A cap l w h hl).mono ?_
  rintro e w' ⟨rfl, rfl⟩
  go_wp2_with fail
  go_ret
  exact ⟨rfl, rfl⟩

theorem crc_sl {v : Value} {l : List UInt8} {w : World} (h : Sl w v l) (hl : l.length ≤ 281474976710000) :
    Calls Try.prog 15 #[v] w fun e w' => e = .returned (.int .u16 (crc 0 l)) ∧ w = w' := by
  obtain ⟨A, cap, rfl, _, hr⟩ := h
  exact crc_any A _ cap l w hr rfl hl
theorem crc_append (c : Nat) (l m : List UInt8) : crc c (l ++ m) = crc (crc c l) m := by simp [crc]
/-- A remainder as a natural number below the divisor. -/
theorem emod_nat (v : Int) (n : Int) (hn : 1 ≤ n) : ∃ i : Nat, v % n = (i : Int) ∧ (i : Int) < n :=
  ⟨(v % n).toNat, by have := Int.emod_nonneg v (show n ≠ 0 by omega); omega, by have := Int.emod_lt_of_pos v (show 0 < n by omega); have := Int.emod_nonneg v (show n ≠ 0 by omega); omega⟩

theorem tmod_facts (v n : Int) (hn : 1 ≤ n) : -n < v.tmod n ∧ v.tmod n < n ∧ (v.tmod n < 0 → v.tmod n + n = v % n) ∧ (0 ≤ v.tmod n → v.tmod n = v % n) := by
  have h1 := Int.emod_nonneg v (show n ≠ 0 by omega)
  have h2 := Int.emod_lt_of_pos v (show 0 < n by omega)
  have h3 := Int.tmod_eq_emod (a := v) (b := n)
  by_cases hc : 0 ≤ v ∨ n ∣ v
  · rw [if_pos hc] at h3; omega
  · rw [if_neg hc] at h3
    have h4 : v % n ≠ 0 := fun e => hc (.inr (Int.dvd_of_emod_eq_zero e))
    omega

theorem mod_any (v n : Int) (hn : 1 ≤ n) (hn2 : n ≤ 9223372036854775807) (hv : -9223372036854775808 ≤ v ∧ v ≤ 9223372036854775807) (w : World) :
    Calls Try.prog 11 #[.int .i64 v, .int .i64 n] w fun e w' => e = .returned (.int .i64 (v % n)) ∧ w = w' := by
  obtain ⟨h1, h2, h3, h4⟩ := tmod_facts v n hn
  have H3 := Lib.hid h3
  have H4 := Lib.hid h4
  clear h3 h4
  have hn0 : (n == 0) = false := by simp; omega
  go_enter Try.func11, Try.ntmps11
  go_wp2_with fail
  · go_ret
    exact ⟨by rw [← H3.out ‹_›]; rfl, rfl⟩
  · go_ret
    exact ⟨by rw [← H4.out ‹_›]; rfl, rfl⟩
end Go.Proofs.Ytnfndhgcfhlemaa
