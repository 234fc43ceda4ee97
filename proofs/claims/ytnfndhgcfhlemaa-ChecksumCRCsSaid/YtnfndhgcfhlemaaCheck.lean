/- The contract of checksum.Check. -/
import Derived.Test.YtnfndhgcfhlemaaAppend
namespace Go.Proofs.Ytnfndhgcfhlemaa
open Go.RowKit
set_option linter.unusedVariables false

/-- Whether the last two bytes are the CRC of those before them. -/
def checkB (l : List UInt8) : Bool := decide (2 ≤ l.length) && (l.drop (l.length - 2) == crcTail (l.take (l.length - 2)))

theorem checkB_short {l : List UInt8} (h : l.length < 2) : checkB l = false := by
  unfold checkB; rw [decide_eq_false (by omega)]; rfl
theorem checkB_long {l : List UInt8} {n : Nat} (h : l.length = n + 2) (lo hi : UInt8) (hlo : lo.toNat = crc 0 (l.take n) % 256) (hhi : hi.toNat = crc 0 (l.take n) / 256) :
    checkB l = (l[n] == lo && l[n + 1] == hi) := by
  unfold checkB
  have e1 : l.length - 2 = n := by omega
  rw [e1, decide_eq_true (by omega)]
  have e2 : l.drop n = [l[n], l[n + 1]] := by
    rw [List.drop_eq_getElem_cons (by omega), List.drop_eq_getElem_cons (by omega), List.drop_eq_nil_of_le (by omega)]
  have e3 : crcTail (l.take n) = [lo, hi] := by
    unfold crcTail; rw [← hlo, ← hhi]; simp
  rw [e2, e3]
  simp

theorem u8_beq (a b : UInt8) : ((a.toNat : Int) == (b.toNat : Int)) = (a == b) := by
  rw [Bool.eq_iff_iff]
  simp
  exact ⟨fun h => UInt8.toNat_inj.1 (by omega), fun h => by rw [h]⟩

set_option maxHeartbeats 1000000 in
theorem check_any {v : Value} {l : List UInt8} {w : World} (h : Sl w v l) (hl : l.length ≤ 281474976710000) :
    Calls Try.prog 26 #[v] w fun e w' => e = .returned (.bool (checkB l)) ∧ w = w' := by
  obtain ⟨A, c, rfl, hc, hr⟩ := h
  by_cases h2 : l.length < 2
  · have HK := Lib.hid (checkB_short h2)
    go_enter Try.func26, Try.ntmps26
    go_wp2_with fail
    go_ret
    exact ⟨by rw [HK.out]; rfl, rfl⟩
  · obtain ⟨n, hn⟩ : ∃ n, l.length = n + 2 := ⟨l.length - 2, by omega⟩
    have hcl : crc 0 (l.take n) < 65536 := crc_lt (by omega) _
    obtain ⟨lo, hlo⟩ := u8_ex (crc 0 (l.take n) % 256) (by omega)
    obtain ⟨hi8, hhi⟩ := u8_ex (crc 0 (l.take n) / 256) (by omega)
    have HK := Lib.hid (checkB_long hn lo hi8 hlo hhi)
    obtain ⟨b, off, rfl, _, hcs⟩ := hr.bytes (by omega)
    have hc0 := hcs n (by omega)
    have hc1 := hcs (n + 1) (by omega)
    clear hcs
    generalize hx : l[n] = x at *
    generalize hy : l[n + 1] = y at *
    have S0 := Lib.hid (sl_to (m := n) hr hc (by omega))
    have e1 : (crc 0 (l.take n) : Int) / 256 = (hi8.toNat : Int) := by omega
    have e2 : (crc 0 (l.take n) : Int) % 256 = (lo.toNat : Int) := by omega
    have e3 : (l.length : Int) - 2 = (n : Int) := by omega
    have hnl : n + 2 ≤ l.length := by omega
    have hnl2 : l.length ≤ n + 2 := by omega
    clear hlo hhi hx hy hn h2 hr
    obtain ⟨cr, hcr⟩ : ∃ cr, crc 0 (l.take n) = cr := ⟨_, rfl⟩
    rw [hcr] at hcl e1 e2
    have HR := Lib.hid hcr
    clear hcr
    have u1 := u8_beq x lo
    have u2 := u8_beq y hi8
    go_enter Try.func26, Try.ntmps26
    go_wp2_with fail
    refine (crc_sl S0.out (by rw [List.length_take]; omega)).mono ?_
    rintro e w' ⟨rfl, rfl⟩
    rw [HR.out]
    cases hxy : (x == lo)
    all_goals
      rw [hxy] at u1 HK
      clear hxy
      go_wp2_with fail
    · go_ret
      exact ⟨by rw [HK.out]; rfl, rfl⟩
    · go_ret
      exact ⟨by rw [HK.out]; rfl, rfl⟩
end Go.Proofs.Ytnfndhgcfhlemaa
