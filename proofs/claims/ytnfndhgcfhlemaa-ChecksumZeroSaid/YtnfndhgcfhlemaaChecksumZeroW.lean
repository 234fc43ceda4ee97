/- The walk of ChecksumZero. -/
import Derived.Test.YtnfndhgcfhlemaaKnown
namespace Go.Proofs.Ytnfndhgcfhlemaa
open Go.RowKit
set_option linter.unusedVariables false

set_option maxHeartbeats 1000000 in
theorem walkChecksumZero (a0 : Option Addr) (len0 cap0 : Nat) (z0 : List Int) (w : World) (w0 : IsRow .u8 w a0 len0 cap0 z0) (rr0 : cap0 * 1 ≤ 140737488351232) :
    Calls Try.prog 5 #[.slice a0 len0 cap0] w fun e w' => e = .returned (.bool true) ∧ Below w.heap.size w w' := by
  obtain ⟨l, rfl, hlc, hcm, hr⟩ := w0.bytes
  clear w0 hcm
  have hl : l.length ≤ 140737488351232 := by omega
  go_enter Try.func5, Try.ntmps5
  go_wp2_with fail
  obtain ⟨m, hm⟩ : ∃ m, l.take (l.length / 2 * 2) = m := ⟨_, rfl⟩
  have hml : m.length = l.length / 2 * 2 := by rw [← hm]; simp; omega
  have hme : m.length % 2 = 0 := by omega
  have S0 := sl_to (m := l.length / 2 * 2) hr hlc (by omega)
  rw [hm] at S0
  have hmb : m.length ≤ 140737488351232 := by omega
  have HM := Lib.hid hml
  have HE := Lib.hid hme
  have HS0 := Lib.hid S0
  clear hm hml hme S0
  generalize l.length / 2 * 2 = n at *
  refine (internet_1 (v0 := .slice a0 n cap0) (l0 := m) (by simp [go_sem]) (HS0.out.below ((Below.refl _ _).alloc (Nat.le_refl _) _)) (by omega)).mono ?_
  rintro e w' ⟨rfl, rfl⟩
  have hc : inet m ≤ 65535 := by unfold inet; omega
  have HC : Hid (inet m = 65535 - foldN (tot true m)) := Lib.hid rfl
  have hF := foldN_le (tot true m)
  obtain ⟨c, hcc⟩ : ∃ c, inet m = c := ⟨_, rfl⟩
  rw [hcc] at hc HC ⊢
  clear hcc
  go_wp2_with fail
  refine (known_any _).mono ?_
  rintro e w1 ⟨rfl, hb1⟩
  go_wp2_with fail
  obtain ⟨hi, hhi⟩ := u8_ex (c / 256) (by omega)
  obtain ⟨lo, hlo⟩ := u8_ex (c % 256) (by omega)
  have e1 : (c : Int) / 256 = (hi.toNat : Int) := by omega
  have e2 : (c : Int) % 256 = (lo.toNat : Int) := by omega
  have hz := fold_zero HE.out hi lo (by rw [← HC.out]; omega)
  have HZ : Hid (inet (m ++ [hi, lo]) = 0) := Lib.hid (by unfold inet; rw [hz])
  clear hz
  rw [e1, e2]
  clear e1 e2
  have hbw : Below w.heap.size w w1 := bel_trans ((Below.refl _ _).alloc (Nat.le_refl _) _) hb1
  refine (internet_2 (v0 := .slice a0 n cap0) (v1 := .slice (some ⟨w1.heap.size, 0, none⟩) 2 2) (l0 := m) (l1 := [hi, lo]) (by simp [go_sem]) (by simp [go_sem])
    (HS0.out.below (bel_alloc (bel_alloc hbw _) _)) ((sl_new w1 5 [hi, lo] _ rfl 2 rfl).below ((Below.refl _ _).alloc (Nat.le_refl _) _)) (by simp; omega)).mono ?_
  rintro e w2 ⟨rfl, rfl⟩
  rw [HZ.out]
  go_wp2_with fail
  refine (sum_sl (HS0.out.below (bel_alloc (bel_alloc hbw _) _)) (by omega)).mono ?_
  rintro e w2 ⟨rfl, hb2⟩
  have e3 : (foldN (tot true m) : Int) = 65535 - (c : Int) := by have := HC.out; omega
  rw [e3]
  clear e3
  go_wp2_with fail
  go_ret
  refine ⟨?_, bel_trans (bel_alloc (bel_alloc hbw _) _) hb2⟩
  simp
end Go.Proofs.Ytnfndhgcfhlemaa
