/- The walk of ChecksumSums, for arguments of bounded size. -/
import Derived.Test.YtnfndhgcfhlemaaKnown
import Derived.Test.YtnfndhgcfhlemaaRefSum
namespace Go.Proofs.Ytnfndhgcfhlemaa
open Go.RowKit
set_option linter.unusedVariables false

theorem rinternet_1 {w : World} {g : Nat} {v0 : Value} {l0 : List UInt8} (h0 : w.cell? ⟨g, 0, none⟩ = some v0) (s0 : Sl w v0 l0) (hf : l0.length ≤ 140737488351232) :
    Calls Try.prog 19 #[.slice (some ⟨g, 0, none⟩) 1 1] w fun e w' => e = .returned (.int .u16 (inet l0)) ∧ Below w.heap.size w w' := by
  have := rinternet_of (some ⟨g, 0, none⟩) 1 1 [l0] w (parts_1 h0 s0) rfl (by omega) (by simpa using hf)
  simpa using this
theorem rinternet_2 {w : World} {g : Nat} {v0 v1 : Value} {l0 l1 : List UInt8} (h0 : w.cell? ⟨g, 0, none⟩ = some v0) (h1 : w.cell? ⟨g, 1, none⟩ = some v1) (s0 : Sl w v0 l0) (s1 : Sl w v1 l1) (hf : (l0 ++ l1).length ≤ 140737488351232) :
    Calls Try.prog 19 #[.slice (some ⟨g, 0, none⟩) 2 2] w fun e w' => e = .returned (.int .u16 (inet (l0 ++ l1))) ∧ Below w.heap.size w w' := by
  have := rinternet_of (some ⟨g, 0, none⟩) 2 2 [l0, l1] w (parts_2 h0 h1 s0 s1) rfl (by omega) (by simpa using hf)
  simpa using this

set_option maxHeartbeats 1000000 in
theorem walkChecksumSums (a0 : Option Addr) (len0 cap0 : Nat) (z0 : List Int) (a1 : Option Addr) (len1 cap1 : Nat) (z1 : List Int) (a2 : Int) (a3 : Int) (a4 : Int) (w : World) (w0 : IsRow .u8 w a0 len0 cap0 z0) (rr0 : cap0 ≤ 1048576) (w1 : IsRow .u8 w a1 len1 cap1 z1) (rr1 : cap1 ≤ 1048576) (w2 : (Lit.int .u16 a2).wf = true) (w3 : (Lit.int .u16 a3).wf = true) (w4 : (Lit.int .u16 a4).wf = true) :
    Calls Try.prog 8 #[.slice a0 len0 cap0, .slice a1 len1 cap1, .int .u16 a2, .int .u16 a3, .int .u16 a4] w fun e w' => e = .returned (.bool true) ∧ Below w.heap.size w w' := by
  obtain ⟨l, rfl, hlc, _, hr⟩ := w0.bytes
  obtain ⟨m, rfl, hmc, _, hq⟩ := w1.bytes
  have b2 := bounds_u16 w2
  have b3 := bounds_u16 w3
  have b4 := bounds_u16 w4
  obtain ⟨s, rfl⟩ := Int.eq_ofNat_of_zero_le b2.1
  obtain ⟨o, rfl⟩ := Int.eq_ofNat_of_zero_le b3.1
  obtain ⟨n, rfl⟩ := Int.eq_ofNat_of_zero_le b4.1
  have hs : s ≤ 65535 := by omega
  have ho : o ≤ 65535 := by omega
  have hn : n ≤ 65535 := by omega
  clear w0 w1 w2 w3 w4 b2 b3 b4
  have hl : l.length ≤ 1048576 := by omega
  have hm : m.length ≤ 1048576 := by omega
  have S0 := Lib.hid (sl_mk rfl hlc hr)
  have S1 := Lib.hid (sl_mk rfl hmc hq)
  go_enter Try.func8, Try.ntmps8
  go_wp2_with fail
  refine (known_any _).mono ?_
  rintro e w1 ⟨rfl, hb1⟩
  go_wp2_with fail
  refine (sum_sl (S0.out.below hb1) (by omega)).mono ?_
  rintro e w2 ⟨rfl, hb2⟩
  have hb12 := bel_trans hb1 hb2
  go_wp2_with fail
  refine (rsum_sl (S0.out.below hb12) (by omega)).mono ?_
  rintro e w3 ⟨rfl, rfl⟩
  go_wp2_with fail
  have hba := bel_alloc hb12 (.cells #[.slice a0 l.length cap0, .slice a1 m.length cap1] 22)
  refine (internet_2 (v0 := .slice a0 l.length cap0) (v1 := .slice a1 m.length cap1) (l0 := l) (l1 := m) (by simp [go_sem]) (by simp [go_sem]) (S0.out.below hba) (S1.out.below hba) (by simp; omega)).mono ?_
  rintro e w3 ⟨rfl, rfl⟩
  go_wp2_with fail
  have hbb := bel_alloc hba (.cells #[.slice a0 l.length cap0, .slice a1 m.length cap1] 22)
  refine (rinternet_2 (v0 := .slice a0 l.length cap0) (v1 := .slice a1 m.length cap1) (l0 := l) (l1 := m) (by simp [go_sem]) (by simp [go_sem]) (S0.out.below hbb) (S1.out.below hbb) (by simp; omega)).mono ?_
  rintro e w3 ⟨rfl, hb3⟩
  have hb13 := bel_trans hbb hb3
  go_wp2_with fail
  have hbc := bel_alloc hb13 (.cells #[.slice a0 l.length cap0] 22)
  refine (internet_1 (v0 := .slice a0 l.length cap0) (l0 := l) (by simp [go_sem]) (S0.out.below hbc) (by omega)).mono ?_
  rintro e w4 ⟨rfl, rfl⟩
  go_wp2_with fail
  have hbd := bel_alloc hbc (.cells #[.slice a0 l.length cap0] 22)
  refine (rinternet_1 (v0 := .slice a0 l.length cap0) (l0 := l) (by simp [go_sem]) (S0.out.below hbd) (by omega)).mono ?_
  rintro e w4 ⟨rfl, hb4⟩
  have hb14 := bel_trans hbd hb4
  go_wp2_with fail
  refine (update_any s o n hs ho hn _).mono ?_
  rintro e w5 ⟨rfl, rfl⟩
  go_wp2_with fail
  refine (rupdate_any s o n hs ho hn _).mono ?_
  rintro e w5 ⟨rfl, rfl⟩
  go_wp2_with fail
  go_ret
  exact ⟨rfl, hb14⟩
end Go.Proofs.Ytnfndhgcfhlemaa
