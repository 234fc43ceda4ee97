/- The walk of ChecksumCRCs. -/
import Derived.Test.YtnfndhgcfhlemaaRefCrc
namespace Go.Proofs.Ytnfndhgcfhlemaa
open Go.RowKit
set_option linter.unusedVariables false

theorem bel_drewN {w w' : World} (h : Below w.heap.size w w') (n : Nat) : Below w.heap.size w (w'.drewN n) := ⟨h.os, h.tape, h.output, h.size, h.block⟩

set_option maxHeartbeats 1000000 in
theorem walkChecksumCRCs (a0 : Option Addr) (len0 cap0 : Nat) (z0 : List Int) (a1 : Int) (w : World) (w0 : IsRow .u8 w a0 len0 cap0 z0) (rr0 : cap0 * 1 ≤ 140737488351232) (w1 : (Lit.int .u16 a1).wf = true) :
    Calls Try.prog 9 #[.slice a0 len0 cap0, .int .u16 a1] w fun e w' => e = .returned (.bool true) ∧ Below w.heap.size w w' := by
  obtain ⟨l, rfl, hlc, hcm, hr⟩ := w0.bytes
  have b1 := bounds_u16 w1
  obtain ⟨c, rfl⟩ := Int.eq_ofNat_of_zero_le b1.1
  have hc16 : c < 65536 := by omega
  clear w0 w1 hcm b1
  have hl : l.length ≤ 140737488351232 := by omega
  have S0 := Lib.hid (sl_mk rfl hlc hr)
  go_enter Try.func9, Try.ntmps9
  go_wp2_with fail
  refine (rappend_any S0.out hl).mono ?_
  rintro e w1 ⟨r, rfl, hown, hb1⟩
  have HR := Lib.hid (sl_of_own hown)
  clear hown
  go_wp2_with fail
  refine (known_any _).mono ?_
  rintro e w2 ⟨rfl, hb2⟩
  have hb12 := bel_trans hb1 hb2
  go_wp2_with fail
  refine (extend_sl hc16 (S0.out.below hb12) (by omega)).mono ?_
  rintro e w3 ⟨rfl, rfl⟩
  go_wp2_with fail
  refine (rextend_sl hc16 (S0.out.below hb12) (by omega)).mono ?_
  rintro e w3 ⟨rfl, rfl⟩
  go_wp2_with fail
  refine (crc_sl (S0.out.below hb12) (by omega)).mono ?_
  rintro e w3 ⟨rfl, rfl⟩
  go_wp2_with fail
  refine (rcrc_sl (S0.out.below hb12) (by omega)).mono ?_
  rintro e w3 ⟨rfl, rfl⟩
  go_wp2_with fail
  refine (append_any (S0.out.below hb12) hl).mono ?_
  rintro e w3 ⟨r', rfl, hown, hb3⟩
  have HR' := Lib.hid (sl_of_own hown)
  clear hown
  have hb13 := bel_trans hb12 hb3
  have hln : (l ++ crcTail l).length = l.length + 2 := by simp [crcTail]
  go_wp2_with fail
  refine (same_any HR'.out (HR.out.below (bel_trans hb2 hb3)) (by omega) (by omega)).mono ?_
  rintro e w4 ⟨rfl, n4, rfl⟩
  have hbe : ((l ++ crcTail l) == (l ++ crcTail l)) = true := by simp
  rw [hbe]
  clear hbe
  have hb14 := bel_drewN hb13 n4
  go_wp2_with fail
  refine (check_any (S0.out.below hb14) (by omega)).mono ?_
  rintro e w5 ⟨rfl, rfl⟩
  go_wp2_with fail
  refine (rcheck_any (S0.out.below hb14) (by omega)).mono ?_
  rintro e w5 ⟨rfl, rfl⟩
  go_wp2_with fail
  refine (check_any (HR.out.below (bel_drewN (bel_trans hb2 hb3) n4)) (by omega)).mono ?_
  rintro e w5 ⟨rfl, rfl⟩
  rw [checkB_append]
  go_wp2_with fail
  go_ret
  exact ⟨rfl, hb14⟩
end Go.Proofs.Ytnfndhgcfhlemaa
