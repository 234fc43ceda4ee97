/- PacketCanonical: the walk. -/
import Derived.Test.YtjknkfjhcapocaaPacketCanonicalA
import Derived.Test.YtjknkfjhcapocaaPkV
namespace Go.Proofs.Ytjknkfjhcapocaa
open Go.RowKit AX
set_option linter.unusedVariables false
theorem walkPacketCanonical (a0 : Option Addr) (len0 cap0 : Nat) (z0 : List Int) (a1 : Option Addr) (len1 cap1 : Nat) (z1 : List Int) (a2 : Int) (a3 : Int) (w : World) (w0 : IsRow .u8 w a0 len0 cap0 z0) (rr0 : cap0 * 1 ≤ 140737488351232) (w1 : IsRow .i64 w a1 len1 cap1 z1) (rr1 : cap1 * 8 ≤ 140737488351232) (w2 : (Lit.int .i64 a2).wf = true) (w3 : (Lit.int .u8 a3).wf = true) :
    Calls Try.prog 6 #[.slice a0 len0 cap0, .slice a1 len1 cap1, .int .i64 a2, .int .u8 a3] w fun e w' => e = .returned (.bool true) ∧ Below w.heap.size w w' := by
  obtain ⟨b, hb, hl, hrel⟩ := rowB_cut w0
  have h3 := (rowB_all w0).2.2
  exact walk_of (canonical_ok b hb (by omega) len1 z1 (rng_of w1) a2 a3 (wf_u8 w3)) (relL_cons hrel (relL_cons (row_rel w1) (relL_cons rfl (relL1 rfl))))
end Go.Proofs.Ytjknkfjhcapocaa
