/- PacketSums: the walk. -/
import Derived.Test.YtjknkfjhcapocaaPacketSumsA
import Derived.Test.YtjknkfjhcapocaaPkV
namespace Go.Proofs.Ytjknkfjhcapocaa
open Go.RowKit AX
set_option linter.unusedVariables false
theorem walkPacketSums (a0 : Option Addr) (len0 cap0 : Nat) (z0 : List Int) (a1 : Int) (a2 : Int) (a3 : Int) (w : World) (w0 : IsRow .i64 w a0 len0 cap0 z0) (rr0 : cap0 * 8 ≤ 140737488351232) (w1 : (Lit.int .u8 a1).wf = true) (w2 : (Lit.int .u8 a2).wf = true) (w3 : (Lit.int .u32 a3).wf = true) :
    Calls Try.prog 9 #[.slice a0 len0 cap0, .int .u8 a1, .int .u8 a2, .int .u32 a3] w fun e w' => e = .returned (.bool true) ∧ Below w.heap.size w w' :=
  walk_of (sums_ok len0 z0 (rng_of w0) a1 a2 a3 (wf_u8 w1) (wf_u8 w2) (wf_u32p w3)) (relL_cons (row_rel w0) (relL_cons rfl (relL_cons rfl (relL1 rfl))))
end Go.Proofs.Ytjknkfjhcapocaa
