/- PacketForwards: the walk. -/
import Derived.Test.YtjknkfjhcapocaaPacketForwardsA
import Derived.Test.YtjknkfjhcapocaaPkV
namespace Go.Proofs.Ytjknkfjhcapocaa
open Go.RowKit AX
set_option linter.unusedVariables false
theorem walkPacketForwards (a0 : Option Addr) (len0 cap0 : Nat) (z0 : List Int) (a1 : Int) (w : World) (w0 : IsRow .i64 w a0 len0 cap0 z0) (rr0 : cap0 * 8 ≤ 140737488351232) (w1 : (Lit.int .u8 a1).wf = true) :
    Calls Try.prog 7 #[.slice a0 len0 cap0, .int .u8 a1] w fun e w' => e = .returned (.bool true) ∧ Below w.heap.size w w' :=
  walk_of (forwards_ok len0 z0 (rng_of w0) a1 (wf_u8 w1)) (relL_cons (row_rel w0) (relL1 rfl))
end Go.Proofs.Ytjknkfjhcapocaa
