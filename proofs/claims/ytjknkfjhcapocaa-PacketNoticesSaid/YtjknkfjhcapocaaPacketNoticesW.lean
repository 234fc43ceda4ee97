/- PacketNotices: the walk. -/
import Derived.Test.YtjknkfjhcapocaaPacketNoticesA
import Derived.Test.YtjknkfjhcapocaaPkV
namespace Go.Proofs.Ytjknkfjhcapocaa
open Go.RowKit AX
set_option linter.unusedVariables false
theorem walkPacketNotices (a0 : Option Addr) (len0 cap0 : Nat) (z0 : List Int) (a1 : Int) (a2 : Int) (w : World) (w0 : IsRow .i64 w a0 len0 cap0 z0) (rr0 : cap0 * 8 ≤ 140737488351232) (w1 : (Lit.int .i64 a1).wf = true) (w2 : (Lit.int .i64 a2).wf = true) :
    Calls Try.prog 8 #[.slice a0 len0 cap0, .int .i64 a1, .int .i64 a2] w fun e w' => e = .returned (.bool true) ∧ Below w.heap.size w w' :=
  walk_of (notices_ok len0 z0 (rng_of w0) a1 a2) (relL_cons (row_rel w0) (relL_cons rfl (relL1 rfl)))
end Go.Proofs.Ytjknkfjhcapocaa
