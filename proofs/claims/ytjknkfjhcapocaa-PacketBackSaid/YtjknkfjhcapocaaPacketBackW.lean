/- PacketBack: the walk. -/
import Derived.Test.YtjknkfjhcapocaaPacketBackA
import Derived.Test.YtjknkfjhcapocaaPkV
namespace Go.Proofs.Ytjknkfjhcapocaa
open Go.RowKit AX
set_option linter.unusedVariables false
theorem walkPacketBack (a0 : Option Addr) (len0 cap0 : Nat) (z0 : List Int) (w : World) (w0 : IsRow .i64 w a0 len0 cap0 z0) (rr0 : cap0 * 8 ≤ 140737488351232) :
    Calls Try.prog 5 #[.slice a0 len0 cap0] w fun e w' => e = .returned (.bool true) ∧ Below w.heap.size w w' :=
  walk_of (back_ok len0 z0 (rng_of w0)) (relL1 (row_rel w0))
end Go.Proofs.Ytjknkfjhcapocaa
