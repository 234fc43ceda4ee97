/- MetricSettles: the walk. -/
import Derived.Test.YtolliidpmgncdaaMetricSettlesA
import Derived.Test.YtolliidpmgncdaaLr
namespace Go.Proofs.Ytolliidpmgncdaa
open Go.RowKit AX
set_option linter.unusedVariables false
theorem walkMetricSettles (a0 : Option Addr) (len0 cap0 : Nat) (z0 : List Int) (a1 : Int) (w : World) (w0 : IsRow .i64 w a0 len0 cap0 z0) (rr0 : cap0 * 8 ≤ 140737488351232) (w1 : (Lit.int .i64 a1).wf = true) :
    Calls Try.prog 10 #[.slice a0 len0 cap0, .int .i64 a1] w fun e w' => e = .returned (.bool true) ∧ Below w.heap.size w w' :=
  walk_of (msettles_ok len0 z0 a1 (rng_of w0)) (relL_cons (row_rel w0) (relL1 rfl))
end Go.Proofs.Ytolliidpmgncdaa
