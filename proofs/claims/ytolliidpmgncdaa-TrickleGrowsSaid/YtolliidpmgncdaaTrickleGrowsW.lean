/- TrickleGrows: the walk. -/
import Derived.Test.YtolliidpmgncdaaTrickleGrowsA
import Derived.Test.YtolliidpmgncdaaTrickleOnceW
namespace Go.Proofs.Ytolliidpmgncdaa
open Go.RowKit AX
set_option linter.unusedVariables false
theorem walkTrickleGrows (a0 : Option Addr) (len0 cap0 : Nat) (z0 : List Int) (a1 : Int) (w : World) (w0 : IsRow .i64 w a0 len0 cap0 z0) (rr0 : cap0 * 8 ≤ 140737488351232) (w1 : (Lit.int .u32 a1).wf = true) :
    Calls Try.prog 5 #[.slice a0 len0 cap0, .int .u32 a1] w fun e w' => e = .returned (.bool true) ∧ Below w.heap.size w w' :=
  walk_of (grows_ok len0 (rowF .i64 z0) a1 (wf_u32 w1) (rowOk_of w0) (leC_sl rfl rfl fun _ _ _ _ => leC_int rfl)) (relL_cons (row_rel w0 (by unfold room; omega)) (relL1 rfl))
end Go.Proofs.Ytolliidpmgncdaa
