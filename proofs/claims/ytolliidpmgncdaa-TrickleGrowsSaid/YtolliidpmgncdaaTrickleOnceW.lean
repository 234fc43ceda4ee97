/- TrickleOnce: the walk. -/
import Derived.Test.YtolliidpmgncdaaTrickleOnceA
import Derived.Test.YtolliidpmgncdaaAxRow
namespace Go.Proofs.Ytolliidpmgncdaa
open Go.RowKit AX
set_option linter.unusedVariables false
theorem rowOk_of {w : World} {a : Option Addr} {len cap : Nat} {zs : List Int} (h : IsRow .i64 w a len cap zs) : RowOk len (rowF .i64 zs) := fun i hi => ⟨_, rfl, row_range h i hi⟩
theorem walkTrickleOnce (a0 : Option Addr) (len0 cap0 : Nat) (z0 : List Int) (w : World) (w0 : IsRow .i64 w a0 len0 cap0 z0) (rr0 : cap0 * 8 ≤ 140737488351232) :
    Calls Try.prog 3 #[.slice a0 len0 cap0] w fun e w' => e = .returned (.bool true) ∧ Below w.heap.size w w' :=
  walk_of (once_ok len0 (rowF .i64 z0) (rowOk_of w0) (leC_sl rfl rfl fun _ _ _ _ => leC_int rfl)) (relL1 (row_rel w0 (by unfold room; omega)))
end Go.Proofs.Ytolliidpmgncdaa
