/- MetricChooses: the walk. -/
import Derived.Test.YtolliidpmgncdaaMetricChoosesA
import Derived.Test.YtolliidpmgncdaaFl
namespace Go.Proofs.Ytolliidpmgncdaa
open Go.RowKit AX
set_option linter.unusedVariables false
abbrev ksCh : List (Option IntKind) := [some .u64, some .i64, some .i64]
abbrev ksOp : List (Option IntKind) := [some .u64, some .i64]
theorem ok_chk (g : Nat → CV) (h : MtC ksCh g) : eCh.ok g = true := by
  show (isK .u64 (g 0) && isK .i64 (g 1) && isK .i64 (g 2)) = true
  rw [h.k (j := 0) rfl, h.k (j := 1) rfl, h.k (j := 2) rfl]; rfl
theorem ok_opk (g : Nat → CV) (h : MtC ksOp g) : eOp.ok g = true := by
  show (isK .u64 (g 0) && isK .i64 (g 1)) = true
  rw [h.k (j := 0) rfl, h.k (j := 1) rfl]; rfl
theorem walkMetricChooses (a0 : Int) (x1 : Array Value) (a2 : Option Addr) (len2 cap2 : Nat) (a3 : Option Addr) (len3 cap3 : Nat) (z3 : List Int) (w : World) (w0 : (Lit.int .i64 a0).wf = true) (w1 : Mt [some .u64, some .i64, some .i64] x1.toList) (w2 : IsRows w [some .u64, some .i64] a2 len2 cap2) (rr2 : len2 * 16 ≤ 140737488351232) (w3 : IsRow .i64 w a3 len3 cap3 z3) (rr3 : cap3 * 8 ≤ 140737488351232) :
    Calls Try.prog 12 #[.int .i64 a0, .agg x1, .slice a2 len2 cap2, .slice a3 len3 cap3] w fun e w' => e = .returned (.bool true) ∧ Below w.heap.size w w' := by
  obtain ⟨c, hc, h1⟩ := flat_rel w1 (E := eCh) (w := w) rfl ok_chk
  obtain ⟨raw, hn, hraw, h2⟩ := rows_rel w2 (E := eOp) (by decide) rfl ok_opk
  exact walk_of (mchooses_ok a0 c raw len3 z3 (rng_of w3)) (relL_cons rfl (relL_cons h1 (relL_cons h2 (relL1 (row_rel w3)))))
end Go.Proofs.Ytolliidpmgncdaa
