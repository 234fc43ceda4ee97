/- TrickleCovers: the walk. -/
import Derived.Test.YtolliidpmgncdaaTrickleCoversA
import Derived.Test.YtolliidpmgncdaaFlat
namespace Go.Proofs.Ytolliidpmgncdaa
open Go.RowKit AX
set_option linter.unusedVariables false
theorem walkTrickleCovers (x0 : Array Value) (a1 : Int) (a2 : Int) (w : World) (w0 : Mt [some .u32, some .u32, some .u32, some .u32, some .u32] x0.toList) (w1 : (Lit.int .i64 a1).wf = true) (w2 : (Lit.int .i64 a2).wf = true) :
    Calls Try.prog 4 #[.agg x0, .int .i64 a1, .int .i64 a2] w fun e w' => e = .returned (.bool true) ∧ Below w.heap.size w w' := by
  obtain ⟨l⟩ := x0
  match l, w0 with
  | [c0, c1, c2, c3, c4], ⟨⟨d0, e0, r0⟩, ⟨d1, e1, r1⟩, ⟨d2, e2, r2⟩, ⟨d3, e3, r3⟩, ⟨d4, e4, r4⟩, _⟩ =>
    subst e0 e1 e2 e3 e4
    refine walk_of (covers_ok (fun k => [d0, d1, d2, d3, d4].getD k 0) a1 a2 ?_) (relL_cons (agg_rel rfl ?_) (relL_cons rfl (relL1 rfl)))
    · intro k hk
      rcases (show k = 0 ∨ k = 1 ∨ k = 2 ∨ k = 3 ∨ k = 4 by omega) with rfl | rfl | rfl | rfl | rfl
      · exact wf_u32 r0
      · exact wf_u32 r1
      · exact wf_u32 r2
      · exact wf_u32 r3
      · exact wf_u32 r4
    · intro i u hu
      match i, hu with
      | 0, hu => injection hu with hu; exact hu.symm
      | 1, hu => injection hu with hu; exact hu.symm
      | 2, hu => injection hu with hu; exact hu.symm
      | 3, hu => injection hu with hu; exact hu.symm
      | 4, hu => injection hu with hu; exact hu.symm
end Go.Proofs.Ytolliidpmgncdaa
