/- TrickleForms: the walk. -/
import Derived.Test.YtolliidpmgncdaaTrickleFormsA
import Derived.Test.YtolliidpmgncdaaFl
namespace Go.Proofs.Ytolliidpmgncdaa
open Go.RowKit AX
set_option linter.unusedVariables false
abbrev ksTk : List (Option IntKind) := [some .i64, some .i64, some .i64, some .i64, some .i64, some .i64, some .i64, none]
theorem ok_tkk (g : Nat → CV) (h : MtC ksTk g) : eTk.ok g = true := by
  show (isK .i64 (g 0) && isK .i64 (g 1) && isK .i64 (g 2) && isK .i64 (g 3) && isK .i64 (g 4) && isK .i64 (g 5) && isK .i64 (g 6) && isB (g 7)) = true
  rw [h.k (j := 0) rfl, h.k (j := 1) rfl, h.k (j := 2) rfl, h.k (j := 3) rfl, h.k (j := 4) rfl, h.k (j := 5) rfl, h.k (j := 6) rfl, h.b (j := 7) rfl]; rfl
theorem wf_u32 {n : Int} (h : (Lit.int .u32 n).wf = true) : drawOk n := by
  simp [Lit.wf, IntKind.min, IntKind.max, IntKind.bits, IntKind.signed] at h
  unfold drawOk
  omega
theorem walkTrickleForms (x0 : Array Value) (a1 : Option Addr) (len1 cap1 : Nat) (z1 : List Int) (a2 : Int) (a3 : Int) (a4 : Int) (a5 : Int) (a6 : Int) (w : World) (w0 : Mt [some .i64, some .i64, some .i64, some .i64, some .i64, some .i64, some .i64, none] x0.toList) (w1 : IsRow .i64 w a1 len1 cap1 z1) (rr1 : cap1 * 8 ≤ 140737488351232) (w2 : (Lit.int .i64 a2).wf = true) (w3 : (Lit.int .i64 a3).wf = true) (w4 : (Lit.int .i64 a4).wf = true) (w5 : (Lit.int .i64 a5).wf = true) (w6 : (Lit.int .u32 a6).wf = true) :
    Calls Try.prog 6 #[.agg x0, .slice a1 len1 cap1, .int .i64 a2, .int .i64 a3, .int .i64 a4, .int .i64 a5, .int .u32 a6] w fun e w' => e = .returned (.bool true) ∧ Below w.heap.size w w' := by
  obtain ⟨c, hc, h0⟩ := flat_rel w0 (E := eTk) (w := w) rfl ok_tkk
  exact walk_of (tforms_ok c len1 z1 a2 a3 a4 a5 a6 (rng_of w1) (wf_u32 w6)) (relL_cons h0 (relL_cons (row_rel w1) (relL_cons rfl (relL_cons rfl (relL_cons rfl (relL_cons rfl (relL1 rfl)))))))
end Go.Proofs.Ytolliidpmgncdaa
