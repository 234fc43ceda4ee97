/-
  No cell of these rows narrows 'for every input' (looked for: loops, veiled, ifaces, maps, wideKeys, modest, calm, conditions, laid).
  DERIVED. THE GIVEN ROWS OF THIS SEAT. 10 by the template 'for every input the law returns true; each argument reads behind the call as it read before'; 0 by the template 'total and deterministic' (their statements: YtolliidpmgncdaaTotals.lean).
  GIVEN WITH THE SEED: the statements are not yours to turn. If you find one false, say at which input.
  Laid BY PROGRAM, IN A SANDBOX (cutbox-rows.mjs): the forced cells as the released guide's own fill.sh prints them over the translation 43fb47346f5f52d7… (all of the seat's roots in one cut). By AI agents, Wed Nov 11 2026. No macro, syntax, notation, axiom, sorry.
-/
import Derived.Test.YtolliidpmgncdaaChecked
import GoSem.Claim
import GoSem.ClaimJoined
import GoSem.ClaimMapViews
import Derived.JoinedTies
import Derived.KernelRfl
namespace Go.Proofs.Ytolliidpmgncdaa
/- THE CELL 'sum', in the pinned program and in every row, IS THE sha256 OF THE DUMP (.gsa) THAT YtolliidpmgncdaaProg.lean LOADS. Nothing in Lean hashes anything: it is a label: what it is worth is what the hold of that sum in a sandbox is worth. -/
noncomputable def Try.pinned : Pinned := { name := "ytolliidpmgncdaa", sum := "43fb47346f5f52d75123dcdd1b65e7f2f3ce614d1589abaa1990eb39bb743a10", checked := Try.checked }
namespace Rows
def none {H : Type} : Left H := { results := [], args := [] }

/-- 'multihoplaw34.TrickleOnce': WHATEVER THE INPUT: true; the input reads as it did. -/
def trickleOnceSpec : ChangeSpec := { name := "trickleOnce", fn := fun _ => fun
  | [d] => { results := [.lit (.bool true)], args := [d] }
  | _ => none }
def trickleOnceRow : OpenClaim := { program := "ytolliidpmgncdaa", sum := "43fb47346f5f52d75123dcdd1b65e7f2f3ce614d1589abaa1990eb39bb743a10", func := "multihop/multihoplaw34.TrickleOnce", spec := "trickleOnce", apart := false }
def TrickleOnceSaid : Prop := trickleOnceRow.holds Try.pinned (OpenSpec.ofChange trickleOnceSpec)

/-- ITS FALSE NEIGHBOUR: 'it returns false'. Refute it at one input. -/
def trickleOnceWrong : ChangeSpec := { name := "trickleOnce", fn := fun _ => fun
  | [d] => { results := [.lit (.bool false)], args := [d] }
  | _ => none }
def TrickleOnceWrongFalsely : Prop := trickleOnceRow.holds Try.pinned (OpenSpec.ofChange trickleOnceWrong)

/-- 'multihoplaw34.TrickleCovers': WHATEVER THE INPUT: true; the input reads as it did. -/
def trickleCoversSpec : ChangeSpec := { name := "trickleCovers", fn := fun _ => fun
  | [d1, d2, d3] => { results := [.lit (.bool true)], args := [d1, d2, d3] }
  | _ => none }
def trickleCoversRow : OpenClaim := { program := "ytolliidpmgncdaa", sum := "43fb47346f5f52d75123dcdd1b65e7f2f3ce614d1589abaa1990eb39bb743a10", func := "multihop/multihoplaw34.TrickleCovers", spec := "trickleCovers", apart := false }
def TrickleCoversSaid : Prop := trickleCoversRow.holds Try.pinned (OpenSpec.ofChange trickleCoversSpec)

/-- ITS FALSE NEIGHBOUR: 'it returns false'. Refute it at one input. -/
def trickleCoversWrong : ChangeSpec := { name := "trickleCovers", fn := fun _ => fun
  | [d1, d2, d3] => { results := [.lit (.bool false)], args := [d1, d2, d3] }
  | _ => none }
def TrickleCoversWrongFalsely : Prop := trickleCoversRow.holds Try.pinned (OpenSpec.ofChange trickleCoversWrong)

/-- 'multihoplaw34.TrickleGrows': WHATEVER THE INPUT: true; the input reads as it did. -/
def trickleGrowsSpec : ChangeSpec := { name := "trickleGrows", fn := fun _ => fun
  | [d1, d2] => { results := [.lit (.bool true)], args := [d1, d2] }
  | _ => none }
def trickleGrowsRow : OpenClaim := { program := "ytolliidpmgncdaa", sum := "43fb47346f5f52d75123dcdd1b65e7f2f3ce614d1589abaa1990eb39bb743a10", func := "multihop/multihoplaw34.TrickleGrows", spec := "trickleGrows", apart := false }
def TrickleGrowsSaid : Prop := trickleGrowsRow.holds Try.pinned (OpenSpec.ofChange trickleGrowsSpec)

/-- ITS FALSE NEIGHBOUR: 'it returns false'. Refute it at one input. -/
def trickleGrowsWrong : ChangeSpec := { name := "trickleGrows", fn := fun _ => fun
  | [d1, d2] => { results := [.lit (.bool false)], args := [d1, d2] }
  | _ => none }
def TrickleGrowsWrongFalsely : Prop := trickleGrowsRow.holds Try.pinned (OpenSpec.ofChange trickleGrowsWrong)

/-- 'multihoplaw34.TrickleForms': WHATEVER THE INPUT: true; the input reads as it did. -/
def trickleFormsSpec : ChangeSpec := { name := "trickleForms", fn := fun _ => fun
  | [d1, d2, d3, d4, d5, d6, d7] => { results := [.lit (.bool true)], args := [d1, d2, d3, d4, d5, d6, d7] }
  | _ => none }
def trickleFormsRow : OpenClaim := { program := "ytolliidpmgncdaa", sum := "43fb47346f5f52d75123dcdd1b65e7f2f3ce614d1589abaa1990eb39bb743a10", func := "multihop/multihoplaw34.TrickleForms", spec := "trickleForms", apart := false }
def TrickleFormsSaid : Prop := trickleFormsRow.holds Try.pinned (OpenSpec.ofChange trickleFormsSpec)

/-- ITS FALSE NEIGHBOUR: 'it returns false'. Refute it at one input. -/
def trickleFormsWrong : ChangeSpec := { name := "trickleForms", fn := fun _ => fun
  | [d1, d2, d3, d4, d5, d6, d7] => { results := [.lit (.bool false)], args := [d1, d2, d3, d4, d5, d6, d7] }
  | _ => none }
def TrickleFormsWrongFalsely : Prop := trickleFormsRow.holds Try.pinned (OpenSpec.ofChange trickleFormsWrong)

/-- 'multihoplaw24.MetricCosts': WHATEVER THE INPUT: true; the input reads as it did. -/
def metricCostsSpec : ChangeSpec := { name := "metricCosts", fn := fun _ => fun
  | [d1, d2, d3] => { results := [.lit (.bool true)], args := [d1, d2, d3] }
  | _ => none }
def metricCostsRow : OpenClaim := { program := "ytolliidpmgncdaa", sum := "43fb47346f5f52d75123dcdd1b65e7f2f3ce614d1589abaa1990eb39bb743a10", func := "multihop/multihoplaw24.MetricCosts", spec := "metricCosts", unfollowed := true, recurses := true, apart := false }
def MetricCostsSaid : Prop := metricCostsRow.holds Try.pinned (OpenSpec.ofChange metricCostsSpec)

/-- ITS FALSE NEIGHBOUR: 'it returns false'. Refute it at one input. -/
def metricCostsWrong : ChangeSpec := { name := "metricCosts", fn := fun _ => fun
  | [d1, d2, d3] => { results := [.lit (.bool false)], args := [d1, d2, d3] }
  | _ => none }
def MetricCostsWrongFalsely : Prop := metricCostsRow.holds Try.pinned (OpenSpec.ofChange metricCostsWrong)

/-- 'multihoplaw24.MetricAdds': WHATEVER THE INPUT: true; the input reads as it did. -/
def metricAddsSpec : ChangeSpec := { name := "metricAdds", fn := fun _ => fun
  | [d1, d2, d3] => { results := [.lit (.bool true)], args := [d1, d2, d3] }
  | _ => none }
def metricAddsRow : OpenClaim := { program := "ytolliidpmgncdaa", sum := "43fb47346f5f52d75123dcdd1b65e7f2f3ce614d1589abaa1990eb39bb743a10", func := "multihop/multihoplaw24.MetricAdds", spec := "metricAdds", unfollowed := true, recurses := true, apart := false }
def MetricAddsSaid : Prop := metricAddsRow.holds Try.pinned (OpenSpec.ofChange metricAddsSpec)

/-- ITS FALSE NEIGHBOUR: 'it returns false'. Refute it at one input. -/
def metricAddsWrong : ChangeSpec := { name := "metricAdds", fn := fun _ => fun
  | [d1, d2, d3] => { results := [.lit (.bool false)], args := [d1, d2, d3] }
  | _ => none }
def MetricAddsWrongFalsely : Prop := metricAddsRow.holds Try.pinned (OpenSpec.ofChange metricAddsWrong)

/-- 'multihoplaw24.MetricSmooths': WHATEVER THE INPUT: true; the input reads as it did. -/
def metricSmoothsSpec : ChangeSpec := { name := "metricSmooths", fn := fun _ => fun
  | [d1, d2] => { results := [.lit (.bool true)], args := [d1, d2] }
  | _ => none }
def metricSmoothsRow : OpenClaim := { program := "ytolliidpmgncdaa", sum := "43fb47346f5f52d75123dcdd1b65e7f2f3ce614d1589abaa1990eb39bb743a10", func := "multihop/multihoplaw24.MetricSmooths", spec := "metricSmooths", unfollowed := true, recurses := true, apart := false }
def MetricSmoothsSaid : Prop := metricSmoothsRow.holds Try.pinned (OpenSpec.ofChange metricSmoothsSpec)

/-- ITS FALSE NEIGHBOUR: 'it returns false'. Refute it at one input. -/
def metricSmoothsWrong : ChangeSpec := { name := "metricSmooths", fn := fun _ => fun
  | [d1, d2] => { results := [.lit (.bool false)], args := [d1, d2] }
  | _ => none }
def MetricSmoothsWrongFalsely : Prop := metricSmoothsRow.holds Try.pinned (OpenSpec.ofChange metricSmoothsWrong)

/-- 'multihoplaw24.MetricSettles': WHATEVER THE INPUT: true; the input reads as it did. -/
def metricSettlesSpec : ChangeSpec := { name := "metricSettles", fn := fun _ => fun
  | [d1, d2] => { results := [.lit (.bool true)], args := [d1, d2] }
  | _ => none }
def metricSettlesRow : OpenClaim := { program := "ytolliidpmgncdaa", sum := "43fb47346f5f52d75123dcdd1b65e7f2f3ce614d1589abaa1990eb39bb743a10", func := "multihop/multihoplaw24.MetricSettles", spec := "metricSettles", unfollowed := true, recurses := true, apart := false }
def MetricSettlesSaid : Prop := metricSettlesRow.holds Try.pinned (OpenSpec.ofChange metricSettlesSpec)

/-- ITS FALSE NEIGHBOUR: 'it returns false'. Refute it at one input. -/
def metricSettlesWrong : ChangeSpec := { name := "metricSettles", fn := fun _ => fun
  | [d1, d2] => { results := [.lit (.bool false)], args := [d1, d2] }
  | _ => none }
def MetricSettlesWrongFalsely : Prop := metricSettlesRow.holds Try.pinned (OpenSpec.ofChange metricSettlesWrong)

/-- 'multihoplaw24.MetricSticks': WHATEVER THE INPUT: true; the input reads as it did. -/
def metricSticksSpec : ChangeSpec := { name := "metricSticks", fn := fun _ => fun
  | [d1, d2, d3, d4] => { results := [.lit (.bool true)], args := [d1, d2, d3, d4] }
  | _ => none }
def metricSticksRow : OpenClaim := { program := "ytolliidpmgncdaa", sum := "43fb47346f5f52d75123dcdd1b65e7f2f3ce614d1589abaa1990eb39bb743a10", func := "multihop/multihoplaw24.MetricSticks", spec := "metricSticks", unfollowed := true, recurses := true, apart := false }
def MetricSticksSaid : Prop := metricSticksRow.holds Try.pinned (OpenSpec.ofChange metricSticksSpec)

/-- ITS FALSE NEIGHBOUR: 'it returns false'. Refute it at one input. -/
def metricSticksWrong : ChangeSpec := { name := "metricSticks", fn := fun _ => fun
  | [d1, d2, d3, d4] => { results := [.lit (.bool false)], args := [d1, d2, d3, d4] }
  | _ => none }
def MetricSticksWrongFalsely : Prop := metricSticksRow.holds Try.pinned (OpenSpec.ofChange metricSticksWrong)

/-- 'multihoplaw24.MetricChooses': WHATEVER THE INPUT: true; the input reads as it did. -/
def metricChoosesSpec : ChangeSpec := { name := "metricChooses", fn := fun _ => fun
  | [d1, d2, d3, d4] => { results := [.lit (.bool true)], args := [d1, d2, d3, d4] }
  | _ => none }
def metricChoosesRow : OpenClaim := { program := "ytolliidpmgncdaa", sum := "43fb47346f5f52d75123dcdd1b65e7f2f3ce614d1589abaa1990eb39bb743a10", func := "multihop/multihoplaw24.MetricChooses", spec := "metricChooses", unfollowed := true, recurses := true, apart := false }
def MetricChoosesSaid : Prop := metricChoosesRow.holds Try.pinned (OpenSpec.ofChange metricChoosesSpec)

/-- ITS FALSE NEIGHBOUR: 'it returns false'. Refute it at one input. -/
def metricChoosesWrong : ChangeSpec := { name := "metricChooses", fn := fun _ => fun
  | [d1, d2, d3, d4] => { results := [.lit (.bool false)], args := [d1, d2, d3, d4] }
  | _ => none }
def MetricChoosesWrongFalsely : Prop := metricChoosesRow.holds Try.pinned (OpenSpec.ofChange metricChoosesWrong)

/- THE SECOND FORM. 'bulk': how many values and letters a reading holds, each counted each time it is reached (what is shared counts as often as it is met; a slice's spare places count too). A statement '..UptoSaid' is the law's where the arguments, and the package variables that the reading takes, are together of bulk at most 1048576: NARROWER than '..Said'. Prove '..Said' where nothing that the law and all that it calls make is longer than what came in: it says more and counts as full. Else prove '..UptoSaid'. A law counts once. -/
mutual
def uptoBulk {H : Type} : DataW H → Nat
  | .lit (.string bytes) => bytes.length + 1
  | .lit _ => 1
  | .nil => 1
  | .ptr d => uptoBulk d + 1
  | .slice elems spare => uptoBulkAll elems + uptoBulkAll spare + 1
  | .agg parts => uptoBulkAll parts + 1
  | .iface _ d => uptoBulk d + 1
  | .map entries => uptoBulkEntries entries + 1
  | .held _ => 1
def uptoBulkAll {H : Type} : List (DataW H) → Nat
  | [] => 0
  | d :: r => uptoBulk d + uptoBulkAll r
def uptoBulkEntries {H : Type} : List (Lit × DataW H) → Nat
  | [] => 0
  | x :: r => uptoBulkEntry x + uptoBulkEntries r
def uptoBulkEntry {H : Type} : Lit × DataW H → Nat
  | (.string bytes, d) => bytes.length + uptoBulk d + 1
  | (_, d) => uptoBulk d + 1
 end
def uptoSmall : (H : Type) → List (DataW H) → Bool := fun _ ds => decide (uptoBulkAll ds ≤ 1048576)
def OpenSpec.upto (s : _root_.Go.ChangeSpec) : _root_.Go.OpenSpec := { _root_.Go.OpenSpec.ofChange s with cond := some uptoSmall }

/-- 'multihoplaw34.TrickleOnce', WHERE WHAT IT READS IS OF BULK AT MOST 1048576: true; the input reads as it did. -/
def trickleOnceUptoRow : OpenClaim := { program := "ytolliidpmgncdaa", sum := "43fb47346f5f52d75123dcdd1b65e7f2f3ce614d1589abaa1990eb39bb743a10", func := "multihop/multihoplaw34.TrickleOnce", spec := "trickleOnce", apart := false, narrowed := true }
def TrickleOnceUptoSaid : Prop := trickleOnceUptoRow.holds Try.pinned (OpenSpec.upto trickleOnceSpec)

/-- 'multihoplaw34.TrickleCovers', WHERE WHAT IT READS IS OF BULK AT MOST 1048576: true; the input reads as it did. -/
def trickleCoversUptoRow : OpenClaim := { program := "ytolliidpmgncdaa", sum := "43fb47346f5f52d75123dcdd1b65e7f2f3ce614d1589abaa1990eb39bb743a10", func := "multihop/multihoplaw34.TrickleCovers", spec := "trickleCovers", apart := false, narrowed := true }
def TrickleCoversUptoSaid : Prop := trickleCoversUptoRow.holds Try.pinned (OpenSpec.upto trickleCoversSpec)

/-- 'multihoplaw34.TrickleGrows', WHERE WHAT IT READS IS OF BULK AT MOST 1048576: true; the input reads as it did. -/
def trickleGrowsUptoRow : OpenClaim := { program := "ytolliidpmgncdaa", sum := "43fb47346f5f52d75123dcdd1b65e7f2f3ce614d1589abaa1990eb39bb743a10", func := "multihop/multihoplaw34.TrickleGrows", spec := "trickleGrows", apart := false, narrowed := true }
def TrickleGrowsUptoSaid : Prop := trickleGrowsUptoRow.holds Try.pinned (OpenSpec.upto trickleGrowsSpec)

/-- 'multihoplaw34.TrickleForms', WHERE WHAT IT READS IS OF BULK AT MOST 1048576: true; the input reads as it did. -/
def trickleFormsUptoRow : OpenClaim := { program := "ytolliidpmgncdaa", sum := "43fb47346f5f52d75123dcdd1b65e7f2f3ce614d1589abaa1990eb39bb743a10", func := "multihop/multihoplaw34.TrickleForms", spec := "trickleForms", apart := false, narrowed := true }
def TrickleFormsUptoSaid : Prop := trickleFormsUptoRow.holds Try.pinned (OpenSpec.upto trickleFormsSpec)

/-- 'multihoplaw24.MetricCosts', WHERE WHAT IT READS IS OF BULK AT MOST 1048576: true; the input reads as it did. -/
def metricCostsUptoRow : OpenClaim := { program := "ytolliidpmgncdaa", sum := "43fb47346f5f52d75123dcdd1b65e7f2f3ce614d1589abaa1990eb39bb743a10", func := "multihop/multihoplaw24.MetricCosts", spec := "metricCosts", unfollowed := true, recurses := true, apart := false, narrowed := true }
def MetricCostsUptoSaid : Prop := metricCostsUptoRow.holds Try.pinned (OpenSpec.upto metricCostsSpec)

/-- 'multihoplaw24.MetricAdds', WHERE WHAT IT READS IS OF BULK AT MOST 1048576: true; the input reads as it did. -/
def metricAddsUptoRow : OpenClaim := { program := "ytolliidpmgncdaa", sum := "43fb47346f5f52d75123dcdd1b65e7f2f3ce614d1589abaa1990eb39bb743a10", func := "multihop/multihoplaw24.MetricAdds", spec := "metricAdds", unfollowed := true, recurses := true, apart := false, narrowed := true }
def MetricAddsUptoSaid : Prop := metricAddsUptoRow.holds Try.pinned (OpenSpec.upto metricAddsSpec)

/-- 'multihoplaw24.MetricSmooths', WHERE WHAT IT READS IS OF BULK AT MOST 1048576: true; the input reads as it did. -/
def metricSmoothsUptoRow : OpenClaim := { program := "ytolliidpmgncdaa", sum := "43fb47346f5f52d75123dcdd1b65e7f2f3ce614d1589abaa1990eb39bb743a10", func := "multihop/multihoplaw24.MetricSmooths", spec := "metricSmooths", unfollowed := true, recurses := true, apart := false, narrowed := true }
def MetricSmoothsUptoSaid : Prop := metricSmoothsUptoRow.holds Try.pinned (OpenSpec.upto metricSmoothsSpec)

/-- 'multihoplaw24.MetricSettles', WHERE WHAT IT READS IS OF BULK AT MOST 1048576: true; the input reads as it did. -/
def metricSettlesUptoRow : OpenClaim := { program := "ytolliidpmgncdaa", sum := "43fb47346f5f52d75123dcdd1b65e7f2f3ce614d1589abaa1990eb39bb743a10", func := "multihop/multihoplaw24.MetricSettles", spec := "metricSettles", unfollowed := true, recurses := true, apart := false, narrowed := true }
def MetricSettlesUptoSaid : Prop := metricSettlesUptoRow.holds Try.pinned (OpenSpec.upto metricSettlesSpec)

/-- 'multihoplaw24.MetricSticks', WHERE WHAT IT READS IS OF BULK AT MOST 1048576: true; the input reads as it did. -/
def metricSticksUptoRow : OpenClaim := { program := "ytolliidpmgncdaa", sum := "43fb47346f5f52d75123dcdd1b65e7f2f3ce614d1589abaa1990eb39bb743a10", func := "multihop/multihoplaw24.MetricSticks", spec := "metricSticks", unfollowed := true, recurses := true, apart := false, narrowed := true }
def MetricSticksUptoSaid : Prop := metricSticksUptoRow.holds Try.pinned (OpenSpec.upto metricSticksSpec)

/-- 'multihoplaw24.MetricChooses', WHERE WHAT IT READS IS OF BULK AT MOST 1048576: true; the input reads as it did. -/
def metricChoosesUptoRow : OpenClaim := { program := "ytolliidpmgncdaa", sum := "43fb47346f5f52d75123dcdd1b65e7f2f3ce614d1589abaa1990eb39bb743a10", func := "multihop/multihoplaw24.MetricChooses", spec := "metricChooses", unfollowed := true, recurses := true, apart := false, narrowed := true }
def MetricChoosesUptoSaid : Prop := metricChoosesUptoRow.holds Try.pinned (OpenSpec.upto metricChoosesSpec)

end Rows
end Go.Proofs.Ytolliidpmgncdaa
