/-
  No cell of these rows narrows 'for every input' (looked for: loops, veiled, ifaces, maps, wideKeys, modest, calm, conditions, laid).
  DERIVED. THE GIVEN ROWS OF THIS SEAT. 3 by the template 'for every input the law returns true; each argument reads behind the call as it read before'; 0 by the template 'total and deterministic' (their statements: YteacebocjafinaaTotals.lean).
  GIVEN WITH THE SEED: the statements are not yours to turn. If you find one false, say at which input.
  Laid BY PROGRAM, IN A SANDBOX (cutbox-rows.mjs): the forced cells as the released guide's own fill.sh prints them over the translation 7fd15fb95b43dbf8… (all of the seat's roots in one cut). By AI agents, Wed Nov 11 2026. No macro, syntax, notation, axiom, sorry.
-/
import Derived.Test.YteacebocjafinaaChecked
import GoSem.Claim
import GoSem.ClaimJoined
import GoSem.ClaimMapViews
import Derived.JoinedTies
import Derived.KernelRfl
namespace Go.Proofs.Yteacebocjafinaa
/- THE CELL 'sum', in the pinned program and in every row, IS THE sha256 OF THE DUMP (.gsa) THAT YteacebocjafinaaProg.lean LOADS. Nothing in Lean hashes anything: it is a label: what it is worth is what the hold of that sum in a sandbox is worth. -/
noncomputable def Try.pinned : Pinned := { name := "yteacebocjafinaa", sum := "7fd15fb95b43dbf8796247d4be5d67ab9b990f2fb6a3fba17075003813ec8f56", checked := Try.checked }
namespace Rows
def none {H : Type} : Left H := { results := [], args := [] }

/-- 'multihoplaw36.MobilityFollows': WHATEVER THE INPUT: true; the input reads as it did. -/
def mobilityFollowsSpec : ChangeSpec := { name := "mobilityFollows", fn := fun _ => fun
  | [d] => { results := [.lit (.bool true)], args := [d] }
  | _ => none }
def mobilityFollowsRow : OpenClaim := { program := "yteacebocjafinaa", sum := "7fd15fb95b43dbf8796247d4be5d67ab9b990f2fb6a3fba17075003813ec8f56", func := "multihop/multihoplaw36.MobilityFollows", spec := "mobilityFollows", inPlace := ["internal/bytealg.Compare"], plainKeys := false, apart := false }
def MobilityFollowsSaid : Prop := mobilityFollowsRow.holds Try.pinned (OpenSpec.ofChange mobilityFollowsSpec)

/-- ITS FALSE NEIGHBOUR: 'it returns false'. Refute it at one input. -/
def mobilityFollowsWrong : ChangeSpec := { name := "mobilityFollows", fn := fun _ => fun
  | [d] => { results := [.lit (.bool false)], args := [d] }
  | _ => none }
def MobilityFollowsWrongFalsely : Prop := mobilityFollowsRow.holds Try.pinned (OpenSpec.ofChange mobilityFollowsWrong)

/-- 'multihoplaw36.MobilityEnds': WHATEVER THE INPUT: true; the input reads as it did. -/
def mobilityEndsSpec : ChangeSpec := { name := "mobilityEnds", fn := fun _ => fun
  | [d1, d2, d3] => { results := [.lit (.bool true)], args := [d1, d2, d3] }
  | _ => none }
def mobilityEndsRow : OpenClaim := { program := "yteacebocjafinaa", sum := "7fd15fb95b43dbf8796247d4be5d67ab9b990f2fb6a3fba17075003813ec8f56", func := "multihop/multihoplaw36.MobilityEnds", spec := "mobilityEnds", inPlace := ["internal/bytealg.Compare"], plainKeys := false, apart := false }
def MobilityEndsSaid : Prop := mobilityEndsRow.holds Try.pinned (OpenSpec.ofChange mobilityEndsSpec)

/-- ITS FALSE NEIGHBOUR: 'it returns false'. Refute it at one input. -/
def mobilityEndsWrong : ChangeSpec := { name := "mobilityEnds", fn := fun _ => fun
  | [d1, d2, d3] => { results := [.lit (.bool false)], args := [d1, d2, d3] }
  | _ => none }
def MobilityEndsWrongFalsely : Prop := mobilityEndsRow.holds Try.pinned (OpenSpec.ofChange mobilityEndsWrong)

/-- 'multihoplaw36.MobilityReads': WHATEVER THE INPUT: true; the input reads as it did. -/
def mobilityReadsSpec : ChangeSpec := { name := "mobilityReads", fn := fun _ => fun
  | [d1, d2, d3, d4] => { results := [.lit (.bool true)], args := [d1, d2, d3, d4] }
  | _ => none }
def mobilityReadsRow : OpenClaim := { program := "yteacebocjafinaa", sum := "7fd15fb95b43dbf8796247d4be5d67ab9b990f2fb6a3fba17075003813ec8f56", func := "multihop/multihoplaw36.MobilityReads", spec := "mobilityReads", inPlace := ["internal/bytealg.Compare"], plainKeys := false, apart := false }
def MobilityReadsSaid : Prop := mobilityReadsRow.holds Try.pinned (OpenSpec.ofChange mobilityReadsSpec)

/-- ITS FALSE NEIGHBOUR: 'it returns false'. Refute it at one input. -/
def mobilityReadsWrong : ChangeSpec := { name := "mobilityReads", fn := fun _ => fun
  | [d1, d2, d3, d4] => { results := [.lit (.bool false)], args := [d1, d2, d3, d4] }
  | _ => none }
def MobilityReadsWrongFalsely : Prop := mobilityReadsRow.holds Try.pinned (OpenSpec.ofChange mobilityReadsWrong)

/- THE SECOND FORM. 'bulk': how many values and letters a reading holds, each counted each time it is reached (what is shared counts as often as it is met; a slice's spare places count too). A statement '..UptoSaid' is the law's where the arguments, and the package variables that the reading takes, are together of bulk at most 1048576: NARROWER than '..Said'. Prove '..Said' where nothing that the law and all that it calls make is longer than what came in: it says more and counts as full. Else prove '..UptoSaid'. A law counts once. -/
mutual
def uptoBulk {H : Type} : DataW H → Nat
  | .lit (.string bytes) => bytes.length + 1
  | .lit _ => 1
  | .nil => 1
  | .ptr d => uptoBulk d + 1
  | .slice elems spare => uptoBulkAll elems + uptoBulkAll spare + 1
  | .agg parts => uptoBulkAll parts + 1
  | .iface _ d => uptoBulk d + 1
  | .map entries => uptoBulkEntries entries + 1
  | .held _ => 1
def uptoBulkAll {H : Type} : List (DataW H) → Nat
  | [] => 0
  | d :: r => uptoBulk d + uptoBulkAll r
def uptoBulkEntries {H : Type} : List (Lit × DataW H) → Nat
  | [] => 0
  | x :: r => uptoBulkEntry x + uptoBulkEntries r
def uptoBulkEntry {H : Type} : Lit × DataW H → Nat
  | (.string bytes, d) => bytes.length + uptoBulk d + 1
  | (_, d) => uptoBulk d + 1
 end
def uptoSmall : (H : Type) → List (DataW H) → Bool := fun _ ds => decide (uptoBulkAll ds ≤ 1048576)
def OpenSpec.upto (s : _root_.Go.ChangeSpec) : _root_.Go.OpenSpec := { _root_.Go.OpenSpec.ofChange s with cond := some uptoSmall }

/-- 'multihoplaw36.MobilityFollows', WHERE WHAT IT READS IS OF BULK AT MOST 1048576: true; the input reads as it did. -/
def mobilityFollowsUptoRow : OpenClaim := { program := "yteacebocjafinaa", sum := "7fd15fb95b43dbf8796247d4be5d67ab9b990f2fb6a3fba17075003813ec8f56", func := "multihop/multihoplaw36.MobilityFollows", spec := "mobilityFollows", inPlace := ["internal/bytealg.Compare"], plainKeys := false, apart := false, narrowed := true }
def MobilityFollowsUptoSaid : Prop := mobilityFollowsUptoRow.holds Try.pinned (OpenSpec.upto mobilityFollowsSpec)

/-- 'multihoplaw36.MobilityEnds', WHERE WHAT IT READS IS OF BULK AT MOST 1048576: true; the input reads as it did. -/
def mobilityEndsUptoRow : OpenClaim := { program := "yteacebocjafinaa", sum := "7fd15fb95b43dbf8796247d4be5d67ab9b990f2fb6a3fba17075003813ec8f56", func := "multihop/multihoplaw36.MobilityEnds", spec := "mobilityEnds", inPlace := ["internal/bytealg.Compare"], plainKeys := false, apart := false, narrowed := true }
def MobilityEndsUptoSaid : Prop := mobilityEndsUptoRow.holds Try.pinned (OpenSpec.upto mobilityEndsSpec)

/-- 'multihoplaw36.MobilityReads', WHERE WHAT IT READS IS OF BULK AT MOST 1048576: true; the input reads as it did. -/
def mobilityReadsUptoRow : OpenClaim := { program := "yteacebocjafinaa", sum := "7fd15fb95b43dbf8796247d4be5d67ab9b990f2fb6a3fba17075003813ec8f56", func := "multihop/multihoplaw36.MobilityReads", spec := "mobilityReads", inPlace := ["internal/bytealg.Compare"], plainKeys := false, apart := false, narrowed := true }
def MobilityReadsUptoSaid : Prop := mobilityReadsUptoRow.holds Try.pinned (OpenSpec.upto mobilityReadsSpec)

end Rows
end Go.Proofs.Yteacebocjafinaa
