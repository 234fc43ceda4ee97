/-
  No cell of these rows narrows 'for every input' (looked for: loops, veiled, ifaces, maps, wideKeys, modest, calm, conditions, laid).
  DERIVED. THE GIVEN ROWS OF THIS SEAT. 10 by the template 'for every input the law returns true; each argument reads behind the call as it read before'; 0 by the template 'total and deterministic' (their statements: YtcnfjifokeancaaTotals.lean).
  GIVEN WITH THE SEED: the statements are not yours to turn. If you find one false, say at which input.
  Laid BY PROGRAM, IN A SANDBOX (cutbox-rows.mjs): the forced cells as the released guide's own fill.sh prints them over the translation ba5b6ce49e5df5bf… (all of the seat's roots in one cut). By AI agents, Wed Nov 11 2026. No macro, syntax, notation, axiom, sorry.
-/
import Derived.Test.YtcnfjifokeancaaChecked
import GoSem.Claim
import GoSem.ClaimJoined
import GoSem.ClaimMapViews
import Derived.JoinedTies
import Derived.KernelRfl
namespace Go.Proofs.Ytcnfjifokeancaa
/- THE CELL 'sum', in the pinned program and in every row, IS THE sha256 OF THE DUMP (.gsa) THAT YtcnfjifokeancaaProg.lean LOADS. Nothing in Lean hashes anything: it is a label: what it is worth is what the hold of that sum in a sandbox is worth. -/
noncomputable def Try.pinned : Pinned := { name := "ytcnfjifokeancaa", sum := "ba5b6ce49e5df5bf2976d59b0669cf5e2c05a111a7ae0cd54eb994d208586822", checked := Try.checked }
namespace Rows
def none {H : Type} : Left H := { results := [], args := [] }

/-- 'multihoplaw12.ContextsLongest': WHATEVER THE INPUT: true; the input reads as it did. -/
def contextsLongestSpec : ChangeSpec := { name := "contextsLongest", fn := fun _ => fun
  | [d1, d2] => { results := [.lit (.bool true)], args := [d1, d2] }
  | _ => none }
def contextsLongestRow : OpenClaim := { program := "ytcnfjifokeancaa", sum := "ba5b6ce49e5df5bf2976d59b0669cf5e2c05a111a7ae0cd54eb994d208586822", func := "multihop/multihoplaw12.ContextsLongest", spec := "contextsLongest", plainKeys := false, apart := false }
def ContextsLongestSaid : Prop := contextsLongestRow.holds Try.pinned (OpenSpec.ofChange contextsLongestSpec)

/-- ITS FALSE NEIGHBOUR: 'it returns false'. Refute it at one input. -/
def contextsLongestWrong : ChangeSpec := { name := "contextsLongest", fn := fun _ => fun
  | [d1, d2] => { results := [.lit (.bool false)], args := [d1, d2] }
  | _ => none }
def ContextsLongestWrongFalsely : Prop := contextsLongestRow.holds Try.pinned (OpenSpec.ofChange contextsLongestWrong)

/-- 'multihoplaw36.MobilityNewest': WHATEVER THE INPUT: true; the input reads as it did. -/
def mobilityNewestSpec : ChangeSpec := { name := "mobilityNewest", fn := fun _ => fun
  | [d] => { results := [.lit (.bool true)], args := [d] }
  | _ => none }
def mobilityNewestRow : OpenClaim := { program := "ytcnfjifokeancaa", sum := "ba5b6ce49e5df5bf2976d59b0669cf5e2c05a111a7ae0cd54eb994d208586822", func := "multihop/multihoplaw36.MobilityNewest", spec := "mobilityNewest", inPlace := ["internal/bytealg.Compare"], plainKeys := false, apart := false }
def MobilityNewestSaid : Prop := mobilityNewestRow.holds Try.pinned (OpenSpec.ofChange mobilityNewestSpec)

/-- ITS FALSE NEIGHBOUR: 'it returns false'. Refute it at one input. -/
def mobilityNewestWrong : ChangeSpec := { name := "mobilityNewest", fn := fun _ => fun
  | [d] => { results := [.lit (.bool false)], args := [d] }
  | _ => none }
def MobilityNewestWrongFalsely : Prop := mobilityNewestRow.holds Try.pinned (OpenSpec.ofChange mobilityNewestWrong)

/-- 'multihoplaw12.ContextsSets': WHATEVER THE INPUT: true; the input reads as it did. -/
def contextsSetsSpec : ChangeSpec := { name := "contextsSets", fn := fun _ => fun
  | [d1, d2] => { results := [.lit (.bool true)], args := [d1, d2] }
  | _ => none }
def contextsSetsRow : OpenClaim := { program := "ytcnfjifokeancaa", sum := "ba5b6ce49e5df5bf2976d59b0669cf5e2c05a111a7ae0cd54eb994d208586822", func := "multihop/multihoplaw12.ContextsSets", spec := "contextsSets", plainKeys := false, apart := false }
def ContextsSetsSaid : Prop := contextsSetsRow.holds Try.pinned (OpenSpec.ofChange contextsSetsSpec)

/-- ITS FALSE NEIGHBOUR: 'it returns false'. Refute it at one input. -/
def contextsSetsWrong : ChangeSpec := { name := "contextsSets", fn := fun _ => fun
  | [d1, d2] => { results := [.lit (.bool false)], args := [d1, d2] }
  | _ => none }
def ContextsSetsWrongFalsely : Prop := contextsSetsRow.holds Try.pinned (OpenSpec.ofChange contextsSetsWrong)

/-- 'multihoplaw12.ContextsGrace': WHATEVER THE INPUT: true; the input reads as it did. -/
def contextsGraceSpec : ChangeSpec := { name := "contextsGrace", fn := fun _ => fun
  | [d1, d2, d3] => { results := [.lit (.bool true)], args := [d1, d2, d3] }
  | _ => none }
def contextsGraceRow : OpenClaim := { program := "ytcnfjifokeancaa", sum := "ba5b6ce49e5df5bf2976d59b0669cf5e2c05a111a7ae0cd54eb994d208586822", func := "multihop/multihoplaw12.ContextsGrace", spec := "contextsGrace", plainKeys := false, apart := false }
def ContextsGraceSaid : Prop := contextsGraceRow.holds Try.pinned (OpenSpec.ofChange contextsGraceSpec)

/-- ITS FALSE NEIGHBOUR: 'it returns false'. Refute it at one input. -/
def contextsGraceWrong : ChangeSpec := { name := "contextsGrace", fn := fun _ => fun
  | [d1, d2, d3] => { results := [.lit (.bool false)], args := [d1, d2, d3] }
  | _ => none }
def ContextsGraceWrongFalsely : Prop := contextsGraceRow.holds Try.pinned (OpenSpec.ofChange contextsGraceWrong)

/-- 'multihoplaw36.MobilityBinds': WHATEVER THE INPUT: true; the input reads as it did. -/
def mobilityBindsSpec : ChangeSpec := { name := "mobilityBinds", fn := fun _ => fun
  | [d1, d2, d3, d4, d5] => { results := [.lit (.bool true)], args := [d1, d2, d3, d4, d5] }
  | _ => none }
def mobilityBindsRow : OpenClaim := { program := "ytcnfjifokeancaa", sum := "ba5b6ce49e5df5bf2976d59b0669cf5e2c05a111a7ae0cd54eb994d208586822", func := "multihop/multihoplaw36.MobilityBinds", spec := "mobilityBinds", inPlace := ["internal/bytealg.Compare"], plainKeys := false, apart := false }
def MobilityBindsSaid : Prop := mobilityBindsRow.holds Try.pinned (OpenSpec.ofChange mobilityBindsSpec)

/-- ITS FALSE NEIGHBOUR: 'it returns false'. Refute it at one input. -/
def mobilityBindsWrong : ChangeSpec := { name := "mobilityBinds", fn := fun _ => fun
  | [d1, d2, d3, d4, d5] => { results := [.lit (.bool false)], args := [d1, d2, d3, d4, d5] }
  | _ => none }
def MobilityBindsWrongFalsely : Prop := mobilityBindsRow.holds Try.pinned (OpenSpec.ofChange mobilityBindsWrong)

/-- 'multihoplaw12.ContextsForms': WHATEVER THE INPUT: true; the input reads as it did. -/
def contextsFormsSpec : ChangeSpec := { name := "contextsForms", fn := fun _ => fun
  | [d1, d2, d3, d4, d5, d6] => { results := [.lit (.bool true)], args := [d1, d2, d3, d4, d5, d6] }
  | _ => none }
def contextsFormsRow : OpenClaim := { program := "ytcnfjifokeancaa", sum := "ba5b6ce49e5df5bf2976d59b0669cf5e2c05a111a7ae0cd54eb994d208586822", func := "multihop/multihoplaw12.ContextsForms", spec := "contextsForms", plainKeys := false, apart := false }
def ContextsFormsSaid : Prop := contextsFormsRow.holds Try.pinned (OpenSpec.ofChange contextsFormsSpec)

/-- ITS FALSE NEIGHBOUR: 'it returns false'. Refute it at one input. -/
def contextsFormsWrong : ChangeSpec := { name := "contextsForms", fn := fun _ => fun
  | [d1, d2, d3, d4, d5, d6] => { results := [.lit (.bool false)], args := [d1, d2, d3, d4, d5, d6] }
  | _ => none }
def ContextsFormsWrongFalsely : Prop := contextsFormsRow.holds Try.pinned (OpenSpec.ofChange contextsFormsWrong)

/-- 'multihoplaw12.ContextsExpires': WHATEVER THE INPUT: true; the input reads as it did. -/
def contextsExpiresSpec : ChangeSpec := { name := "contextsExpires", fn := fun _ => fun
  | [d1, d2] => { results := [.lit (.bool true)], args := [d1, d2] }
  | _ => none }
def contextsExpiresRow : OpenClaim := { program := "ytcnfjifokeancaa", sum := "ba5b6ce49e5df5bf2976d59b0669cf5e2c05a111a7ae0cd54eb994d208586822", func := "multihop/multihoplaw12.ContextsExpires", spec := "contextsExpires", plainKeys := false, apart := false }
def ContextsExpiresSaid : Prop := contextsExpiresRow.holds Try.pinned (OpenSpec.ofChange contextsExpiresSpec)

/-- ITS FALSE NEIGHBOUR: 'it returns false'. Refute it at one input. -/
def contextsExpiresWrong : ChangeSpec := { name := "contextsExpires", fn := fun _ => fun
  | [d1, d2] => { results := [.lit (.bool false)], args := [d1, d2] }
  | _ => none }
def ContextsExpiresWrongFalsely : Prop := contextsExpiresRow.holds Try.pinned (OpenSpec.ofChange contextsExpiresWrong)

/-- 'multihoplaw36.MobilityFollows': WHATEVER THE INPUT: true; the input reads as it did. -/
def mobilityFollowsSpec : ChangeSpec := { name := "mobilityFollows", fn := fun _ => fun
  | [d] => { results := [.lit (.bool true)], args := [d] }
  | _ => none }
def mobilityFollowsRow : OpenClaim := { program := "ytcnfjifokeancaa", sum := "ba5b6ce49e5df5bf2976d59b0669cf5e2c05a111a7ae0cd54eb994d208586822", func := "multihop/multihoplaw36.MobilityFollows", spec := "mobilityFollows", inPlace := ["internal/bytealg.Compare"], plainKeys := false, apart := false }
def MobilityFollowsSaid : Prop := mobilityFollowsRow.holds Try.pinned (OpenSpec.ofChange mobilityFollowsSpec)

/-- ITS FALSE NEIGHBOUR: 'it returns false'. Refute it at one input. -/
def mobilityFollowsWrong : ChangeSpec := { name := "mobilityFollows", fn := fun _ => fun
  | [d] => { results := [.lit (.bool false)], args := [d] }
  | _ => none }
def MobilityFollowsWrongFalsely : Prop := mobilityFollowsRow.holds Try.pinned (OpenSpec.ofChange mobilityFollowsWrong)

/-- 'multihoplaw36.MobilityEnds': WHATEVER THE INPUT: true; the input reads as it did. -/
def mobilityEndsSpec : ChangeSpec := { name := "mobilityEnds", fn := fun _ => fun
  | [d1, d2, d3] => { results := [.lit (.bool true)], args := [d1, d2, d3] }
  | _ => none }
def mobilityEndsRow : OpenClaim := { program := "ytcnfjifokeancaa", sum := "ba5b6ce49e5df5bf2976d59b0669cf5e2c05a111a7ae0cd54eb994d208586822", func := "multihop/multihoplaw36.MobilityEnds", spec := "mobilityEnds", inPlace := ["internal/bytealg.Compare"], plainKeys := false, apart := false }
def MobilityEndsSaid : Prop := mobilityEndsRow.holds Try.pinned (OpenSpec.ofChange mobilityEndsSpec)

/-- ITS FALSE NEIGHBOUR: 'it returns false'. Refute it at one input. -/
def mobilityEndsWrong : ChangeSpec := { name := "mobilityEnds", fn := fun _ => fun
  | [d1, d2, d3] => { results := [.lit (.bool false)], args := [d1, d2, d3] }
  | _ => none }
def MobilityEndsWrongFalsely : Prop := mobilityEndsRow.holds Try.pinned (OpenSpec.ofChange mobilityEndsWrong)

/-- 'multihoplaw36.MobilityReads': WHATEVER THE INPUT: true; the input reads as it did. -/
def mobilityReadsSpec : ChangeSpec := { name := "mobilityReads", fn := fun _ => fun
  | [d1, d2, d3, d4] => { results := [.lit (.bool true)], args := [d1, d2, d3, d4] }
  | _ => none }
def mobilityReadsRow : OpenClaim := { program := "ytcnfjifokeancaa", sum := "ba5b6ce49e5df5bf2976d59b0669cf5e2c05a111a7ae0cd54eb994d208586822", func := "multihop/multihoplaw36.MobilityReads", spec := "mobilityReads", inPlace := ["internal/bytealg.Compare"], plainKeys := false, apart := false }
def MobilityReadsSaid : Prop := mobilityReadsRow.holds Try.pinned (OpenSpec.ofChange mobilityReadsSpec)

/-- ITS FALSE NEIGHBOUR: 'it returns false'. Refute it at one input. -/
def mobilityReadsWrong : ChangeSpec := { name := "mobilityReads", fn := fun _ => fun
  | [d1, d2, d3, d4] => { results := [.lit (.bool false)], args := [d1, d2, d3, d4] }
  | _ => none }
def MobilityReadsWrongFalsely : Prop := mobilityReadsRow.holds Try.pinned (OpenSpec.ofChange mobilityReadsWrong)

/- THE SECOND FORM. 'bulk': how many values and letters a reading holds, each counted each time it is reached (what is shared counts as often as it is met; a slice's spare places count too). A statement '..UptoSaid' is the law's where the arguments, and the package variables that the reading takes, are together of bulk at most 1048576: NARROWER than '..Said'. Prove '..Said' where nothing that the law and all that it calls make is longer than what came in: it says more and counts as full. Else prove '..UptoSaid'. A law counts once. -/
mutual
def uptoBulk {H : Type} : DataW H → Nat
  | .lit (.string bytes) => bytes.length + 1
  | .lit _ => 1
  | .nil => 1
  | .ptr d => uptoBulk d + 1
  | .slice elems spare => uptoBulkAll elems + uptoBulkAll spare + 1
  | .agg parts => uptoBulkAll parts + 1
  | .iface _ d => uptoBulk d + 1
  | .map entries => uptoBulkEntries entries + 1
  | .held _ => 1
def uptoBulkAll {H : Type} : List (DataW H) → Nat
  | [] => 0
  | d :: r => uptoBulk d + uptoBulkAll r
def uptoBulkEntries {H : Type} : List (Lit × DataW H) → Nat
  | [] => 0
  | x :: r => uptoBulkEntry x + uptoBulkEntries r
def uptoBulkEntry {H : Type} : Lit × DataW H → Nat
  | (.string bytes, d) => bytes.length + uptoBulk d + 1
  | (_, d) => uptoBulk d + 1
 end
def uptoSmall : (H : Type) → List (DataW H) → Bool := fun _ ds => decide (uptoBulkAll ds ≤ 1048576)
def OpenSpec.upto (s : _root_.Go.ChangeSpec) : _root_.Go.OpenSpec := { _root_.Go.OpenSpec.ofChange s with cond := some uptoSmall }

/-- 'multihoplaw12.ContextsLongest', WHERE WHAT IT READS IS OF BULK AT MOST 1048576: true; the input reads as it did. -/
def contextsLongestUptoRow : OpenClaim := { program := "ytcnfjifokeancaa", sum := "ba5b6ce49e5df5bf2976d59b0669cf5e2c05a111a7ae0cd54eb994d208586822", func := "multihop/multihoplaw12.ContextsLongest", spec := "contextsLongest", plainKeys := false, apart := false, narrowed := true }
def ContextsLongestUptoSaid : Prop := contextsLongestUptoRow.holds Try.pinned (OpenSpec.upto contextsLongestSpec)

/-- 'multihoplaw36.MobilityNewest', WHERE WHAT IT READS IS OF BULK AT MOST 1048576: true; the input reads as it did. -/
def mobilityNewestUptoRow : OpenClaim := { program := "ytcnfjifokeancaa", sum := "ba5b6ce49e5df5bf2976d59b0669cf5e2c05a111a7ae0cd54eb994d208586822", func := "multihop/multihoplaw36.MobilityNewest", spec := "mobilityNewest", inPlace := ["internal/bytealg.Compare"], plainKeys := false, apart := false, narrowed := true }
def MobilityNewestUptoSaid : Prop := mobilityNewestUptoRow.holds Try.pinned (OpenSpec.upto mobilityNewestSpec)

/-- 'multihoplaw12.ContextsSets', WHERE WHAT IT READS IS OF BULK AT MOST 1048576: true; the input reads as it did. -/
def contextsSetsUptoRow : OpenClaim := { program := "ytcnfjifokeancaa", sum := "ba5b6ce49e5df5bf2976d59b0669cf5e2c05a111a7ae0cd54eb994d208586822", func := "multihop/multihoplaw12.ContextsSets", spec := "contextsSets", plainKeys := false, apart := false, narrowed := true }
def ContextsSetsUptoSaid : Prop := contextsSetsUptoRow.holds Try.pinned (OpenSpec.upto contextsSetsSpec)

/-- 'multihoplaw12.ContextsGrace', WHERE WHAT IT READS IS OF BULK AT MOST 1048576: true; the input reads as it did. -/
def contextsGraceUptoRow : OpenClaim := { program := "ytcnfjifokeancaa", sum := "ba5b6ce49e5df5bf2976d59b0669cf5e2c05a111a7ae0cd54eb994d208586822", func := "multihop/multihoplaw12.ContextsGrace", spec := "contextsGrace", plainKeys := false, apart := false, narrowed := true }
def ContextsGraceUptoSaid : Prop := contextsGraceUptoRow.holds Try.pinned (OpenSpec.upto contextsGraceSpec)

/-- 'multihoplaw36.MobilityBinds', WHERE WHAT IT READS IS OF BULK AT MOST 1048576: true; the input reads as it did. -/
def mobilityBindsUptoRow : OpenClaim := { program := "ytcnfjifokeancaa", sum := "ba5b6ce49e5df5bf2976d59b0669cf5e2c05a111a7ae0cd54eb994d208586822", func := "multihop/multihoplaw36.MobilityBinds", spec := "mobilityBinds", inPlace := ["internal/bytealg.Compare"], plainKeys := false, apart := false, narrowed := true }
def MobilityBindsUptoSaid : Prop := mobilityBindsUptoRow.holds Try.pinned (OpenSpec.upto mobilityBindsSpec)

/-- 'multihoplaw12.ContextsForms', WHERE WHAT IT READS IS OF BULK AT MOST 1048576: true; the input reads as it did. -/
def contextsFormsUptoRow : OpenClaim := { program := "ytcnfjifokeancaa", sum := "ba5b6ce49e5df5bf2976d59b0669cf5e2c05a111a7ae0cd54eb994d208586822", func := "multihop/multihoplaw12.ContextsForms", spec := "contextsForms", plainKeys := false, apart := false, narrowed := true }
def ContextsFormsUptoSaid : Prop := contextsFormsUptoRow.holds Try.pinned (OpenSpec.upto contextsFormsSpec)

/-- 'multihoplaw12.ContextsExpires', WHERE WHAT IT READS IS OF BULK AT MOST 1048576: true; the input reads as it did. -/
def contextsExpiresUptoRow : OpenClaim := { program := "ytcnfjifokeancaa", sum := "ba5b6ce49e5df5bf2976d59b0669cf5e2c05a111a7ae0cd54eb994d208586822", func := "multihop/multihoplaw12.ContextsExpires", spec := "contextsExpires", plainKeys := false, apart := false, narrowed := true }
def ContextsExpiresUptoSaid : Prop := contextsExpiresUptoRow.holds Try.pinned (OpenSpec.upto contextsExpiresSpec)

/-- 'multihoplaw36.MobilityFollows', WHERE WHAT IT READS IS OF BULK AT MOST 1048576: true; the input reads as it did. -/
def mobilityFollowsUptoRow : OpenClaim := { program := "ytcnfjifokeancaa", sum := "ba5b6ce49e5df5bf2976d59b0669cf5e2c05a111a7ae0cd54eb994d208586822", func := "multihop/multihoplaw36.MobilityFollows", spec := "mobilityFollows", inPlace := ["internal/bytealg.Compare"], plainKeys := false, apart := false, narrowed := true }
def MobilityFollowsUptoSaid : Prop := mobilityFollowsUptoRow.holds Try.pinned (OpenSpec.upto mobilityFollowsSpec)

/-- 'multihoplaw36.MobilityEnds', WHERE WHAT IT READS IS OF BULK AT MOST 1048576: true; the input reads as it did. -/
def mobilityEndsUptoRow : OpenClaim := { program := "ytcnfjifokeancaa", sum := "ba5b6ce49e5df5bf2976d59b0669cf5e2c05a111a7ae0cd54eb994d208586822", func := "multihop/multihoplaw36.MobilityEnds", spec := "mobilityEnds", inPlace := ["internal/bytealg.Compare"], plainKeys := false, apart := false, narrowed := true }
def MobilityEndsUptoSaid : Prop := mobilityEndsUptoRow.holds Try.pinned (OpenSpec.upto mobilityEndsSpec)

/-- 'multihoplaw36.MobilityReads', WHERE WHAT IT READS IS OF BULK AT MOST 1048576: true; the input reads as it did. -/
def mobilityReadsUptoRow : OpenClaim := { program := "ytcnfjifokeancaa", sum := "ba5b6ce49e5df5bf2976d59b0669cf5e2c05a111a7ae0cd54eb994d208586822", func := "multihop/multihoplaw36.MobilityReads", spec := "mobilityReads", inPlace := ["internal/bytealg.Compare"], plainKeys := false, apart := false, narrowed := true }
def MobilityReadsUptoSaid : Prop := mobilityReadsUptoRow.holds Try.pinned (OpenSpec.upto mobilityReadsSpec)

end Rows
end Go.Proofs.Ytcnfjifokeancaa
