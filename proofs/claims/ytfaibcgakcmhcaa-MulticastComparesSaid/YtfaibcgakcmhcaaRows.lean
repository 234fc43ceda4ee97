/-
  No cell of these rows narrows 'for every input' (looked for: loops, veiled, ifaces, maps, wideKeys, modest, calm, conditions, laid).
  DERIVED. THE GIVEN ROWS OF THIS SEAT. 6 by the template 'for every input the law returns true; each argument reads behind the call as it read before'; 0 by the template 'total and deterministic' (their statements: YtfaibcgakcmhcaaTotals.lean).
  GIVEN WITH THE SEED: the statements are not yours to turn. If you find one false, say at which input.
  Laid BY PROGRAM, IN A SANDBOX (cutbox-rows.mjs): the forced cells as the released guide's own fill.sh prints them over the translation c6a3bce9fb6b39e2… (all of the seat's roots in one cut). By AI agents, Wed Nov 11 2026. No macro, syntax, notation, axiom, sorry.
-/
import Derived.Test.YtfaibcgakcmhcaaChecked
import GoSem.Claim
import GoSem.ClaimJoined
import GoSem.ClaimMapViews
import Derived.JoinedTies
import Derived.KernelRfl
namespace Go.Proofs.Ytfaibcgakcmhcaa
/- THE CELL 'sum', in the pinned program and in every row, IS THE sha256 OF THE DUMP (.gsa) THAT YtfaibcgakcmhcaaProg.lean LOADS. Nothing in Lean hashes anything: it is a label: what it is worth is what the hold of that sum in a sandbox is worth. -/
noncomputable def Try.pinned : Pinned := { name := "ytfaibcgakcmhcaa", sum := "c6a3bce9fb6b39e2cb6a5cb67b87064adc299348fb83a94a084c8f38e783fe83", checked := Try.checked }
namespace Rows
def none {H : Type} : Left H := { results := [], args := [] }

/-- 'multihoplaw35.MulticastDeaf': WHATEVER THE INPUT: true; the input reads as it did. -/
def multicastDeafSpec : ChangeSpec := { name := "multicastDeaf", fn := fun _ => fun
  | [d] => { results := [.lit (.bool true)], args := [d] }
  | _ => none }
def multicastDeafRow : OpenClaim := { program := "ytfaibcgakcmhcaa", sum := "c6a3bce9fb6b39e2cb6a5cb67b87064adc299348fb83a94a084c8f38e783fe83", func := "multihop/multihoplaw35.MulticastDeaf", spec := "multicastDeaf", unfollowed := true, recurses := true, apart := false }
def MulticastDeafSaid : Prop := multicastDeafRow.holds Try.pinned (OpenSpec.ofChange multicastDeafSpec)

/-- ITS FALSE NEIGHBOUR: 'it returns false'. Refute it at one input. -/
def multicastDeafWrong : ChangeSpec := { name := "multicastDeaf", fn := fun _ => fun
  | [d] => { results := [.lit (.bool false)], args := [d] }
  | _ => none }
def MulticastDeafWrongFalsely : Prop := multicastDeafRow.holds Try.pinned (OpenSpec.ofChange multicastDeafWrong)

/-- 'multihoplaw35.MulticastAccepts': WHATEVER THE INPUT: true; the input reads as it did. -/
def multicastAcceptsSpec : ChangeSpec := { name := "multicastAccepts", fn := fun _ => fun
  | [d1, d2, d3, d4, d5, d6] => { results := [.lit (.bool true)], args := [d1, d2, d3, d4, d5, d6] }
  | _ => none }
def multicastAcceptsRow : OpenClaim := { program := "ytfaibcgakcmhcaa", sum := "c6a3bce9fb6b39e2cb6a5cb67b87064adc299348fb83a94a084c8f38e783fe83", func := "multihop/multihoplaw35.MulticastAccepts", spec := "multicastAccepts", unfollowed := true, recurses := true, apart := false }
def MulticastAcceptsSaid : Prop := multicastAcceptsRow.holds Try.pinned (OpenSpec.ofChange multicastAcceptsSpec)

/-- ITS FALSE NEIGHBOUR: 'it returns false'. Refute it at one input. -/
def multicastAcceptsWrong : ChangeSpec := { name := "multicastAccepts", fn := fun _ => fun
  | [d1, d2, d3, d4, d5, d6] => { results := [.lit (.bool false)], args := [d1, d2, d3, d4, d5, d6] }
  | _ => none }
def MulticastAcceptsWrongFalsely : Prop := multicastAcceptsRow.holds Try.pinned (OpenSpec.ofChange multicastAcceptsWrong)

/-- 'multihoplaw35.MulticastOnce': WHATEVER THE INPUT: true; the input reads as it did. -/
def multicastOnceSpec : ChangeSpec := { name := "multicastOnce", fn := fun _ => fun
  | [d] => { results := [.lit (.bool true)], args := [d] }
  | _ => none }
def multicastOnceRow : OpenClaim := { program := "ytfaibcgakcmhcaa", sum := "c6a3bce9fb6b39e2cb6a5cb67b87064adc299348fb83a94a084c8f38e783fe83", func := "multihop/multihoplaw35.MulticastOnce", spec := "multicastOnce", unfollowed := true, recurses := true, apart := false }
def MulticastOnceSaid : Prop := multicastOnceRow.holds Try.pinned (OpenSpec.ofChange multicastOnceSpec)

/-- ITS FALSE NEIGHBOUR: 'it returns false'. Refute it at one input. -/
def multicastOnceWrong : ChangeSpec := { name := "multicastOnce", fn := fun _ => fun
  | [d] => { results := [.lit (.bool false)], args := [d] }
  | _ => none }
def MulticastOnceWrongFalsely : Prop := multicastOnceRow.holds Try.pinned (OpenSpec.ofChange multicastOnceWrong)

/-- 'multihoplaw35.MulticastSteps': WHATEVER THE INPUT: true; the input reads as it did. -/
def multicastStepsSpec : ChangeSpec := { name := "multicastSteps", fn := fun _ => fun
  | [d1, d2, d3, d4] => { results := [.lit (.bool true)], args := [d1, d2, d3, d4] }
  | _ => none }
def multicastStepsRow : OpenClaim := { program := "ytfaibcgakcmhcaa", sum := "c6a3bce9fb6b39e2cb6a5cb67b87064adc299348fb83a94a084c8f38e783fe83", func := "multihop/multihoplaw35.MulticastSteps", spec := "multicastSteps", unfollowed := true, recurses := true, apart := false }
def MulticastStepsSaid : Prop := multicastStepsRow.holds Try.pinned (OpenSpec.ofChange multicastStepsSpec)

/-- ITS FALSE NEIGHBOUR: 'it returns false'. Refute it at one input. -/
def multicastStepsWrong : ChangeSpec := { name := "multicastSteps", fn := fun _ => fun
  | [d1, d2, d3, d4] => { results := [.lit (.bool false)], args := [d1, d2, d3, d4] }
  | _ => none }
def MulticastStepsWrongFalsely : Prop := multicastStepsRow.holds Try.pinned (OpenSpec.ofChange multicastStepsWrong)

/-- 'multihoplaw35.MulticastCompares': WHATEVER THE INPUT: true; the input reads as it did. -/
def multicastComparesSpec : ChangeSpec := { name := "multicastCompares", fn := fun _ => fun
  | [d1, d2, d3, d4, d5] => { results := [.lit (.bool true)], args := [d1, d2, d3, d4, d5] }
  | _ => none }
def multicastComparesRow : OpenClaim := { program := "ytfaibcgakcmhcaa", sum := "c6a3bce9fb6b39e2cb6a5cb67b87064adc299348fb83a94a084c8f38e783fe83", func := "multihop/multihoplaw35.MulticastCompares", spec := "multicastCompares", unfollowed := true, recurses := true, apart := false }
def MulticastComparesSaid : Prop := multicastComparesRow.holds Try.pinned (OpenSpec.ofChange multicastComparesSpec)

/-- ITS FALSE NEIGHBOUR: 'it returns false'. Refute it at one input. -/
def multicastComparesWrong : ChangeSpec := { name := "multicastCompares", fn := fun _ => fun
  | [d1, d2, d3, d4, d5] => { results := [.lit (.bool false)], args := [d1, d2, d3, d4, d5] }
  | _ => none }
def MulticastComparesWrongFalsely : Prop := multicastComparesRow.holds Try.pinned (OpenSpec.ofChange multicastComparesWrong)

/-- 'multihoplaw35.MulticastSpreads': WHATEVER THE INPUT: true; the input reads as it did. -/
def multicastSpreadsSpec : ChangeSpec := { name := "multicastSpreads", fn := fun _ => fun
  | [d1, d2] => { results := [.lit (.bool true)], args := [d1, d2] }
  | _ => none }
def multicastSpreadsRow : OpenClaim := { program := "ytfaibcgakcmhcaa", sum := "c6a3bce9fb6b39e2cb6a5cb67b87064adc299348fb83a94a084c8f38e783fe83", func := "multihop/multihoplaw35.MulticastSpreads", spec := "multicastSpreads", unfollowed := true, recurses := true, apart := false }
def MulticastSpreadsSaid : Prop := multicastSpreadsRow.holds Try.pinned (OpenSpec.ofChange multicastSpreadsSpec)

/-- ITS FALSE NEIGHBOUR: 'it returns false'. Refute it at one input. -/
def multicastSpreadsWrong : ChangeSpec := { name := "multicastSpreads", fn := fun _ => fun
  | [d1, d2] => { results := [.lit (.bool false)], args := [d1, d2] }
  | _ => none }
def MulticastSpreadsWrongFalsely : Prop := multicastSpreadsRow.holds Try.pinned (OpenSpec.ofChange multicastSpreadsWrong)

/- THE SECOND FORM. 'bulk': how many values and letters a reading holds, each counted each time it is reached (what is shared counts as often as it is met; a slice's spare places count too). A statement '..UptoSaid' is the law's where the arguments, and the package variables that the reading takes, are together of bulk at most 1048576: NARROWER than '..Said'. Prove '..Said' where nothing that the law and all that it calls make is longer than what came in: it says more and counts as full. Else prove '..UptoSaid'. A law counts once. -/
mutual
def uptoBulk {H : Type} : DataW H → Nat
  | .lit (.string bytes) => bytes.length + 1
  | .lit _ => 1
  | .nil => 1
  | .ptr d => uptoBulk d + 1
  | .slice elems spare => uptoBulkAll elems + uptoBulkAll spare + 1
  | .agg parts => uptoBulkAll parts + 1
  | .iface _ d => uptoBulk d + 1
  | .map entries => uptoBulkEntries entries + 1
  | .held _ => 1
def uptoBulkAll {H : Type} : List (DataW H) → Nat
  | [] => 0
  | d :: r => uptoBulk d + uptoBulkAll r
def uptoBulkEntries {H : Type} : List (Lit × DataW H) → Nat
  | [] => 0
  | x :: r => uptoBulkEntry x + uptoBulkEntries r
def uptoBulkEntry {H : Type} : Lit × DataW H → Nat
  | (.string bytes, d) => bytes.length + uptoBulk d + 1
  | (_, d) => uptoBulk d + 1
 end
def uptoSmall : (H : Type) → List (DataW H) → Bool := fun _ ds => decide (uptoBulkAll ds ≤ 1048576)
def OpenSpec.upto (s : _root_.Go.ChangeSpec) : _root_.Go.OpenSpec := { _root_.Go.OpenSpec.ofChange s with cond := some uptoSmall }

/-- 'multihoplaw35.MulticastDeaf', WHERE WHAT IT READS IS OF BULK AT MOST 1048576: true; the input reads as it did. -/
def multicastDeafUptoRow : OpenClaim := { program := "ytfaibcgakcmhcaa", sum := "c6a3bce9fb6b39e2cb6a5cb67b87064adc299348fb83a94a084c8f38e783fe83", func := "multihop/multihoplaw35.MulticastDeaf", spec := "multicastDeaf", unfollowed := true, recurses := true, apart := false, narrowed := true }
def MulticastDeafUptoSaid : Prop := multicastDeafUptoRow.holds Try.pinned (OpenSpec.upto multicastDeafSpec)

/-- 'multihoplaw35.MulticastAccepts', WHERE WHAT IT READS IS OF BULK AT MOST 1048576: true; the input reads as it did. -/
def multicastAcceptsUptoRow : OpenClaim := { program := "ytfaibcgakcmhcaa", sum := "c6a3bce9fb6b39e2cb6a5cb67b87064adc299348fb83a94a084c8f38e783fe83", func := "multihop/multihoplaw35.MulticastAccepts", spec := "multicastAccepts", unfollowed := true, recurses := true, apart := false, narrowed := true }
def MulticastAcceptsUptoSaid : Prop := multicastAcceptsUptoRow.holds Try.pinned (OpenSpec.upto multicastAcceptsSpec)

/-- 'multihoplaw35.MulticastOnce', WHERE WHAT IT READS IS OF BULK AT MOST 1048576: true; the input reads as it did. -/
def multicastOnceUptoRow : OpenClaim := { program := "ytfaibcgakcmhcaa", sum := "c6a3bce9fb6b39e2cb6a5cb67b87064adc299348fb83a94a084c8f38e783fe83", func := "multihop/multihoplaw35.MulticastOnce", spec := "multicastOnce", unfollowed := true, recurses := true, apart := false, narrowed := true }
def MulticastOnceUptoSaid : Prop := multicastOnceUptoRow.holds Try.pinned (OpenSpec.upto multicastOnceSpec)

/-- 'multihoplaw35.MulticastSteps', WHERE WHAT IT READS IS OF BULK AT MOST 1048576: true; the input reads as it did. -/
def multicastStepsUptoRow : OpenClaim := { program := "ytfaibcgakcmhcaa", sum := "c6a3bce9fb6b39e2cb6a5cb67b87064adc299348fb83a94a084c8f38e783fe83", func := "multihop/multihoplaw35.MulticastSteps", spec := "multicastSteps", unfollowed := true, recurses := true, apart := false, narrowed := true }
def MulticastStepsUptoSaid : Prop := multicastStepsUptoRow.holds Try.pinned (OpenSpec.upto multicastStepsSpec)

/-- 'multihoplaw35.MulticastCompares', WHERE WHAT IT READS IS OF BULK AT MOST 1048576: true; the input reads as it did. -/
def multicastComparesUptoRow : OpenClaim := { program := "ytfaibcgakcmhcaa", sum := "c6a3bce9fb6b39e2cb6a5cb67b87064adc299348fb83a94a084c8f38e783fe83", func := "multihop/multihoplaw35.MulticastCompares", spec := "multicastCompares", unfollowed := true, recurses := true, apart := false, narrowed := true }
def MulticastComparesUptoSaid : Prop := multicastComparesUptoRow.holds Try.pinned (OpenSpec.upto multicastComparesSpec)

/-- 'multihoplaw35.MulticastSpreads', WHERE WHAT IT READS IS OF BULK AT MOST 1048576: true; the input reads as it did. -/
def multicastSpreadsUptoRow : OpenClaim := { program := "ytfaibcgakcmhcaa", sum := "c6a3bce9fb6b39e2cb6a5cb67b87064adc299348fb83a94a084c8f38e783fe83", func := "multihop/multihoplaw35.MulticastSpreads", spec := "multicastSpreads", unfollowed := true, recurses := true, apart := false, narrowed := true }
def MulticastSpreadsUptoSaid : Prop := multicastSpreadsUptoRow.holds Try.pinned (OpenSpec.upto multicastSpreadsSpec)

end Rows
end Go.Proofs.Ytfaibcgakcmhcaa
