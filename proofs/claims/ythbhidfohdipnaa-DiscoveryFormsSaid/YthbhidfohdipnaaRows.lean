/-
  No cell of these rows narrows 'for every input' (looked for: loops, veiled, ifaces, maps, wideKeys, modest, calm, conditions, laid).
  DERIVED. THE GIVEN ROWS OF THIS SEAT. 5 by the template 'for every input the law returns true; each argument reads behind the call as it read before'; 0 by the template 'total and deterministic' (their statements: YthbhidfohdipnaaTotals.lean).
  GIVEN WITH THE SEED: the statements are not yours to turn. If you find one false, say at which input.
  Laid BY PROGRAM, IN A SANDBOX (cutbox-rows.mjs): the forced cells as the released guide's own fill.sh prints them over the translation d49c13b0788eec48… (all of the seat's roots in one cut). By AI agents, Wed Nov 11 2026. No macro, syntax, notation, axiom, sorry.
-/
import Derived.Test.YthbhidfohdipnaaChecked
import GoSem.Claim
import GoSem.ClaimJoined
import GoSem.ClaimMapViews
import Derived.JoinedTies
import Derived.KernelRfl
namespace Go.Proofs.Ythbhidfohdipnaa
/- THE CELL 'sum', in the pinned program and in every row, IS THE sha256 OF THE DUMP (.gsa) THAT YthbhidfohdipnaaProg.lean LOADS. Nothing in Lean hashes anything: it is a label: what it is worth is what the hold of that sum in a sandbox is worth. -/
noncomputable def Try.pinned : Pinned := { name := "ythbhidfohdipnaa", sum := "d49c13b0788eec48eb48b0eb77165ed484d2dda75e4a782b9ebcb2888b58b141", checked := Try.checked }
namespace Rows
def none {H : Type} : Left H := { results := [], args := [] }

/-- 'multihoplaw20.DiscoveryForms': WHATEVER THE INPUT: true; the input reads as it did. -/
def discoveryFormsSpec : ChangeSpec := { name := "discoveryForms", fn := fun _ => fun
  | [d1, d2, d3, d4, d5] => { results := [.lit (.bool true)], args := [d1, d2, d3, d4, d5] }
  | _ => none }
def discoveryFormsRow : OpenClaim := { program := "ythbhidfohdipnaa", sum := "d49c13b0788eec48eb48b0eb77165ed484d2dda75e4a782b9ebcb2888b58b141", func := "multihop/multihoplaw20.DiscoveryForms", spec := "discoveryForms", unfollowed := true, recurses := true, plainKeys := false, apart := false }
def DiscoveryFormsSaid : Prop := discoveryFormsRow.holds Try.pinned (OpenSpec.ofChange discoveryFormsSpec)

/-- ITS FALSE NEIGHBOUR: 'it returns false'. Refute it at one input. -/
def discoveryFormsWrong : ChangeSpec := { name := "discoveryForms", fn := fun _ => fun
  | [d1, d2, d3, d4, d5] => { results := [.lit (.bool false)], args := [d1, d2, d3, d4, d5] }
  | _ => none }
def DiscoveryFormsWrongFalsely : Prop := discoveryFormsRow.holds Try.pinned (OpenSpec.ofChange discoveryFormsWrong)

/-- 'multihoplaw20.DiscoveryReads': WHATEVER THE INPUT: true; the input reads as it did. -/
def discoveryReadsSpec : ChangeSpec := { name := "discoveryReads", fn := fun _ => fun
  | [d1, d2, d3, d4, d5, d6, d7] => { results := [.lit (.bool true)], args := [d1, d2, d3, d4, d5, d6, d7] }
  | _ => none }
def discoveryReadsRow : OpenClaim := { program := "ythbhidfohdipnaa", sum := "d49c13b0788eec48eb48b0eb77165ed484d2dda75e4a782b9ebcb2888b58b141", func := "multihop/multihoplaw20.DiscoveryReads", spec := "discoveryReads", unfollowed := true, recurses := true, plainKeys := false, apart := false }
def DiscoveryReadsSaid : Prop := discoveryReadsRow.holds Try.pinned (OpenSpec.ofChange discoveryReadsSpec)

/-- ITS FALSE NEIGHBOUR: 'it returns false'. Refute it at one input. -/
def discoveryReadsWrong : ChangeSpec := { name := "discoveryReads", fn := fun _ => fun
  | [d1, d2, d3, d4, d5, d6, d7] => { results := [.lit (.bool false)], args := [d1, d2, d3, d4, d5, d6, d7] }
  | _ => none }
def DiscoveryReadsWrongFalsely : Prop := discoveryReadsRow.holds Try.pinned (OpenSpec.ofChange discoveryReadsWrong)

/-- 'multihoplaw20.DiscoveryBack': WHATEVER THE INPUT: true; the input reads as it did. -/
def discoveryBackSpec : ChangeSpec := { name := "discoveryBack", fn := fun _ => fun
  | [d1, d2, d3] => { results := [.lit (.bool true)], args := [d1, d2, d3] }
  | _ => none }
def discoveryBackRow : OpenClaim := { program := "ythbhidfohdipnaa", sum := "d49c13b0788eec48eb48b0eb77165ed484d2dda75e4a782b9ebcb2888b58b141", func := "multihop/multihoplaw20.DiscoveryBack", spec := "discoveryBack", unfollowed := true, recurses := true, plainKeys := false, apart := false }
def DiscoveryBackSaid : Prop := discoveryBackRow.holds Try.pinned (OpenSpec.ofChange discoveryBackSpec)

/-- ITS FALSE NEIGHBOUR: 'it returns false'. Refute it at one input. -/
def discoveryBackWrong : ChangeSpec := { name := "discoveryBack", fn := fun _ => fun
  | [d1, d2, d3] => { results := [.lit (.bool false)], args := [d1, d2, d3] }
  | _ => none }
def DiscoveryBackWrongFalsely : Prop := discoveryBackRow.holds Try.pinned (OpenSpec.ofChange discoveryBackWrong)

/-- 'multihoplaw20.DiscoveryCanonical': WHATEVER THE INPUT: true; the input reads as it did. -/
def discoveryCanonicalSpec : ChangeSpec := { name := "discoveryCanonical", fn := fun _ => fun
  | [d1, d2, d3, d4, d5, d6] => { results := [.lit (.bool true)], args := [d1, d2, d3, d4, d5, d6] }
  | _ => none }
def discoveryCanonicalRow : OpenClaim := { program := "ythbhidfohdipnaa", sum := "d49c13b0788eec48eb48b0eb77165ed484d2dda75e4a782b9ebcb2888b58b141", func := "multihop/multihoplaw20.DiscoveryCanonical", spec := "discoveryCanonical", unfollowed := true, recurses := true, plainKeys := false, apart := false }
def DiscoveryCanonicalSaid : Prop := discoveryCanonicalRow.holds Try.pinned (OpenSpec.ofChange discoveryCanonicalSpec)

/-- ITS FALSE NEIGHBOUR: 'it returns false'. Refute it at one input. -/
def discoveryCanonicalWrong : ChangeSpec := { name := "discoveryCanonical", fn := fun _ => fun
  | [d1, d2, d3, d4, d5, d6] => { results := [.lit (.bool false)], args := [d1, d2, d3, d4, d5, d6] }
  | _ => none }
def DiscoveryCanonicalWrongFalsely : Prop := discoveryCanonicalRow.holds Try.pinned (OpenSpec.ofChange discoveryCanonicalWrong)

/-- 'multihoplaw20.DiscoveryNotices': WHATEVER THE INPUT: true; the input reads as it did. -/
def discoveryNoticesSpec : ChangeSpec := { name := "discoveryNotices", fn := fun _ => fun
  | [d1, d2, d3, d4, d5] => { results := [.lit (.bool true)], args := [d1, d2, d3, d4, d5] }
  | _ => none }
def discoveryNoticesRow : OpenClaim := { program := "ythbhidfohdipnaa", sum := "d49c13b0788eec48eb48b0eb77165ed484d2dda75e4a782b9ebcb2888b58b141", func := "multihop/multihoplaw20.DiscoveryNotices", spec := "discoveryNotices", unfollowed := true, recurses := true, plainKeys := false, apart := false }
def DiscoveryNoticesSaid : Prop := discoveryNoticesRow.holds Try.pinned (OpenSpec.ofChange discoveryNoticesSpec)

/-- ITS FALSE NEIGHBOUR: 'it returns false'. Refute it at one input. -/
def discoveryNoticesWrong : ChangeSpec := { name := "discoveryNotices", fn := fun _ => fun
  | [d1, d2, d3, d4, d5] => { results := [.lit (.bool false)], args := [d1, d2, d3, d4, d5] }
  | _ => none }
def DiscoveryNoticesWrongFalsely : Prop := discoveryNoticesRow.holds Try.pinned (OpenSpec.ofChange discoveryNoticesWrong)

/- THE SECOND FORM. 'bulk': how many values and letters a reading holds, each counted each time it is reached (what is shared counts as often as it is met; a slice's spare places count too). A statement '..UptoSaid' is the law's where the arguments, and the package variables that the reading takes, are together of bulk at most 1048576: NARROWER than '..Said'. Prove '..Said' where nothing that the law and all that it calls make is longer than what came in: it says more and counts as full. Else prove '..UptoSaid'. A law counts once. -/
mutual
def uptoBulk {H : Type} : DataW H → Nat
  | .lit (.string bytes) => bytes.length + 1
  | .lit _ => 1
  | .nil => 1
  | .ptr d => uptoBulk d + 1
  | .slice elems spare => uptoBulkAll elems + uptoBulkAll spare + 1
  | .agg parts => uptoBulkAll parts + 1
  | .iface _ d => uptoBulk d + 1
  | .map entries => uptoBulkEntries entries + 1
  | .held _ => 1
def uptoBulkAll {H : Type} : List (DataW H) → Nat
  | [] => 0
  | d :: r => uptoBulk d + uptoBulkAll r
def uptoBulkEntries {H : Type} : List (Lit × DataW H) → Nat
  | [] => 0
  | x :: r => uptoBulkEntry x + uptoBulkEntries r
def uptoBulkEntry {H : Type} : Lit × DataW H → Nat
  | (.string bytes, d) => bytes.length + uptoBulk d + 1
  | (_, d) => uptoBulk d + 1
 end
def uptoSmall : (H : Type) → List (DataW H) → Bool := fun _ ds => decide (uptoBulkAll ds ≤ 1048576)
def OpenSpec.upto (s : _root_.Go.ChangeSpec) : _root_.Go.OpenSpec := { _root_.Go.OpenSpec.ofChange s with cond := some uptoSmall }

/-- 'multihoplaw20.DiscoveryForms', WHERE WHAT IT READS IS OF BULK AT MOST 1048576: true; the input reads as it did. -/
def discoveryFormsUptoRow : OpenClaim := { program := "ythbhidfohdipnaa", sum := "d49c13b0788eec48eb48b0eb77165ed484d2dda75e4a782b9ebcb2888b58b141", func := "multihop/multihoplaw20.DiscoveryForms", spec := "discoveryForms", unfollowed := true, recurses := true, plainKeys := false, apart := false, narrowed := true }
def DiscoveryFormsUptoSaid : Prop := discoveryFormsUptoRow.holds Try.pinned (OpenSpec.upto discoveryFormsSpec)

/-- 'multihoplaw20.DiscoveryReads', WHERE WHAT IT READS IS OF BULK AT MOST 1048576: true; the input reads as it did. -/
def discoveryReadsUptoRow : OpenClaim := { program := "ythbhidfohdipnaa", sum := "d49c13b0788eec48eb48b0eb77165ed484d2dda75e4a782b9ebcb2888b58b141", func := "multihop/multihoplaw20.DiscoveryReads", spec := "discoveryReads", unfollowed := true, recurses := true, plainKeys := false, apart := false, narrowed := true }
def DiscoveryReadsUptoSaid : Prop := discoveryReadsUptoRow.holds Try.pinned (OpenSpec.upto discoveryReadsSpec)

/-- 'multihoplaw20.DiscoveryBack', WHERE WHAT IT READS IS OF BULK AT MOST 1048576: true; the input reads as it did. -/
def discoveryBackUptoRow : OpenClaim := { program := "ythbhidfohdipnaa", sum := "d49c13b0788eec48eb48b0eb77165ed484d2dda75e4a782b9ebcb2888b58b141", func := "multihop/multihoplaw20.DiscoveryBack", spec := "discoveryBack", unfollowed := true, recurses := true, plainKeys := false, apart := false, narrowed := true }
def DiscoveryBackUptoSaid : Prop := discoveryBackUptoRow.holds Try.pinned (OpenSpec.upto discoveryBackSpec)

/-- 'multihoplaw20.DiscoveryCanonical', WHERE WHAT IT READS IS OF BULK AT MOST 1048576: true; the input reads as it did. -/
def discoveryCanonicalUptoRow : OpenClaim := { program := "ythbhidfohdipnaa", sum := "d49c13b0788eec48eb48b0eb77165ed484d2dda75e4a782b9ebcb2888b58b141", func := "multihop/multihoplaw20.DiscoveryCanonical", spec := "discoveryCanonical", unfollowed := true, recurses := true, plainKeys := false, apart := false, narrowed := true }
def DiscoveryCanonicalUptoSaid : Prop := discoveryCanonicalUptoRow.holds Try.pinned (OpenSpec.upto discoveryCanonicalSpec)

/-- 'multihoplaw20.DiscoveryNotices', WHERE WHAT IT READS IS OF BULK AT MOST 1048576: true; the input reads as it did. -/
def discoveryNoticesUptoRow : OpenClaim := { program := "ythbhidfohdipnaa", sum := "d49c13b0788eec48eb48b0eb77165ed484d2dda75e4a782b9ebcb2888b58b141", func := "multihop/multihoplaw20.DiscoveryNotices", spec := "discoveryNotices", unfollowed := true, recurses := true, plainKeys := false, apart := false, narrowed := true }
def DiscoveryNoticesUptoSaid : Prop := discoveryNoticesUptoRow.holds Try.pinned (OpenSpec.upto discoveryNoticesSpec)

end Rows
end Go.Proofs.Ythbhidfohdipnaa
