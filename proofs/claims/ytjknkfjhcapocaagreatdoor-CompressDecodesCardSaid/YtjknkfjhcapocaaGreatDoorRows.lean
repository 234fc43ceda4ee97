/-
  NARROWER THAN 'FOR EVERY INPUT', by the rows' own cells (each row's printed sentence says how): CompressEncodes: laid · CompressDecodes: laid.
  DERIVED. THE GIVEN ROWS OF THIS SEAT. 2 by the template 'for every input the law returns true; each argument reads behind the call as it read before'; 0 by the template 'total and deterministic' (their statements: YtjknkfjhcapocaaGreatDoorTotals.lean).
  GIVEN WITH THE SEED: the statements are not yours to turn. If you find one false, say at which input.
  Laid BY PROGRAM, IN A SANDBOX (cutbox-rows.mjs): the forced cells as the released guide's own fill.sh prints them over the translation 0ea306a43d1d2fc2… (all of the seat's roots in one cut). By AI agents, Wed Nov 11 2026. No macro, syntax, notation, axiom, sorry.
-/
import Derived.Test.YtjknkfjhcapocaaGreatDoorChecked
import GoSem.Claim
import GoSem.ClaimJoined
import GoSem.ClaimMapViews
import Derived.JoinedTies
import Derived.KernelRfl
namespace Go.Proofs.YtjknkfjhcapocaaGreatDoor
/- THE CELL 'sum', in the pinned program and in every row, IS THE sha256 OF THE DUMP (.gsa) THAT YtjknkfjhcapocaaGreatDoorProg.lean LOADS. Nothing in Lean hashes anything: it is a label: what it is worth is what the hold of that sum in a sandbox is worth. -/
noncomputable def Tryz.pinned : Pinned := { name := "ytjknkfjhcapocaagreatdoor", sum := "0ea306a43d1d2fc2d6023437dace9bc7dccab53495ffbdc405c3602026dc642f", checked := Tryz.checked }
namespace Rows
def none {H : Type} : Left H := { results := [], args := [] }

/- WHAT THE LISTED PACKAGE-LEVEL VARIABLES READ AS WHEN THE CALL BEGINS. Each datum BY PROGRAM (the guide's laid-datum.mjs) off the statement by which the dump's own 'gosem.cut.vars' lays the variable. In a bare row this is a premise. The card (YtjknkfjhcapocaaGreatDoorCards.lean) ties it to the program's text. -/
def laid_multihop_multihoplaw15_one {H : Type} : DataW H := .agg [.lit (.int .i64 2), .lit (.int .u16 1), .lit (.int .u64 0)]
def laid_multihop_multihoplaw15_two {H : Type} : DataW H := .agg [.lit (.int .i64 2), .lit (.int .u16 2), .lit (.int .u64 0)]
def laid_multihop_multihopref15_lengths {H : Type} : DataW H := .agg [.lit (.int .i64 4), .lit (.int .i64 3), .lit (.int .i64 3), .lit (.int .i64 1)]

/-- 'multihoplaw15.CompressEncodes': WHATEVER THE INPUT: true; the input reads as it did. -/
def compressEncodesSpec : ChangeSpec := { name := "compressEncodes", fn := fun _ => fun
  | [d1, d2, d3, d4, d5, d6] => { results := [.lit (.bool true)], args := [d1, d2, d3, d4, d5, d6] }
  | _ => none }
def compressEncodesRow : OpenClaim := { program := "ytjknkfjhcapocaagreatdoor", sum := "0ea306a43d1d2fc2d6023437dace9bc7dccab53495ffbdc405c3602026dc642f", func := "multihop/multihoplaw15.CompressEncodes", spec := "compressEncodes", unfollowed := true, recurses := true, named := ["multihop/multihoplaw15.one", "multihop/multihoplaw15.two"], apart := false, laid := [("multihop/multihoplaw15.one", laid_multihop_multihoplaw15_one), ("multihop/multihoplaw15.two", laid_multihop_multihoplaw15_two)] }
def CompressEncodesSaid : Prop := compressEncodesRow.holds Tryz.pinned (OpenSpec.ofChange compressEncodesSpec)

/-- ITS FALSE NEIGHBOUR: 'it returns false'. Refute it at one input. -/
def compressEncodesWrong : ChangeSpec := { name := "compressEncodes", fn := fun _ => fun
  | [d1, d2, d3, d4, d5, d6] => { results := [.lit (.bool false)], args := [d1, d2, d3, d4, d5, d6] }
  | _ => none }
def CompressEncodesWrongFalsely : Prop := compressEncodesRow.holds Tryz.pinned (OpenSpec.ofChange compressEncodesWrong)

/-- 'multihoplaw15.CompressDecodes': WHATEVER THE INPUT: true; the input reads as it did. -/
def compressDecodesSpec : ChangeSpec := { name := "compressDecodes", fn := fun _ => fun
  | [d1, d2, d3, d4, d5, d6, d7, d8, d9] => { results := [.lit (.bool true)], args := [d1, d2, d3, d4, d5, d6, d7, d8, d9] }
  | _ => none }
def compressDecodesRow : OpenClaim := { program := "ytjknkfjhcapocaagreatdoor", sum := "0ea306a43d1d2fc2d6023437dace9bc7dccab53495ffbdc405c3602026dc642f", func := "multihop/multihoplaw15.CompressDecodes", spec := "compressDecodes", unfollowed := true, recurses := true, named := ["multihop/multihoplaw15.one", "multihop/multihoplaw15.two", "multihop/multihopref15.lengths"], apart := false, laid := [("multihop/multihopref15.lengths", laid_multihop_multihopref15_lengths), ("multihop/multihoplaw15.one", laid_multihop_multihoplaw15_one), ("multihop/multihoplaw15.two", laid_multihop_multihoplaw15_two)] }
def CompressDecodesSaid : Prop := compressDecodesRow.holds Tryz.pinned (OpenSpec.ofChange compressDecodesSpec)

/-- ITS FALSE NEIGHBOUR: 'it returns false'. Refute it at one input. -/
def compressDecodesWrong : ChangeSpec := { name := "compressDecodes", fn := fun _ => fun
  | [d1, d2, d3, d4, d5, d6, d7, d8, d9] => { results := [.lit (.bool false)], args := [d1, d2, d3, d4, d5, d6, d7, d8, d9] }
  | _ => none }
def CompressDecodesWrongFalsely : Prop := compressDecodesRow.holds Tryz.pinned (OpenSpec.ofChange compressDecodesWrong)

/- THE SECOND FORM. 'bulk': how many values and letters a reading holds, each counted each time it is reached (what is shared counts as often as it is met; a slice's spare places count too). A statement '..UptoSaid' is the law's where the arguments, and the package variables that the reading takes, are together of bulk at most 1048576: NARROWER than '..Said'. Prove '..Said' where nothing that the law and all that it calls make is longer than what came in: it says more and counts as full. Else prove '..UptoSaid'. A law counts once. -/
mutual
def uptoBulk {H : Type} : DataW H → Nat
  | .lit (.string bytes) => bytes.length + 1
  | .lit _ => 1
  | .nil => 1
  | .ptr d => uptoBulk d + 1
  | .slice elems spare => uptoBulkAll elems + uptoBulkAll spare + 1
  | .agg parts => uptoBulkAll parts + 1
  | .iface _ d => uptoBulk d + 1
  | .map entries => uptoBulkEntries entries + 1
  | .held _ => 1
def uptoBulkAll {H : Type} : List (DataW H) → Nat
  | [] => 0
  | d :: r => uptoBulk d + uptoBulkAll r
def uptoBulkEntries {H : Type} : List (Lit × DataW H) → Nat
  | [] => 0
  | x :: r => uptoBulkEntry x + uptoBulkEntries r
def uptoBulkEntry {H : Type} : Lit × DataW H → Nat
  | (.string bytes, d) => bytes.length + uptoBulk d + 1
  | (_, d) => uptoBulk d + 1
 end
def uptoSmall : (H : Type) → List (DataW H) → Bool := fun _ ds => decide (uptoBulkAll ds ≤ 1048576)
def OpenSpec.upto (s : _root_.Go.ChangeSpec) : _root_.Go.OpenSpec := { _root_.Go.OpenSpec.ofChange s with cond := some uptoSmall }

/-- 'multihoplaw15.CompressEncodes', WHERE WHAT IT READS IS OF BULK AT MOST 1048576: true; the input reads as it did. -/
def compressEncodesUptoRow : OpenClaim := { program := "ytjknkfjhcapocaagreatdoor", sum := "0ea306a43d1d2fc2d6023437dace9bc7dccab53495ffbdc405c3602026dc642f", func := "multihop/multihoplaw15.CompressEncodes", spec := "compressEncodes", unfollowed := true, recurses := true, named := ["multihop/multihoplaw15.one", "multihop/multihoplaw15.two"], apart := false, laid := [("multihop/multihoplaw15.one", laid_multihop_multihoplaw15_one), ("multihop/multihoplaw15.two", laid_multihop_multihoplaw15_two)], narrowed := true }
def CompressEncodesUptoSaid : Prop := compressEncodesUptoRow.holds Tryz.pinned (OpenSpec.upto compressEncodesSpec)

/-- 'multihoplaw15.CompressDecodes', WHERE WHAT IT READS IS OF BULK AT MOST 1048576: true; the input reads as it did. -/
def compressDecodesUptoRow : OpenClaim := { program := "ytjknkfjhcapocaagreatdoor", sum := "0ea306a43d1d2fc2d6023437dace9bc7dccab53495ffbdc405c3602026dc642f", func := "multihop/multihoplaw15.CompressDecodes", spec := "compressDecodes", unfollowed := true, recurses := true, named := ["multihop/multihoplaw15.one", "multihop/multihoplaw15.two", "multihop/multihopref15.lengths"], apart := false, laid := [("multihop/multihopref15.lengths", laid_multihop_multihopref15_lengths), ("multihop/multihoplaw15.one", laid_multihop_multihoplaw15_one), ("multihop/multihoplaw15.two", laid_multihop_multihoplaw15_two)], narrowed := true }
def CompressDecodesUptoSaid : Prop := compressDecodesUptoRow.holds Tryz.pinned (OpenSpec.upto compressDecodesSpec)

end Rows
end Go.Proofs.YtjknkfjhcapocaaGreatDoor
