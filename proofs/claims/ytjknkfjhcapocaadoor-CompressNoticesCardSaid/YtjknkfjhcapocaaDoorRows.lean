/-
  NARROWER THAN 'FOR EVERY INPUT', by the rows' own cells (each row's printed sentence says how): CompressShorter: laid · CompressPorts: laid · CompressNotices: laid · CompressBack: laid.
  DERIVED. THE GIVEN ROWS OF THIS SEAT. 4 by the template 'for every input the law returns true; each argument reads behind the call as it read before'; 0 by the template 'total and deterministic' (their statements: YtjknkfjhcapocaaDoorTotals.lean).
  GIVEN WITH THE SEED: the statements are not yours to turn. If you find one false, say at which input.
  Laid BY PROGRAM, IN A SANDBOX (cutbox-rows.mjs): the forced cells as the released guide's own fill.sh prints them over the translation a1718c9bacc9afaf… (all of the seat's roots in one cut). By AI agents, Wed Nov 11 2026. No macro, syntax, notation, axiom, sorry.
-/
import Derived.Test.YtjknkfjhcapocaaDoorChecked
import GoSem.Claim
import GoSem.ClaimJoined
import GoSem.ClaimMapViews
import Derived.JoinedTies
import Derived.KernelRfl
namespace Go.Proofs.YtjknkfjhcapocaaDoor
/- THE CELL 'sum', in the pinned program and in every row, IS THE sha256 OF THE DUMP (.gsa) THAT YtjknkfjhcapocaaDoorProg.lean LOADS. Nothing in Lean hashes anything: it is a label: what it is worth is what the hold of that sum in a sandbox is worth. -/
noncomputable def Tryd.pinned : Pinned := { name := "ytjknkfjhcapocaadoor", sum := "a1718c9bacc9afaff561b4197561681f3a040f428b80afb99190a95f278f2e8d", checked := Tryd.checked }
namespace Rows
def none {H : Type} : Left H := { results := [], args := [] }

/- WHAT THE LISTED PACKAGE-LEVEL VARIABLES READ AS WHEN THE CALL BEGINS. Each datum BY PROGRAM (the guide's laid-datum.mjs) off the statement by which the dump's own 'gosem.cut.vars' lays the variable. In a bare row this is a premise. The card (YtjknkfjhcapocaaDoorCards.lean) ties it to the program's text. -/
def laid_multihop_multihoplaw15_one {H : Type} : DataW H := .agg [.lit (.int .i64 2), .lit (.int .u16 1), .lit (.int .u64 0)]
def laid_multihop_multihoplaw15_two {H : Type} : DataW H := .agg [.lit (.int .i64 2), .lit (.int .u16 2), .lit (.int .u64 0)]

/-- 'multihoplaw15.CompressShorter': WHATEVER THE INPUT: true; the input reads as it did. -/
def compressShorterSpec : ChangeSpec := { name := "compressShorter", fn := fun _ => fun
  | [d] => { results := [.lit (.bool true)], args := [d] }
  | _ => none }
def compressShorterRow : OpenClaim := { program := "ytjknkfjhcapocaadoor", sum := "a1718c9bacc9afaff561b4197561681f3a040f428b80afb99190a95f278f2e8d", func := "multihop/multihoplaw15.CompressShorter", spec := "compressShorter", unfollowed := true, recurses := true, named := ["multihop/multihoplaw15.one", "multihop/multihoplaw15.two"], apart := false, laid := [("multihop/multihoplaw15.one", laid_multihop_multihoplaw15_one), ("multihop/multihoplaw15.two", laid_multihop_multihoplaw15_two)] }
def CompressShorterSaid : Prop := compressShorterRow.holds Tryd.pinned (OpenSpec.ofChange compressShorterSpec)

/-- ITS FALSE NEIGHBOUR: 'it returns false'. Refute it at one input. -/
def compressShorterWrong : ChangeSpec := { name := "compressShorter", fn := fun _ => fun
  | [d] => { results := [.lit (.bool false)], args := [d] }
  | _ => none }
def CompressShorterWrongFalsely : Prop := compressShorterRow.holds Tryd.pinned (OpenSpec.ofChange compressShorterWrong)

/-- 'multihoplaw15.CompressPorts': WHATEVER THE INPUT: true; the input reads as it did. -/
def compressPortsSpec : ChangeSpec := { name := "compressPorts", fn := fun _ => fun
  | [d1, d2, d3] => { results := [.lit (.bool true)], args := [d1, d2, d3] }
  | _ => none }
def compressPortsRow : OpenClaim := { program := "ytjknkfjhcapocaadoor", sum := "a1718c9bacc9afaff561b4197561681f3a040f428b80afb99190a95f278f2e8d", func := "multihop/multihoplaw15.CompressPorts", spec := "compressPorts", unfollowed := true, recurses := true, named := ["multihop/multihoplaw15.one", "multihop/multihoplaw15.two"], apart := false, laid := [("multihop/multihoplaw15.one", laid_multihop_multihoplaw15_one), ("multihop/multihoplaw15.two", laid_multihop_multihoplaw15_two)] }
def CompressPortsSaid : Prop := compressPortsRow.holds Tryd.pinned (OpenSpec.ofChange compressPortsSpec)

/-- ITS FALSE NEIGHBOUR: 'it returns false'. Refute it at one input. -/
def compressPortsWrong : ChangeSpec := { name := "compressPorts", fn := fun _ => fun
  | [d1, d2, d3] => { results := [.lit (.bool false)], args := [d1, d2, d3] }
  | _ => none }
def CompressPortsWrongFalsely : Prop := compressPortsRow.holds Tryd.pinned (OpenSpec.ofChange compressPortsWrong)

/-- 'multihoplaw15.CompressNotices': WHATEVER THE INPUT: true; the input reads as it did. -/
def compressNoticesSpec : ChangeSpec := { name := "compressNotices", fn := fun _ => fun
  | [d1, d2, d3, d4, d5] => { results := [.lit (.bool true)], args := [d1, d2, d3, d4, d5] }
  | _ => none }
def compressNoticesRow : OpenClaim := { program := "ytjknkfjhcapocaadoor", sum := "a1718c9bacc9afaff561b4197561681f3a040f428b80afb99190a95f278f2e8d", func := "multihop/multihoplaw15.CompressNotices", spec := "compressNotices", unfollowed := true, recurses := true, named := ["multihop/multihoplaw15.one", "multihop/multihoplaw15.two"], apart := false, laid := [("multihop/multihoplaw15.one", laid_multihop_multihoplaw15_one), ("multihop/multihoplaw15.two", laid_multihop_multihoplaw15_two)] }
def CompressNoticesSaid : Prop := compressNoticesRow.holds Tryd.pinned (OpenSpec.ofChange compressNoticesSpec)

/-- ITS FALSE NEIGHBOUR: 'it returns false'. Refute it at one input. -/
def compressNoticesWrong : ChangeSpec := { name := "compressNotices", fn := fun _ => fun
  | [d1, d2, d3, d4, d5] => { results := [.lit (.bool false)], args := [d1, d2, d3, d4, d5] }
  | _ => none }
def CompressNoticesWrongFalsely : Prop := compressNoticesRow.holds Tryd.pinned (OpenSpec.ofChange compressNoticesWrong)

/-- 'multihoplaw15.CompressBack': WHATEVER THE INPUT: true; the input reads as it did. -/
def compressBackSpec : ChangeSpec := { name := "compressBack", fn := fun _ => fun
  | [d1, d2] => { results := [.lit (.bool true)], args := [d1, d2] }
  | _ => none }
def compressBackRow : OpenClaim := { program := "ytjknkfjhcapocaadoor", sum := "a1718c9bacc9afaff561b4197561681f3a040f428b80afb99190a95f278f2e8d", func := "multihop/multihoplaw15.CompressBack", spec := "compressBack", unfollowed := true, recurses := true, named := ["multihop/multihoplaw15.one", "multihop/multihoplaw15.two"], apart := false, laid := [("multihop/multihoplaw15.one", laid_multihop_multihoplaw15_one), ("multihop/multihoplaw15.two", laid_multihop_multihoplaw15_two)] }
def CompressBackSaid : Prop := compressBackRow.holds Tryd.pinned (OpenSpec.ofChange compressBackSpec)

/-- ITS FALSE NEIGHBOUR: 'it returns false'. Refute it at one input. -/
def compressBackWrong : ChangeSpec := { name := "compressBack", fn := fun _ => fun
  | [d1, d2] => { results := [.lit (.bool false)], args := [d1, d2] }
  | _ => none }
def CompressBackWrongFalsely : Prop := compressBackRow.holds Tryd.pinned (OpenSpec.ofChange compressBackWrong)

/- THE SECOND FORM. 'bulk': how many values and letters a reading holds, each counted each time it is reached (what is shared counts as often as it is met; a slice's spare places count too). A statement '..UptoSaid' is the law's where the arguments, and the package variables that the reading takes, are together of bulk at most 1048576: NARROWER than '..Said'. Prove '..Said' where nothing that the law and all that it calls make is longer than what came in: it says more and counts as full. Else prove '..UptoSaid'. A law counts once. -/
mutual
def uptoBulk {H : Type} : DataW H → Nat
  | .lit (.string bytes) => bytes.length + 1
  | .lit _ => 1
  | .nil => 1
  | .ptr d => uptoBulk d + 1
  | .slice elems spare => uptoBulkAll elems + uptoBulkAll spare + 1
  | .agg parts => uptoBulkAll parts + 1
  | .iface _ d => uptoBulk d + 1
  | .map entries => uptoBulkEntries entries + 1
  | .held _ => 1
def uptoBulkAll {H : Type} : List (DataW H) → Nat
  | [] => 0
  | d :: r => uptoBulk d + uptoBulkAll r
def uptoBulkEntries {H : Type} : List (Lit × DataW H) → Nat
  | [] => 0
  | x :: r => uptoBulkEntry x + uptoBulkEntries r
def uptoBulkEntry {H : Type} : Lit × DataW H → Nat
  | (.string bytes, d) => bytes.length + uptoBulk d + 1
  | (_, d) => uptoBulk d + 1
 end
def uptoSmall : (H : Type) → List (DataW H) → Bool := fun _ ds => decide (uptoBulkAll ds ≤ 1048576)
def OpenSpec.upto (s : _root_.Go.ChangeSpec) : _root_.Go.OpenSpec := { _root_.Go.OpenSpec.ofChange s with cond := some uptoSmall }

/-- 'multihoplaw15.CompressShorter', WHERE WHAT IT READS IS OF BULK AT MOST 1048576: true; the input reads as it did. -/
def compressShorterUptoRow : OpenClaim := { program := "ytjknkfjhcapocaadoor", sum := "a1718c9bacc9afaff561b4197561681f3a040f428b80afb99190a95f278f2e8d", func := "multihop/multihoplaw15.CompressShorter", spec := "compressShorter", unfollowed := true, recurses := true, named := ["multihop/multihoplaw15.one", "multihop/multihoplaw15.two"], apart := false, laid := [("multihop/multihoplaw15.one", laid_multihop_multihoplaw15_one), ("multihop/multihoplaw15.two", laid_multihop_multihoplaw15_two)], narrowed := true }
def CompressShorterUptoSaid : Prop := compressShorterUptoRow.holds Tryd.pinned (OpenSpec.upto compressShorterSpec)

/-- 'multihoplaw15.CompressPorts', WHERE WHAT IT READS IS OF BULK AT MOST 1048576: true; the input reads as it did. -/
def compressPortsUptoRow : OpenClaim := { program := "ytjknkfjhcapocaadoor", sum := "a1718c9bacc9afaff561b4197561681f3a040f428b80afb99190a95f278f2e8d", func := "multihop/multihoplaw15.CompressPorts", spec := "compressPorts", unfollowed := true, recurses := true, named := ["multihop/multihoplaw15.one", "multihop/multihoplaw15.two"], apart := false, laid := [("multihop/multihoplaw15.one", laid_multihop_multihoplaw15_one), ("multihop/multihoplaw15.two", laid_multihop_multihoplaw15_two)], narrowed := true }
def CompressPortsUptoSaid : Prop := compressPortsUptoRow.holds Tryd.pinned (OpenSpec.upto compressPortsSpec)

/-- 'multihoplaw15.CompressNotices', WHERE WHAT IT READS IS OF BULK AT MOST 1048576: true; the input reads as it did. -/
def compressNoticesUptoRow : OpenClaim := { program := "ytjknkfjhcapocaadoor", sum := "a1718c9bacc9afaff561b4197561681f3a040f428b80afb99190a95f278f2e8d", func := "multihop/multihoplaw15.CompressNotices", spec := "compressNotices", unfollowed := true, recurses := true, named := ["multihop/multihoplaw15.one", "multihop/multihoplaw15.two"], apart := false, laid := [("multihop/multihoplaw15.one", laid_multihop_multihoplaw15_one), ("multihop/multihoplaw15.two", laid_multihop_multihoplaw15_two)], narrowed := true }
def CompressNoticesUptoSaid : Prop := compressNoticesUptoRow.holds Tryd.pinned (OpenSpec.upto compressNoticesSpec)

/-- 'multihoplaw15.CompressBack', WHERE WHAT IT READS IS OF BULK AT MOST 1048576: true; the input reads as it did. -/
def compressBackUptoRow : OpenClaim := { program := "ytjknkfjhcapocaadoor", sum := "a1718c9bacc9afaff561b4197561681f3a040f428b80afb99190a95f278f2e8d", func := "multihop/multihoplaw15.CompressBack", spec := "compressBack", unfollowed := true, recurses := true, named := ["multihop/multihoplaw15.one", "multihop/multihoplaw15.two"], apart := false, laid := [("multihop/multihoplaw15.one", laid_multihop_multihoplaw15_one), ("multihop/multihoplaw15.two", laid_multihop_multihoplaw15_two)], narrowed := true }
def CompressBackUptoSaid : Prop := compressBackUptoRow.holds Tryd.pinned (OpenSpec.upto compressBackSpec)

end Rows
end Go.Proofs.YtjknkfjhcapocaaDoor
