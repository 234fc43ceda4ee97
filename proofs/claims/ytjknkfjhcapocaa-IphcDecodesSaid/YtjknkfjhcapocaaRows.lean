/-
  No cell of these rows narrows 'for every input' (looked for: loops, veiled, ifaces, maps, wideKeys, modest, calm, conditions, laid).
  DERIVED. THE GIVEN ROWS OF THIS SEAT. 14 by the template 'for every input the law returns true; each argument reads behind the call as it read before'; 0 by the template 'total and deterministic' (their statements: YtjknkfjhcapocaaTotals.lean).
  GIVEN WITH THE SEED: the statements are not yours to turn. If you find one false, say at which input.
  Laid BY PROGRAM, IN A SANDBOX (cutbox-rows.mjs): the forced cells as the released guide's own fill.sh prints them over the translation a453fcfdfb36e1d0… (all of the seat's roots in one cut). By AI agents, Wed Nov 11 2026. No macro, syntax, notation, axiom, sorry.
-/
import Derived.Test.YtjknkfjhcapocaaChecked
import GoSem.Claim
import GoSem.ClaimJoined
import GoSem.ClaimMapViews
import Derived.JoinedTies
import Derived.KernelRfl
namespace Go.Proofs.Ytjknkfjhcapocaa
/- THE CELL 'sum', in the pinned program and in every row, IS THE sha256 OF THE DUMP (.gsa) THAT YtjknkfjhcapocaaProg.lean LOADS. Nothing in Lean hashes anything: it is a label: what it is worth is what the hold of that sum in a sandbox is worth. -/
noncomputable def Try.pinned : Pinned := { name := "ytjknkfjhcapocaa", sum := "a453fcfdfb36e1d002851236b34060d4cd55566c8c8abdfc4d26e3b76211129d", checked := Try.checked }
namespace Rows
def none {H : Type} : Left H := { results := [], args := [] }

/-- 'multihoplaw13.PacketForms': WHATEVER THE INPUT: true; the input reads as it did. -/
def packetFormsSpec : ChangeSpec := { name := "packetForms", fn := fun _ => fun
  | [d1, d2, d3] => { results := [.lit (.bool true)], args := [d1, d2, d3] }
  | _ => none }
def packetFormsRow : OpenClaim := { program := "ytjknkfjhcapocaa", sum := "a453fcfdfb36e1d002851236b34060d4cd55566c8c8abdfc4d26e3b76211129d", func := "multihop/multihoplaw13.PacketForms", spec := "packetForms", unfollowed := true, recurses := true, apart := false }
def PacketFormsSaid : Prop := packetFormsRow.holds Try.pinned (OpenSpec.ofChange packetFormsSpec)

/-- ITS FALSE NEIGHBOUR: 'it returns false'. Refute it at one input. -/
def packetFormsWrong : ChangeSpec := { name := "packetForms", fn := fun _ => fun
  | [d1, d2, d3] => { results := [.lit (.bool false)], args := [d1, d2, d3] }
  | _ => none }
def PacketFormsWrongFalsely : Prop := packetFormsRow.holds Try.pinned (OpenSpec.ofChange packetFormsWrong)

/-- 'multihoplaw13.PacketReads': WHATEVER THE INPUT: true; the input reads as it did. -/
def packetReadsSpec : ChangeSpec := { name := "packetReads", fn := fun _ => fun
  | [d1, d2, d3, d4, d5] => { results := [.lit (.bool true)], args := [d1, d2, d3, d4, d5] }
  | _ => none }
def packetReadsRow : OpenClaim := { program := "ytjknkfjhcapocaa", sum := "a453fcfdfb36e1d002851236b34060d4cd55566c8c8abdfc4d26e3b76211129d", func := "multihop/multihoplaw13.PacketReads", spec := "packetReads", unfollowed := true, recurses := true, apart := false }
def PacketReadsSaid : Prop := packetReadsRow.holds Try.pinned (OpenSpec.ofChange packetReadsSpec)

/-- ITS FALSE NEIGHBOUR: 'it returns false'. Refute it at one input. -/
def packetReadsWrong : ChangeSpec := { name := "packetReads", fn := fun _ => fun
  | [d1, d2, d3, d4, d5] => { results := [.lit (.bool false)], args := [d1, d2, d3, d4, d5] }
  | _ => none }
def PacketReadsWrongFalsely : Prop := packetReadsRow.holds Try.pinned (OpenSpec.ofChange packetReadsWrong)

/-- 'multihoplaw13.PacketBack': WHATEVER THE INPUT: true; the input reads as it did. -/
def packetBackSpec : ChangeSpec := { name := "packetBack", fn := fun _ => fun
  | [d] => { results := [.lit (.bool true)], args := [d] }
  | _ => none }
def packetBackRow : OpenClaim := { program := "ytjknkfjhcapocaa", sum := "a453fcfdfb36e1d002851236b34060d4cd55566c8c8abdfc4d26e3b76211129d", func := "multihop/multihoplaw13.PacketBack", spec := "packetBack", unfollowed := true, recurses := true, apart := false }
def PacketBackSaid : Prop := packetBackRow.holds Try.pinned (OpenSpec.ofChange packetBackSpec)

/-- ITS FALSE NEIGHBOUR: 'it returns false'. Refute it at one input. -/
def packetBackWrong : ChangeSpec := { name := "packetBack", fn := fun _ => fun
  | [d] => { results := [.lit (.bool false)], args := [d] }
  | _ => none }
def PacketBackWrongFalsely : Prop := packetBackRow.holds Try.pinned (OpenSpec.ofChange packetBackWrong)

/-- 'multihoplaw13.PacketCanonical': WHATEVER THE INPUT: true; the input reads as it did. -/
def packetCanonicalSpec : ChangeSpec := { name := "packetCanonical", fn := fun _ => fun
  | [d1, d2, d3, d4] => { results := [.lit (.bool true)], args := [d1, d2, d3, d4] }
  | _ => none }
def packetCanonicalRow : OpenClaim := { program := "ytjknkfjhcapocaa", sum := "a453fcfdfb36e1d002851236b34060d4cd55566c8c8abdfc4d26e3b76211129d", func := "multihop/multihoplaw13.PacketCanonical", spec := "packetCanonical", unfollowed := true, recurses := true, apart := false }
def PacketCanonicalSaid : Prop := packetCanonicalRow.holds Try.pinned (OpenSpec.ofChange packetCanonicalSpec)

/-- ITS FALSE NEIGHBOUR: 'it returns false'. Refute it at one input. -/
def packetCanonicalWrong : ChangeSpec := { name := "packetCanonical", fn := fun _ => fun
  | [d1, d2, d3, d4] => { results := [.lit (.bool false)], args := [d1, d2, d3, d4] }
  | _ => none }
def PacketCanonicalWrongFalsely : Prop := packetCanonicalRow.holds Try.pinned (OpenSpec.ofChange packetCanonicalWrong)

/-- 'multihoplaw13.PacketForwards': WHATEVER THE INPUT: true; the input reads as it did. -/
def packetForwardsSpec : ChangeSpec := { name := "packetForwards", fn := fun _ => fun
  | [d1, d2] => { results := [.lit (.bool true)], args := [d1, d2] }
  | _ => none }
def packetForwardsRow : OpenClaim := { program := "ytjknkfjhcapocaa", sum := "a453fcfdfb36e1d002851236b34060d4cd55566c8c8abdfc4d26e3b76211129d", func := "multihop/multihoplaw13.PacketForwards", spec := "packetForwards", unfollowed := true, recurses := true, apart := false }
def PacketForwardsSaid : Prop := packetForwardsRow.holds Try.pinned (OpenSpec.ofChange packetForwardsSpec)

/-- ITS FALSE NEIGHBOUR: 'it returns false'. Refute it at one input. -/
def packetForwardsWrong : ChangeSpec := { name := "packetForwards", fn := fun _ => fun
  | [d1, d2] => { results := [.lit (.bool false)], args := [d1, d2] }
  | _ => none }
def PacketForwardsWrongFalsely : Prop := packetForwardsRow.holds Try.pinned (OpenSpec.ofChange packetForwardsWrong)

/-- 'multihoplaw13.PacketNotices': WHATEVER THE INPUT: true; the input reads as it did. -/
def packetNoticesSpec : ChangeSpec := { name := "packetNotices", fn := fun _ => fun
  | [d1, d2, d3] => { results := [.lit (.bool true)], args := [d1, d2, d3] }
  | _ => none }
def packetNoticesRow : OpenClaim := { program := "ytjknkfjhcapocaa", sum := "a453fcfdfb36e1d002851236b34060d4cd55566c8c8abdfc4d26e3b76211129d", func := "multihop/multihoplaw13.PacketNotices", spec := "packetNotices", unfollowed := true, recurses := true, apart := false }
def PacketNoticesSaid : Prop := packetNoticesRow.holds Try.pinned (OpenSpec.ofChange packetNoticesSpec)

/-- ITS FALSE NEIGHBOUR: 'it returns false'. Refute it at one input. -/
def packetNoticesWrong : ChangeSpec := { name := "packetNotices", fn := fun _ => fun
  | [d1, d2, d3] => { results := [.lit (.bool false)], args := [d1, d2, d3] }
  | _ => none }
def PacketNoticesWrongFalsely : Prop := packetNoticesRow.holds Try.pinned (OpenSpec.ofChange packetNoticesWrong)

/-- 'multihoplaw13.PacketSums': WHATEVER THE INPUT: true; the input reads as it did. -/
def packetSumsSpec : ChangeSpec := { name := "packetSums", fn := fun _ => fun
  | [d1, d2, d3, d4] => { results := [.lit (.bool true)], args := [d1, d2, d3, d4] }
  | _ => none }
def packetSumsRow : OpenClaim := { program := "ytjknkfjhcapocaa", sum := "a453fcfdfb36e1d002851236b34060d4cd55566c8c8abdfc4d26e3b76211129d", func := "multihop/multihoplaw13.PacketSums", spec := "packetSums", unfollowed := true, recurses := true, apart := false }
def PacketSumsSaid : Prop := packetSumsRow.holds Try.pinned (OpenSpec.ofChange packetSumsSpec)

/-- ITS FALSE NEIGHBOUR: 'it returns false'. Refute it at one input. -/
def packetSumsWrong : ChangeSpec := { name := "packetSums", fn := fun _ => fun
  | [d1, d2, d3, d4] => { results := [.lit (.bool false)], args := [d1, d2, d3, d4] }
  | _ => none }
def PacketSumsWrongFalsely : Prop := packetSumsRow.holds Try.pinned (OpenSpec.ofChange packetSumsWrong)

/-- 'multihoplaw14.IphcEncodes': WHATEVER THE INPUT: true; the input reads as it did. -/
def iphcEncodesSpec : ChangeSpec := { name := "iphcEncodes", fn := fun _ => fun
  | [d1, d2, d3, d4, d5, d6] => { results := [.lit (.bool true)], args := [d1, d2, d3, d4, d5, d6] }
  | _ => none }
def iphcEncodesRow : OpenClaim := { program := "ytjknkfjhcapocaa", sum := "a453fcfdfb36e1d002851236b34060d4cd55566c8c8abdfc4d26e3b76211129d", func := "multihop/multihoplaw14.IphcEncodes", spec := "iphcEncodes", unfollowed := true, recurses := true, apart := false }
def IphcEncodesSaid : Prop := iphcEncodesRow.holds Try.pinned (OpenSpec.ofChange iphcEncodesSpec)

/-- ITS FALSE NEIGHBOUR: 'it returns false'. Refute it at one input. -/
def iphcEncodesWrong : ChangeSpec := { name := "iphcEncodes", fn := fun _ => fun
  | [d1, d2, d3, d4, d5, d6] => { results := [.lit (.bool false)], args := [d1, d2, d3, d4, d5, d6] }
  | _ => none }
def IphcEncodesWrongFalsely : Prop := iphcEncodesRow.holds Try.pinned (OpenSpec.ofChange iphcEncodesWrong)

/-- 'multihoplaw14.IphcShort': WHATEVER THE INPUT: true; the input reads as it did. -/
def iphcShortSpec : ChangeSpec := { name := "iphcShort", fn := fun _ => fun
  | [d1, d2] => { results := [.lit (.bool true)], args := [d1, d2] }
  | _ => none }
def iphcShortRow : OpenClaim := { program := "ytjknkfjhcapocaa", sum := "a453fcfdfb36e1d002851236b34060d4cd55566c8c8abdfc4d26e3b76211129d", func := "multihop/multihoplaw14.IphcShort", spec := "iphcShort", unfollowed := true, recurses := true, apart := false }
def IphcShortSaid : Prop := iphcShortRow.holds Try.pinned (OpenSpec.ofChange iphcShortSpec)

/-- ITS FALSE NEIGHBOUR: 'it returns false'. Refute it at one input. -/
def iphcShortWrong : ChangeSpec := { name := "iphcShort", fn := fun _ => fun
  | [d1, d2] => { results := [.lit (.bool false)], args := [d1, d2] }
  | _ => none }
def IphcShortWrongFalsely : Prop := iphcShortRow.holds Try.pinned (OpenSpec.ofChange iphcShortWrong)

/-- 'multihoplaw14.IphcElides': WHATEVER THE INPUT: true; the input reads as it did. -/
def iphcElidesSpec : ChangeSpec := { name := "iphcElides", fn := fun _ => fun
  | [d1, d2] => { results := [.lit (.bool true)], args := [d1, d2] }
  | _ => none }
def iphcElidesRow : OpenClaim := { program := "ytjknkfjhcapocaa", sum := "a453fcfdfb36e1d002851236b34060d4cd55566c8c8abdfc4d26e3b76211129d", func := "multihop/multihoplaw14.IphcElides", spec := "iphcElides", unfollowed := true, recurses := true, apart := false }
def IphcElidesSaid : Prop := iphcElidesRow.holds Try.pinned (OpenSpec.ofChange iphcElidesSpec)

/-- ITS FALSE NEIGHBOUR: 'it returns false'. Refute it at one input. -/
def iphcElidesWrong : ChangeSpec := { name := "iphcElides", fn := fun _ => fun
  | [d1, d2] => { results := [.lit (.bool false)], args := [d1, d2] }
  | _ => none }
def IphcElidesWrongFalsely : Prop := iphcElidesRow.holds Try.pinned (OpenSpec.ofChange iphcElidesWrong)

/-- 'multihoplaw36.MobilityTunnels': WHATEVER THE INPUT: true; the input reads as it did. -/
def mobilityTunnelsSpec : ChangeSpec := { name := "mobilityTunnels", fn := fun _ => fun
  | [d1, d2, d3, d4] => { results := [.lit (.bool true)], args := [d1, d2, d3, d4] }
  | _ => none }
def mobilityTunnelsRow : OpenClaim := { program := "ytjknkfjhcapocaa", sum := "a453fcfdfb36e1d002851236b34060d4cd55566c8c8abdfc4d26e3b76211129d", func := "multihop/multihoplaw36.MobilityTunnels", spec := "mobilityTunnels", inPlace := ["internal/bytealg.Compare"], unfollowed := true, recurses := true, apart := false }
def MobilityTunnelsSaid : Prop := mobilityTunnelsRow.holds Try.pinned (OpenSpec.ofChange mobilityTunnelsSpec)

/-- ITS FALSE NEIGHBOUR: 'it returns false'. Refute it at one input. -/
def mobilityTunnelsWrong : ChangeSpec := { name := "mobilityTunnels", fn := fun _ => fun
  | [d1, d2, d3, d4] => { results := [.lit (.bool false)], args := [d1, d2, d3, d4] }
  | _ => none }
def MobilityTunnelsWrongFalsely : Prop := mobilityTunnelsRow.holds Try.pinned (OpenSpec.ofChange mobilityTunnelsWrong)

/-- 'multihoplaw14.IphcDecodes': WHATEVER THE INPUT: true; the input reads as it did. -/
def iphcDecodesSpec : ChangeSpec := { name := "iphcDecodes", fn := fun _ => fun
  | [d1, d2, d3, d4, d5, d6, d7, d8, d9] => { results := [.lit (.bool true)], args := [d1, d2, d3, d4, d5, d6, d7, d8, d9] }
  | _ => none }
def iphcDecodesRow : OpenClaim := { program := "ytjknkfjhcapocaa", sum := "a453fcfdfb36e1d002851236b34060d4cd55566c8c8abdfc4d26e3b76211129d", func := "multihop/multihoplaw14.IphcDecodes", spec := "iphcDecodes", unfollowed := true, recurses := true, apart := false }
def IphcDecodesSaid : Prop := iphcDecodesRow.holds Try.pinned (OpenSpec.ofChange iphcDecodesSpec)

/-- ITS FALSE NEIGHBOUR: 'it returns false'. Refute it at one input. -/
def iphcDecodesWrong : ChangeSpec := { name := "iphcDecodes", fn := fun _ => fun
  | [d1, d2, d3, d4, d5, d6, d7, d8, d9] => { results := [.lit (.bool false)], args := [d1, d2, d3, d4, d5, d6, d7, d8, d9] }
  | _ => none }
def IphcDecodesWrongFalsely : Prop := iphcDecodesRow.holds Try.pinned (OpenSpec.ofChange iphcDecodesWrong)

/-- 'multihoplaw14.IphcBack': WHATEVER THE INPUT: true; the input reads as it did. -/
def iphcBackSpec : ChangeSpec := { name := "iphcBack", fn := fun _ => fun
  | [d1, d2, d3] => { results := [.lit (.bool true)], args := [d1, d2, d3] }
  | _ => none }
def iphcBackRow : OpenClaim := { program := "ytjknkfjhcapocaa", sum := "a453fcfdfb36e1d002851236b34060d4cd55566c8c8abdfc4d26e3b76211129d", func := "multihop/multihoplaw14.IphcBack", spec := "iphcBack", unfollowed := true, recurses := true, apart := false }
def IphcBackSaid : Prop := iphcBackRow.holds Try.pinned (OpenSpec.ofChange iphcBackSpec)

/-- ITS FALSE NEIGHBOUR: 'it returns false'. Refute it at one input. -/
def iphcBackWrong : ChangeSpec := { name := "iphcBack", fn := fun _ => fun
  | [d1, d2, d3] => { results := [.lit (.bool false)], args := [d1, d2, d3] }
  | _ => none }
def IphcBackWrongFalsely : Prop := iphcBackRow.holds Try.pinned (OpenSpec.ofChange iphcBackWrong)

/-- 'multihoplaw14.IphcGroups': WHATEVER THE INPUT: true; the input reads as it did. -/
def iphcGroupsSpec : ChangeSpec := { name := "iphcGroups", fn := fun _ => fun
  | [d1, d2] => { results := [.lit (.bool true)], args := [d1, d2] }
  | _ => none }
def iphcGroupsRow : OpenClaim := { program := "ytjknkfjhcapocaa", sum := "a453fcfdfb36e1d002851236b34060d4cd55566c8c8abdfc4d26e3b76211129d", func := "multihop/multihoplaw14.IphcGroups", spec := "iphcGroups", unfollowed := true, recurses := true, apart := false }
def IphcGroupsSaid : Prop := iphcGroupsRow.holds Try.pinned (OpenSpec.ofChange iphcGroupsSpec)

/-- ITS FALSE NEIGHBOUR: 'it returns false'. Refute it at one input. -/
def iphcGroupsWrong : ChangeSpec := { name := "iphcGroups", fn := fun _ => fun
  | [d1, d2] => { results := [.lit (.bool false)], args := [d1, d2] }
  | _ => none }
def IphcGroupsWrongFalsely : Prop := iphcGroupsRow.holds Try.pinned (OpenSpec.ofChange iphcGroupsWrong)

/- THE SECOND FORM. 'bulk': how many values and letters a reading holds, each counted each time it is reached (what is shared counts as often as it is met; a slice's spare places count too). A statement '..UptoSaid' is the law's where the arguments, and the package variables that the reading takes, are together of bulk at most 1048576: NARROWER than '..Said'. Prove '..Said' where nothing that the law and all that it calls make is longer than what came in: it says more and counts as full. Else prove '..UptoSaid'. A law counts once. -/
mutual
def uptoBulk {H : Type} : DataW H → Nat
  | .lit (.string bytes) => bytes.length + 1
  | .lit _ => 1
  | .nil => 1
  | .ptr d => uptoBulk d + 1
  | .slice elems spare => uptoBulkAll elems + uptoBulkAll spare + 1
  | .agg parts => uptoBulkAll parts + 1
  | .iface _ d => uptoBulk d + 1
  | .map entries => uptoBulkEntries entries + 1
  | .held _ => 1
def uptoBulkAll {H : Type} : List (DataW H) → Nat
  | [] => 0
  | d :: r => uptoBulk d + uptoBulkAll r
def uptoBulkEntries {H : Type} : List (Lit × DataW H) → Nat
  | [] => 0
  | x :: r => uptoBulkEntry x + uptoBulkEntries r
def uptoBulkEntry {H : Type} : Lit × DataW H → Nat
  | (.string bytes, d) => bytes.length + uptoBulk d + 1
  | (_, d) => uptoBulk d + 1
 end
def uptoSmall : (H : Type) → List (DataW H) → Bool := fun _ ds => decide (uptoBulkAll ds ≤ 1048576)
def OpenSpec.upto (s : _root_.Go.ChangeSpec) : _root_.Go.OpenSpec := { _root_.Go.OpenSpec.ofChange s with cond := some uptoSmall }

/-- 'multihoplaw13.PacketForms', WHERE WHAT IT READS IS OF BULK AT MOST 1048576: true; the input reads as it did. -/
def packetFormsUptoRow : OpenClaim := { program := "ytjknkfjhcapocaa", sum := "a453fcfdfb36e1d002851236b34060d4cd55566c8c8abdfc4d26e3b76211129d", func := "multihop/multihoplaw13.PacketForms", spec := "packetForms", unfollowed := true, recurses := true, apart := false, narrowed := true }
def PacketFormsUptoSaid : Prop := packetFormsUptoRow.holds Try.pinned (OpenSpec.upto packetFormsSpec)

/-- 'multihoplaw13.PacketReads', WHERE WHAT IT READS IS OF BULK AT MOST 1048576: true; the input reads as it did. -/
def packetReadsUptoRow : OpenClaim := { program := "ytjknkfjhcapocaa", sum := "a453fcfdfb36e1d002851236b34060d4cd55566c8c8abdfc4d26e3b76211129d", func := "multihop/multihoplaw13.PacketReads", spec := "packetReads", unfollowed := true, recurses := true, apart := false, narrowed := true }
def PacketReadsUptoSaid : Prop := packetReadsUptoRow.holds Try.pinned (OpenSpec.upto packetReadsSpec)

/-- 'multihoplaw13.PacketBack', WHERE WHAT IT READS IS OF BULK AT MOST 1048576: true; the input reads as it did. -/
def packetBackUptoRow : OpenClaim := { program := "ytjknkfjhcapocaa", sum := "a453fcfdfb36e1d002851236b34060d4cd55566c8c8abdfc4d26e3b76211129d", func := "multihop/multihoplaw13.PacketBack", spec := "packetBack", unfollowed := true, recurses := true, apart := false, narrowed := true }
def PacketBackUptoSaid : Prop := packetBackUptoRow.holds Try.pinned (OpenSpec.upto packetBackSpec)

/-- 'multihoplaw13.PacketCanonical', WHERE WHAT IT READS IS OF BULK AT MOST 1048576: true; the input reads as it did. -/
def packetCanonicalUptoRow : OpenClaim := { program := "ytjknkfjhcapocaa", sum := "a453fcfdfb36e1d002851236b34060d4cd55566c8c8abdfc4d26e3b76211129d", func := "multihop/multihoplaw13.PacketCanonical", spec := "packetCanonical", unfollowed := true, recurses := true, apart := false, narrowed := true }
def PacketCanonicalUptoSaid : Prop := packetCanonicalUptoRow.holds Try.pinned (OpenSpec.upto packetCanonicalSpec)

/-- 'multihoplaw13.PacketForwards', WHERE WHAT IT READS IS OF BULK AT MOST 1048576: true; the input reads as it did. -/
def packetForwardsUptoRow : OpenClaim := { program := "ytjknkfjhcapocaa", sum := "a453fcfdfb36e1d002851236b34060d4cd55566c8c8abdfc4d26e3b76211129d", func := "multihop/multihoplaw13.PacketForwards", spec := "packetForwards", unfollowed := true, recurses := true, apart := false, narrowed := true }
def PacketForwardsUptoSaid : Prop := packetForwardsUptoRow.holds Try.pinned (OpenSpec.upto packetForwardsSpec)

/-- 'multihoplaw13.PacketNotices', WHERE WHAT IT READS IS OF BULK AT MOST 1048576: true; the input reads as it did. -/
def packetNoticesUptoRow : OpenClaim := { program := "ytjknkfjhcapocaa", sum := "a453fcfdfb36e1d002851236b34060d4cd55566c8c8abdfc4d26e3b76211129d", func := "multihop/multihoplaw13.PacketNotices", spec := "packetNotices", unfollowed := true, recurses := true, apart := false, narrowed := true }
def PacketNoticesUptoSaid : Prop := packetNoticesUptoRow.holds Try.pinned (OpenSpec.upto packetNoticesSpec)

/-- 'multihoplaw13.PacketSums', WHERE WHAT IT READS IS OF BULK AT MOST 1048576: true; the input reads as it did. -/
def packetSumsUptoRow : OpenClaim := { program := "ytjknkfjhcapocaa", sum := "a453fcfdfb36e1d002851236b34060d4cd55566c8c8abdfc4d26e3b76211129d", func := "multihop/multihoplaw13.PacketSums", spec := "packetSums", unfollowed := true, recurses := true, apart := false, narrowed := true }
def PacketSumsUptoSaid : Prop := packetSumsUptoRow.holds Try.pinned (OpenSpec.upto packetSumsSpec)

/-- 'multihoplaw14.IphcEncodes', WHERE WHAT IT READS IS OF BULK AT MOST 1048576: true; the input reads as it did. -/
def iphcEncodesUptoRow : OpenClaim := { program := "ytjknkfjhcapocaa", sum := "a453fcfdfb36e1d002851236b34060d4cd55566c8c8abdfc4d26e3b76211129d", func := "multihop/multihoplaw14.IphcEncodes", spec := "iphcEncodes", unfollowed := true, recurses := true, apart := false, narrowed := true }
def IphcEncodesUptoSaid : Prop := iphcEncodesUptoRow.holds Try.pinned (OpenSpec.upto iphcEncodesSpec)

/-- 'multihoplaw14.IphcShort', WHERE WHAT IT READS IS OF BULK AT MOST 1048576: true; the input reads as it did. -/
def iphcShortUptoRow : OpenClaim := { program := "ytjknkfjhcapocaa", sum := "a453fcfdfb36e1d002851236b34060d4cd55566c8c8abdfc4d26e3b76211129d", func := "multihop/multihoplaw14.IphcShort", spec := "iphcShort", unfollowed := true, recurses := true, apart := false, narrowed := true }
def IphcShortUptoSaid : Prop := iphcShortUptoRow.holds Try.pinned (OpenSpec.upto iphcShortSpec)

/-- 'multihoplaw14.IphcElides', WHERE WHAT IT READS IS OF BULK AT MOST 1048576: true; the input reads as it did. -/
def iphcElidesUptoRow : OpenClaim := { program := "ytjknkfjhcapocaa", sum := "a453fcfdfb36e1d002851236b34060d4cd55566c8c8abdfc4d26e3b76211129d", func := "multihop/multihoplaw14.IphcElides", spec := "iphcElides", unfollowed := true, recurses := true, apart := false, narrowed := true }
def IphcElidesUptoSaid : Prop := iphcElidesUptoRow.holds Try.pinned (OpenSpec.upto iphcElidesSpec)

/-- 'multihoplaw36.MobilityTunnels', WHERE WHAT IT READS IS OF BULK AT MOST 1048576: true; the input reads as it did. -/
def mobilityTunnelsUptoRow : OpenClaim := { program := "ytjknkfjhcapocaa", sum := "a453fcfdfb36e1d002851236b34060d4cd55566c8c8abdfc4d26e3b76211129d", func := "multihop/multihoplaw36.MobilityTunnels", spec := "mobilityTunnels", inPlace := ["internal/bytealg.Compare"], unfollowed := true, recurses := true, apart := false, narrowed := true }
def MobilityTunnelsUptoSaid : Prop := mobilityTunnelsUptoRow.holds Try.pinned (OpenSpec.upto mobilityTunnelsSpec)

/-- 'multihoplaw14.IphcDecodes', WHERE WHAT IT READS IS OF BULK AT MOST 1048576: true; the input reads as it did. -/
def iphcDecodesUptoRow : OpenClaim := { program := "ytjknkfjhcapocaa", sum := "a453fcfdfb36e1d002851236b34060d4cd55566c8c8abdfc4d26e3b76211129d", func := "multihop/multihoplaw14.IphcDecodes", spec := "iphcDecodes", unfollowed := true, recurses := true, apart := false, narrowed := true }
def IphcDecodesUptoSaid : Prop := iphcDecodesUptoRow.holds Try.pinned (OpenSpec.upto iphcDecodesSpec)

/-- 'multihoplaw14.IphcBack', WHERE WHAT IT READS IS OF BULK AT MOST 1048576: true; the input reads as it did. -/
def iphcBackUptoRow : OpenClaim := { program := "ytjknkfjhcapocaa", sum := "a453fcfdfb36e1d002851236b34060d4cd55566c8c8abdfc4d26e3b76211129d", func := "multihop/multihoplaw14.IphcBack", spec := "iphcBack", unfollowed := true, recurses := true, apart := false, narrowed := true }
def IphcBackUptoSaid : Prop := iphcBackUptoRow.holds Try.pinned (OpenSpec.upto iphcBackSpec)

/-- 'multihoplaw14.IphcGroups', WHERE WHAT IT READS IS OF BULK AT MOST 1048576: true; the input reads as it did. -/
def iphcGroupsUptoRow : OpenClaim := { program := "ytjknkfjhcapocaa", sum := "a453fcfdfb36e1d002851236b34060d4cd55566c8c8abdfc4d26e3b76211129d", func := "multihop/multihoplaw14.IphcGroups", spec := "iphcGroups", unfollowed := true, recurses := true, apart := false, narrowed := true }
def IphcGroupsUptoSaid : Prop := iphcGroupsUptoRow.holds Try.pinned (OpenSpec.upto iphcGroupsSpec)

end Rows
end Go.Proofs.Ytjknkfjhcapocaa
