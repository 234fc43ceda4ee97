/-
  DERIVED. GIVEN WITH THE SEED: THE CARDS: each row of YtjknkfjhcapocaaGreatDoorRows.lean that lists a variable, with what it lists TIED to the program's text (the seventh form; the later family's looks); each row that meets fmt, with fmt's text TOLD by the authors' own Lean function (tested against real Go, not proved from fmt's source: count such statements apart). THE CARD IS WHAT COUNTS. Prove the row's statement (the work); the ties are given (YtjknkfjhcapocaaGreatDoorTie.lean); close each card by the builder's one call (the guide's Derived/Test/ToyasCard.lean, 'card_holds'). Laid BY PROGRAM, IN A SANDBOX (cutbox-door.mjs). By AI agents, Wed Nov 11 2026. No macro, syntax, notation, axiom, sorry.
-/
import Derived.Test.YtjknkfjhcapocaaGreatDoorRows
import GoSem.ClaimSeven
namespace Go.Proofs.YtjknkfjhcapocaaGreatDoor
namespace Rows

/-- THE TIED CARD OF 'multihoplaw15.CompressEncodes'. -/
def compressEncodesCard : Claim7 := { stood := { row := compressEncodesRow, standIns := [], harness := (true, "0163301a37e3610b5be075bba8cf5df0add4451f7f57ec8af14648326cd1fc86"), looks := false }, kinds := [], alts := [], laidByText := true, laidKinds := [.data, .data], laidTests := true, laidLooks := .later }
def CompressEncodesCardSaid : Prop := Claim7.holds Tryz.pinned (.plain (OpenSpec.ofChange compressEncodesSpec)) compressEncodesCard

/-- THE TIED CARD OF 'multihoplaw15.CompressDecodes'. -/
def compressDecodesCard : Claim7 := { stood := { row := compressDecodesRow, standIns := [], harness := (true, "0163301a37e3610b5be075bba8cf5df0add4451f7f57ec8af14648326cd1fc86"), looks := false }, kinds := [], alts := [], laidByText := true, laidKinds := [.data, .data, .data], laidTests := true, laidLooks := .later }
def CompressDecodesCardSaid : Prop := Claim7.holds Tryz.pinned (.plain (OpenSpec.ofChange compressDecodesSpec)) compressDecodesCard

/-- THE SECOND FORM's CARD OF 'multihoplaw15.CompressEncodes'. -/
def compressEncodesUptoCard : Claim7 := { stood := { row := compressEncodesUptoRow, standIns := [], harness := (true, "0163301a37e3610b5be075bba8cf5df0add4451f7f57ec8af14648326cd1fc86"), looks := false }, kinds := [], alts := [], laidByText := true, laidKinds := [.data, .data], laidTests := true, laidLooks := .later }
def CompressEncodesUptoCardSaid : Prop := Claim7.holds Tryz.pinned (.plain (OpenSpec.upto compressEncodesSpec)) compressEncodesUptoCard

/-- THE SECOND FORM's CARD OF 'multihoplaw15.CompressDecodes'. -/
def compressDecodesUptoCard : Claim7 := { stood := { row := compressDecodesUptoRow, standIns := [], harness := (true, "0163301a37e3610b5be075bba8cf5df0add4451f7f57ec8af14648326cd1fc86"), looks := false }, kinds := [], alts := [], laidByText := true, laidKinds := [.data, .data, .data], laidTests := true, laidLooks := .later }
def CompressDecodesUptoCardSaid : Prop := Claim7.holds Tryz.pinned (.plain (OpenSpec.upto compressDecodesSpec)) compressDecodesUptoCard
end Rows
end Go.Proofs.YtjknkfjhcapocaaGreatDoor
