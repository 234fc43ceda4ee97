/-
  DERIVED. GIVEN WITH THE SEED: THE CARDS: each row of YtjknkfjhcapocaaDoorRows.lean that lists a variable, with what it lists TIED to the program's text (the seventh form; the later family's looks); each row that meets fmt, with fmt's text TOLD by the authors' own Lean function (tested against real Go, not proved from fmt's source: count such statements apart). THE CARD IS WHAT COUNTS. Prove the row's statement (the work); the ties are given (YtjknkfjhcapocaaDoorTie.lean); close each card by the builder's one call (the guide's Derived/Test/ToyasCard.lean, 'card_holds'). Laid BY PROGRAM, IN A SANDBOX (cutbox-door.mjs). By AI agents, Wed Nov 11 2026. No macro, syntax, notation, axiom, sorry.
-/
import Derived.Test.YtjknkfjhcapocaaDoorRows
import GoSem.ClaimSeven
namespace Go.Proofs.YtjknkfjhcapocaaDoor
namespace Rows

/-- THE TIED CARD OF 'multihoplaw15.CompressShorter'. -/
def compressShorterCard : Claim7 := { stood := { row := compressShorterRow, standIns := [], harness := (true, "24a7b2edd38b8b3344418a21726df4ab65628a1da3ff7f20db7f4b3fd3ffaa3e"), looks := false }, kinds := [], alts := [], laidByText := true, laidKinds := [.data, .data], laidTests := true, laidLooks := .later }
def CompressShorterCardSaid : Prop := Claim7.holds Tryd.pinned (.plain (OpenSpec.ofChange compressShorterSpec)) compressShorterCard

/-- THE TIED CARD OF 'multihoplaw15.CompressPorts'. -/
def compressPortsCard : Claim7 := { stood := { row := compressPortsRow, standIns := [], harness := (true, "24a7b2edd38b8b3344418a21726df4ab65628a1da3ff7f20db7f4b3fd3ffaa3e"), looks := false }, kinds := [], alts := [], laidByText := true, laidKinds := [.data, .data], laidTests := true, laidLooks := .later }
def CompressPortsCardSaid : Prop := Claim7.holds Tryd.pinned (.plain (OpenSpec.ofChange compressPortsSpec)) compressPortsCard

/-- THE TIED CARD OF 'multihoplaw15.CompressNotices'. -/
def compressNoticesCard : Claim7 := { stood := { row := compressNoticesRow, standIns := [], harness := (true, "24a7b2edd38b8b3344418a21726df4ab65628a1da3ff7f20db7f4b3fd3ffaa3e"), looks := false }, kinds := [], alts := [], laidByText := true, laidKinds := [.data, .data], laidTests := true, laidLooks := .later }
def CompressNoticesCardSaid : Prop := Claim7.holds Tryd.pinned (.plain (OpenSpec.ofChange compressNoticesSpec)) compressNoticesCard

/-- THE TIED CARD OF 'multihoplaw15.CompressBack'. -/
def compressBackCard : Claim7 := { stood := { row := compressBackRow, standIns := [], harness := (true, "24a7b2edd38b8b3344418a21726df4ab65628a1da3ff7f20db7f4b3fd3ffaa3e"), looks := false }, kinds := [], alts := [], laidByText := true, laidKinds := [.data, .data], laidTests := true, laidLooks := .later }
def CompressBackCardSaid : Prop := Claim7.holds Tryd.pinned (.plain (OpenSpec.ofChange compressBackSpec)) compressBackCard

/-- THE SECOND FORM's CARD OF 'multihoplaw15.CompressShorter'. -/
def compressShorterUptoCard : Claim7 := { stood := { row := compressShorterUptoRow, standIns := [], harness := (true, "24a7b2edd38b8b3344418a21726df4ab65628a1da3ff7f20db7f4b3fd3ffaa3e"), looks := false }, kinds := [], alts := [], laidByText := true, laidKinds := [.data, .data], laidTests := true, laidLooks := .later }
def CompressShorterUptoCardSaid : Prop := Claim7.holds Tryd.pinned (.plain (OpenSpec.upto compressShorterSpec)) compressShorterUptoCard

/-- THE SECOND FORM's CARD OF 'multihoplaw15.CompressPorts'. -/
def compressPortsUptoCard : Claim7 := { stood := { row := compressPortsUptoRow, standIns := [], harness := (true, "24a7b2edd38b8b3344418a21726df4ab65628a1da3ff7f20db7f4b3fd3ffaa3e"), looks := false }, kinds := [], alts := [], laidByText := true, laidKinds := [.data, .data], laidTests := true, laidLooks := .later }
def CompressPortsUptoCardSaid : Prop := Claim7.holds Tryd.pinned (.plain (OpenSpec.upto compressPortsSpec)) compressPortsUptoCard

/-- THE SECOND FORM's CARD OF 'multihoplaw15.CompressNotices'. -/
def compressNoticesUptoCard : Claim7 := { stood := { row := compressNoticesUptoRow, standIns := [], harness := (true, "24a7b2edd38b8b3344418a21726df4ab65628a1da3ff7f20db7f4b3fd3ffaa3e"), looks := false }, kinds := [], alts := [], laidByText := true, laidKinds := [.data, .data], laidTests := true, laidLooks := .later }
def CompressNoticesUptoCardSaid : Prop := Claim7.holds Tryd.pinned (.plain (OpenSpec.upto compressNoticesSpec)) compressNoticesUptoCard

/-- THE SECOND FORM's CARD OF 'multihoplaw15.CompressBack'. -/
def compressBackUptoCard : Claim7 := { stood := { row := compressBackUptoRow, standIns := [], harness := (true, "24a7b2edd38b8b3344418a21726df4ab65628a1da3ff7f20db7f4b3fd3ffaa3e"), looks := false }, kinds := [], alts := [], laidByText := true, laidKinds := [.data, .data], laidTests := true, laidLooks := .later }
def CompressBackUptoCardSaid : Prop := Claim7.holds Tryd.pinned (.plain (OpenSpec.upto compressBackSpec)) compressBackUptoCard
end Rows
end Go.Proofs.YtjknkfjhcapocaaDoor
