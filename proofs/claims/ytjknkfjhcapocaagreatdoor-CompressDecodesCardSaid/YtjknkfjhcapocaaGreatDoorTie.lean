/-
  DERIVED. GIVEN WITH THE SEED: THE PROGRAM's TIES (one call each: nine closed facts by the kernel) AND EACH ROW's TIE, after the 31st guide's Derived/Test/Toyas{Tie, Card}.lean. No idea stands in it: it is a product of the set-up. Laid BY PROGRAM, IN A SANDBOX (cutbox-door.mjs). By AI agents, Wed Nov 11 2026. No macro, syntax, notation, axiom, sorry.
-/
import Derived.Test.YtjknkfjhcapocaaGreatDoorRows
import Derived.LaidByTextLater
import Derived.SevenTiedAt
import Derived.LaidSub
import Derived.LaidOnce
namespace Go.Proofs.YtjknkfjhcapocaaGreatDoor
open Go
set_option maxRecDepth 100000
theorem seatTie1 : Tryz.prog.laidByTextLater [("multihop/multihopref15.lengths", Rows.laid_multihop_multihopref15_lengths), ("multihop/multihoplaw15.one", Rows.laid_multihop_multihoplaw15_one), ("multihop/multihoplaw15.two", Rows.laid_multihop_multihoplaw15_two)] [.data, .data, .data] true :=
  Program.laidByTextLater_by_one 24 8 5 (by kernel_rfl) (by kernel_rfl) (by kernel_rfl) (by kernel_rfl) (by kernel_rfl) (by kernel_rfl) (fun _ _ => by kernel_rfl)
theorem noOwnUnsafe : Tryz.pinned.checked.prog.headLifts.contains "ownunsafe" = false := by kernel_rfl
theorem tie : Tryz.prog.laidByTextLater [("multihop/multihoplaw15.one", Rows.laid_multihop_multihoplaw15_one), ("multihop/multihoplaw15.two", Rows.laid_multihop_multihoplaw15_two)] [.data, .data] true :=
  Program.laidByTextLater.sub seatTie1 ["multihop/multihoplaw15.one", "multihop/multihoplaw15.two"] (by kernel_rfl) (by kernel_rfl)
theorem compressEncodes_row_tie : Rows.compressEncodesRow.laidByTextAt .later Tryz.pinned [.data, .data] true :=
  OpenClaim.laidByTextAt_later rfl rfl tie noOwnUnsafe
theorem tie2 : Tryz.prog.laidByTextLater [("multihop/multihopref15.lengths", Rows.laid_multihop_multihopref15_lengths), ("multihop/multihoplaw15.one", Rows.laid_multihop_multihoplaw15_one), ("multihop/multihoplaw15.two", Rows.laid_multihop_multihoplaw15_two)] [.data, .data, .data] true :=
  Program.laidByTextLater.sub seatTie1 ["multihop/multihopref15.lengths", "multihop/multihoplaw15.one", "multihop/multihoplaw15.two"] (by kernel_rfl) (by kernel_rfl)
theorem compressDecodes_row_tie : Rows.compressDecodesRow.laidByTextAt .later Tryz.pinned [.data, .data, .data] true :=
  OpenClaim.laidByTextAt_later rfl rfl tie2 noOwnUnsafe
theorem compressEncodesUpto_row_tie : Rows.compressEncodesUptoRow.laidByTextAt .later Tryz.pinned [.data, .data] true :=
  OpenClaim.laidByTextAt_later rfl rfl tie noOwnUnsafe
theorem compressDecodesUpto_row_tie : Rows.compressDecodesUptoRow.laidByTextAt .later Tryz.pinned [.data, .data, .data] true :=
  OpenClaim.laidByTextAt_later rfl rfl tie2 noOwnUnsafe
end Go.Proofs.YtjknkfjhcapocaaGreatDoor
