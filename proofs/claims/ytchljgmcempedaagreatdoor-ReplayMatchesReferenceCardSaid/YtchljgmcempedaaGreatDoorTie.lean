/-
  DERIVED. GIVEN WITH THE SEED: THE PROGRAM's TIES (one call each: nine closed facts by the kernel) AND EACH ROW's TIE, after the 31st guide's Derived/Test/Toyas{Tie, Card}.lean. No idea stands in it: it is a product of the set-up. Laid BY PROGRAM, IN A SANDBOX (cutbox-door.mjs). By AI agents, Wed Nov 11 2026. No macro, syntax, notation, axiom, sorry.
-/
import Derived.Test.YtchljgmcempedaaGreatDoorRows
import Derived.LaidByTextLater
import Derived.SevenTiedAt
import Derived.LaidSub
import Derived.LaidOnce
namespace Go.Proofs.YtchljgmcempedaaGreatDoor
open Go
set_option maxRecDepth 100000
theorem seatTie1 : Tryz.prog.laidByTextLater [("gaoler/isa.forms", Rows.laid_gaoler_isa_forms), ("gaoler/isa.parts", Rows.laid_gaoler_isa_parts), ("gaoler/fetch.none", Rows.laid_gaoler_fetch_none)] [.data, .data, .data] true :=
  Program.laidByTextLater_by_one 31 8 41 (by kernel_rfl) (by kernel_rfl) (by kernel_rfl) (by kernel_rfl) (by kernel_rfl) (by kernel_rfl) (fun _ _ => by kernel_rfl)
theorem noOwnUnsafe : Tryz.pinned.checked.prog.headLifts.contains "ownunsafe" = false := by kernel_rfl
theorem tie : Tryz.prog.laidByTextLater [("gaoler/isa.forms", Rows.laid_gaoler_isa_forms), ("gaoler/isa.parts", Rows.laid_gaoler_isa_parts), ("gaoler/fetch.none", Rows.laid_gaoler_fetch_none)] [.data, .data, .data] true :=
  Program.laidByTextLater.sub seatTie1 ["gaoler/isa.forms", "gaoler/isa.parts", "gaoler/fetch.none"] (by kernel_rfl) (by kernel_rfl)
theorem runMatchesReference_row_tie : Rows.runMatchesReferenceRow.laidByTextAt .later Tryz.pinned [.data, .data, .data] true :=
  OpenClaim.laidByTextAt_later rfl rfl tie noOwnUnsafe
theorem replayMatchesReference_row_tie : Rows.replayMatchesReferenceRow.laidByTextAt .later Tryz.pinned [.data, .data, .data] true :=
  OpenClaim.laidByTextAt_later rfl rfl tie noOwnUnsafe
theorem replayPrefixes_row_tie : Rows.replayPrefixesRow.laidByTextAt .later Tryz.pinned [.data, .data, .data] true :=
  OpenClaim.laidByTextAt_later rfl rfl tie noOwnUnsafe
theorem replayWithoutEvents_row_tie : Rows.replayWithoutEventsRow.laidByTextAt .later Tryz.pinned [.data, .data, .data] true :=
  OpenClaim.laidByTextAt_later rfl rfl tie noOwnUnsafe
theorem runMatchesReferenceUpto_row_tie : Rows.runMatchesReferenceUptoRow.laidByTextAt .later Tryz.pinned [.data, .data, .data] true :=
  OpenClaim.laidByTextAt_later rfl rfl tie noOwnUnsafe
theorem replayMatchesReferenceUpto_row_tie : Rows.replayMatchesReferenceUptoRow.laidByTextAt .later Tryz.pinned [.data, .data, .data] true :=
  OpenClaim.laidByTextAt_later rfl rfl tie noOwnUnsafe
theorem replayPrefixesUpto_row_tie : Rows.replayPrefixesUptoRow.laidByTextAt .later Tryz.pinned [.data, .data, .data] true :=
  OpenClaim.laidByTextAt_later rfl rfl tie noOwnUnsafe
theorem replayWithoutEventsUpto_row_tie : Rows.replayWithoutEventsUptoRow.laidByTextAt .later Tryz.pinned [.data, .data, .data] true :=
  OpenClaim.laidByTextAt_later rfl rfl tie noOwnUnsafe
end Go.Proofs.YtchljgmcempedaaGreatDoor
