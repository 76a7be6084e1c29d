/-
  DERIVED. GIVEN WITH THE SEED: THE PROGRAM's TIES (one call each: nine closed facts by the kernel) AND EACH ROW's TIE, after the 31st guide's Derived/Test/Toyas{Tie, Card}.lean. No idea stands in it: it is a product of the set-up. Laid BY PROGRAM, IN A SANDBOX (cutbox-door.mjs). By AI agents, Wed Nov 11 2026. No macro, syntax, notation, axiom, sorry.
-/
import Derived.Test.YtchljgmcempedaaDoorRows
import Derived.LaidByTextLater
import Derived.SevenTiedAt
import Derived.LaidSub
import Derived.LaidOnce
namespace Go.Proofs.YtchljgmcempedaaDoor
open Go
set_option maxRecDepth 100000
theorem seatTie1 : Tryd.prog.laidByTextLater [("gaoler/isa.forms", Rows.laid_gaoler_isa_forms), ("gaoler/isa.parts", Rows.laid_gaoler_isa_parts), ("gaoler/fetch.none", Rows.laid_gaoler_fetch_none)] [.data, .data, .data] true :=
  Program.laidByTextLater_by_one 31 8 41 (by kernel_rfl) (by kernel_rfl) (by kernel_rfl) (by kernel_rfl) (by kernel_rfl) (by kernel_rfl) (fun _ _ => by kernel_rfl)
theorem noOwnUnsafe : Tryd.pinned.checked.prog.headLifts.contains "ownunsafe" = false := by kernel_rfl
theorem tie : Tryd.prog.laidByTextLater [("gaoler/isa.forms", Rows.laid_gaoler_isa_forms), ("gaoler/isa.parts", Rows.laid_gaoler_isa_parts), ("gaoler/fetch.none", Rows.laid_gaoler_fetch_none)] [.data, .data, .data] true :=
  Program.laidByTextLater.sub seatTie1 ["gaoler/isa.forms", "gaoler/isa.parts", "gaoler/fetch.none"] (by kernel_rfl) (by kernel_rfl)
theorem runsCompose_row_tie : Rows.runsComposeRow.laidByTextAt .later Tryd.pinned [.data, .data, .data] true :=
  OpenClaim.laidByTextAt_later rfl rfl tie noOwnUnsafe
theorem runUntilStopsFirst_row_tie : Rows.runUntilStopsFirstRow.laidByTextAt .later Tryd.pinned [.data, .data, .data] true :=
  OpenClaim.laidByTextAt_later rfl rfl tie noOwnUnsafe
theorem runTrapsAreCounted_row_tie : Rows.runTrapsAreCountedRow.laidByTextAt .later Tryd.pinned [.data, .data, .data] true :=
  OpenClaim.laidByTextAt_later rfl rfl tie noOwnUnsafe
theorem runsDoNotModify_row_tie : Rows.runsDoNotModifyRow.laidByTextAt .later Tryd.pinned [.data, .data, .data] true :=
  OpenClaim.laidByTextAt_later rfl rfl tie noOwnUnsafe
theorem replayOrderedLogs_row_tie : Rows.replayOrderedLogsRow.laidByTextAt .later Tryd.pinned [.data, .data, .data] true :=
  OpenClaim.laidByTextAt_later rfl rfl tie noOwnUnsafe
theorem runsComposeUpto_row_tie : Rows.runsComposeUptoRow.laidByTextAt .later Tryd.pinned [.data, .data, .data] true :=
  OpenClaim.laidByTextAt_later rfl rfl tie noOwnUnsafe
theorem runUntilStopsFirstUpto_row_tie : Rows.runUntilStopsFirstUptoRow.laidByTextAt .later Tryd.pinned [.data, .data, .data] true :=
  OpenClaim.laidByTextAt_later rfl rfl tie noOwnUnsafe
theorem runTrapsAreCountedUpto_row_tie : Rows.runTrapsAreCountedUptoRow.laidByTextAt .later Tryd.pinned [.data, .data, .data] true :=
  OpenClaim.laidByTextAt_later rfl rfl tie noOwnUnsafe
theorem runsDoNotModifyUpto_row_tie : Rows.runsDoNotModifyUptoRow.laidByTextAt .later Tryd.pinned [.data, .data, .data] true :=
  OpenClaim.laidByTextAt_later rfl rfl tie noOwnUnsafe
theorem replayOrderedLogsUpto_row_tie : Rows.replayOrderedLogsUptoRow.laidByTextAt .later Tryd.pinned [.data, .data, .data] true :=
  OpenClaim.laidByTextAt_later rfl rfl tie noOwnUnsafe
end Go.Proofs.YtchljgmcempedaaDoor
