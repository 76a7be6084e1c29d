/-
  DERIVED. GIVEN WITH THE SEED: THE CARDS: each row of YtchljgmcempedaaDoorRows.lean that lists a variable, with what it lists TIED to the program's text (the seventh form; the later family's looks); each row that meets fmt, with fmt's text TOLD by the authors' own Lean function (tested against real Go, not proved from fmt's source: count such statements apart). THE CARD IS WHAT COUNTS. Prove the row's statement (the work); the ties are given (YtchljgmcempedaaDoorTie.lean); close each card by the builder's one call (the guide's Derived/Test/ToyasCard.lean, 'card_holds'). Laid BY PROGRAM, IN A SANDBOX (cutbox-door.mjs). By AI agents, Wed Nov 11 2026. No macro, syntax, notation, axiom, sorry.
-/
import Derived.Test.YtchljgmcempedaaDoorRows
import GoSem.ClaimSeven
namespace Go.Proofs.YtchljgmcempedaaDoor
namespace Rows

/-- THE TIED CARD OF 'gaolerlaw14.RunsCompose'. -/
def runsComposeCard : Claim7 := { stood := { row := runsComposeRow, standIns := [], harness := (true, "4c5dce05509458715e519ca7234288d00a10bc0f34b7bda5112f41f6045ec54a"), looks := true }, kinds := [], alts := [], laidByText := true, laidKinds := [.data, .data, .data], laidTests := true, laidLooks := .later }
def RunsComposeCardSaid : Prop := Claim7.holds Tryd.pinned (.plain (OpenSpec.ofChange runsComposeSpec)) runsComposeCard

/-- THE TIED CARD OF 'gaolerlaw14.RunUntilStopsFirst'. -/
def runUntilStopsFirstCard : Claim7 := { stood := { row := runUntilStopsFirstRow, standIns := [], harness := (true, "4c5dce05509458715e519ca7234288d00a10bc0f34b7bda5112f41f6045ec54a"), looks := true }, kinds := [], alts := [], laidByText := true, laidKinds := [.data, .data, .data], laidTests := true, laidLooks := .later }
def RunUntilStopsFirstCardSaid : Prop := Claim7.holds Tryd.pinned (.plain (OpenSpec.ofChange runUntilStopsFirstSpec)) runUntilStopsFirstCard

/-- THE TIED CARD OF 'gaolerlaw14.RunTrapsAreCounted'. -/
def runTrapsAreCountedCard : Claim7 := { stood := { row := runTrapsAreCountedRow, standIns := [], harness := (true, "4c5dce05509458715e519ca7234288d00a10bc0f34b7bda5112f41f6045ec54a"), looks := true }, kinds := [], alts := [], laidByText := true, laidKinds := [.data, .data, .data], laidTests := true, laidLooks := .later }
def RunTrapsAreCountedCardSaid : Prop := Claim7.holds Tryd.pinned (.plain (OpenSpec.ofChange runTrapsAreCountedSpec)) runTrapsAreCountedCard

/-- THE TIED CARD OF 'gaolerlaw14.RunsDoNotModify'. -/
def runsDoNotModifyCard : Claim7 := { stood := { row := runsDoNotModifyRow, standIns := [], harness := (true, "4c5dce05509458715e519ca7234288d00a10bc0f34b7bda5112f41f6045ec54a"), looks := true }, kinds := [], alts := [], laidByText := true, laidKinds := [.data, .data, .data], laidTests := true, laidLooks := .later }
def RunsDoNotModifyCardSaid : Prop := Claim7.holds Tryd.pinned (.plain (OpenSpec.ofChange runsDoNotModifySpec)) runsDoNotModifyCard

/-- THE TIED CARD OF 'gaolerlaw26.ReplayOrderedLogs'. -/
def replayOrderedLogsCard : Claim7 := { stood := { row := replayOrderedLogsRow, standIns := [], harness := (true, "4c5dce05509458715e519ca7234288d00a10bc0f34b7bda5112f41f6045ec54a"), looks := true }, kinds := [], alts := [], laidByText := true, laidKinds := [.data, .data, .data], laidTests := true, laidLooks := .later }
def ReplayOrderedLogsCardSaid : Prop := Claim7.holds Tryd.pinned (.plain (OpenSpec.ofChange replayOrderedLogsSpec)) replayOrderedLogsCard

/-- THE SECOND FORM's CARD OF 'gaolerlaw14.RunsCompose'. -/
def runsComposeUptoCard : Claim7 := { stood := { row := runsComposeUptoRow, standIns := [], harness := (true, "4c5dce05509458715e519ca7234288d00a10bc0f34b7bda5112f41f6045ec54a"), looks := true }, kinds := [], alts := [], laidByText := true, laidKinds := [.data, .data, .data], laidTests := true, laidLooks := .later }
def RunsComposeUptoCardSaid : Prop := Claim7.holds Tryd.pinned (.plain (OpenSpec.upto runsComposeSpec)) runsComposeUptoCard

/-- THE SECOND FORM's CARD OF 'gaolerlaw14.RunUntilStopsFirst'. -/
def runUntilStopsFirstUptoCard : Claim7 := { stood := { row := runUntilStopsFirstUptoRow, standIns := [], harness := (true, "4c5dce05509458715e519ca7234288d00a10bc0f34b7bda5112f41f6045ec54a"), looks := true }, kinds := [], alts := [], laidByText := true, laidKinds := [.data, .data, .data], laidTests := true, laidLooks := .later }
def RunUntilStopsFirstUptoCardSaid : Prop := Claim7.holds Tryd.pinned (.plain (OpenSpec.upto runUntilStopsFirstSpec)) runUntilStopsFirstUptoCard

/-- THE SECOND FORM's CARD OF 'gaolerlaw14.RunTrapsAreCounted'. -/
def runTrapsAreCountedUptoCard : Claim7 := { stood := { row := runTrapsAreCountedUptoRow, standIns := [], harness := (true, "4c5dce05509458715e519ca7234288d00a10bc0f34b7bda5112f41f6045ec54a"), looks := true }, kinds := [], alts := [], laidByText := true, laidKinds := [.data, .data, .data], laidTests := true, laidLooks := .later }
def RunTrapsAreCountedUptoCardSaid : Prop := Claim7.holds Tryd.pinned (.plain (OpenSpec.upto runTrapsAreCountedSpec)) runTrapsAreCountedUptoCard

/-- THE SECOND FORM's CARD OF 'gaolerlaw14.RunsDoNotModify'. -/
def runsDoNotModifyUptoCard : Claim7 := { stood := { row := runsDoNotModifyUptoRow, standIns := [], harness := (true, "4c5dce05509458715e519ca7234288d00a10bc0f34b7bda5112f41f6045ec54a"), looks := true }, kinds := [], alts := [], laidByText := true, laidKinds := [.data, .data, .data], laidTests := true, laidLooks := .later }
def RunsDoNotModifyUptoCardSaid : Prop := Claim7.holds Tryd.pinned (.plain (OpenSpec.upto runsDoNotModifySpec)) runsDoNotModifyUptoCard

/-- THE SECOND FORM's CARD OF 'gaolerlaw26.ReplayOrderedLogs'. -/
def replayOrderedLogsUptoCard : Claim7 := { stood := { row := replayOrderedLogsUptoRow, standIns := [], harness := (true, "4c5dce05509458715e519ca7234288d00a10bc0f34b7bda5112f41f6045ec54a"), looks := true }, kinds := [], alts := [], laidByText := true, laidKinds := [.data, .data, .data], laidTests := true, laidLooks := .later }
def ReplayOrderedLogsUptoCardSaid : Prop := Claim7.holds Tryd.pinned (.plain (OpenSpec.upto replayOrderedLogsSpec)) replayOrderedLogsUptoCard
end Rows
end Go.Proofs.YtchljgmcempedaaDoor
