/-
  DERIVED. GIVEN WITH THE SEED: THE CARDS: each row of YtchljgmcempedaaGreatDoorRows.lean that lists a variable, with what it lists TIED to the program's text (the seventh form; the later family's looks); each row that meets fmt, with fmt's text TOLD by the authors' own Lean function (tested against real Go, not proved from fmt's source: count such statements apart). THE CARD IS WHAT COUNTS. Prove the row's statement (the work); the ties are given (YtchljgmcempedaaGreatDoorTie.lean); close each card by the builder's one call (the guide's Derived/Test/ToyasCard.lean, 'card_holds'). Laid BY PROGRAM, IN A SANDBOX (cutbox-door.mjs). By AI agents, Wed Nov 11 2026. No macro, syntax, notation, axiom, sorry.
-/
import Derived.Test.YtchljgmcempedaaGreatDoorRows
import GoSem.ClaimSeven
namespace Go.Proofs.YtchljgmcempedaaGreatDoor
namespace Rows

/-- THE TIED CARD OF 'gaolerlaw14.RunMatchesReference'. -/
def runMatchesReferenceCard : Claim7 := { stood := { row := runMatchesReferenceRow, standIns := [], harness := (true, "360d987622c1fa6250cd8ebcc53cb05eb9b4ee51c79d232d3cc1834177ac6d58"), looks := true }, kinds := [], alts := [], laidByText := true, laidKinds := [.data, .data, .data], laidTests := true, laidLooks := .later }
def RunMatchesReferenceCardSaid : Prop := Claim7.holds Tryz.pinned (.plain (OpenSpec.ofChange runMatchesReferenceSpec)) runMatchesReferenceCard

/-- THE TIED CARD OF 'gaolerlaw26.ReplayMatchesReference'. -/
def replayMatchesReferenceCard : Claim7 := { stood := { row := replayMatchesReferenceRow, standIns := [], harness := (true, "360d987622c1fa6250cd8ebcc53cb05eb9b4ee51c79d232d3cc1834177ac6d58"), looks := true }, kinds := [], alts := [], laidByText := true, laidKinds := [.data, .data, .data], laidTests := true, laidLooks := .later }
def ReplayMatchesReferenceCardSaid : Prop := Claim7.holds Tryz.pinned (.plain (OpenSpec.ofChange replayMatchesReferenceSpec)) replayMatchesReferenceCard

/-- THE TIED CARD OF 'gaolerlaw26.ReplayPrefixes'. -/
def replayPrefixesCard : Claim7 := { stood := { row := replayPrefixesRow, standIns := [], harness := (true, "360d987622c1fa6250cd8ebcc53cb05eb9b4ee51c79d232d3cc1834177ac6d58"), looks := true }, kinds := [], alts := [], laidByText := true, laidKinds := [.data, .data, .data], laidTests := true, laidLooks := .later }
def ReplayPrefixesCardSaid : Prop := Claim7.holds Tryz.pinned (.plain (OpenSpec.ofChange replayPrefixesSpec)) replayPrefixesCard

/-- THE TIED CARD OF 'gaolerlaw26.ReplayWithoutEvents'. -/
def replayWithoutEventsCard : Claim7 := { stood := { row := replayWithoutEventsRow, standIns := [], harness := (true, "360d987622c1fa6250cd8ebcc53cb05eb9b4ee51c79d232d3cc1834177ac6d58"), looks := true }, kinds := [], alts := [], laidByText := true, laidKinds := [.data, .data, .data], laidTests := true, laidLooks := .later }
def ReplayWithoutEventsCardSaid : Prop := Claim7.holds Tryz.pinned (.plain (OpenSpec.ofChange replayWithoutEventsSpec)) replayWithoutEventsCard

/-- THE SECOND FORM's CARD OF 'gaolerlaw14.RunMatchesReference'. -/
def runMatchesReferenceUptoCard : Claim7 := { stood := { row := runMatchesReferenceUptoRow, standIns := [], harness := (true, "360d987622c1fa6250cd8ebcc53cb05eb9b4ee51c79d232d3cc1834177ac6d58"), looks := true }, kinds := [], alts := [], laidByText := true, laidKinds := [.data, .data, .data], laidTests := true, laidLooks := .later }
def RunMatchesReferenceUptoCardSaid : Prop := Claim7.holds Tryz.pinned (.plain (OpenSpec.upto runMatchesReferenceSpec)) runMatchesReferenceUptoCard

/-- THE SECOND FORM's CARD OF 'gaolerlaw26.ReplayMatchesReference'. -/
def replayMatchesReferenceUptoCard : Claim7 := { stood := { row := replayMatchesReferenceUptoRow, standIns := [], harness := (true, "360d987622c1fa6250cd8ebcc53cb05eb9b4ee51c79d232d3cc1834177ac6d58"), looks := true }, kinds := [], alts := [], laidByText := true, laidKinds := [.data, .data, .data], laidTests := true, laidLooks := .later }
def ReplayMatchesReferenceUptoCardSaid : Prop := Claim7.holds Tryz.pinned (.plain (OpenSpec.upto replayMatchesReferenceSpec)) replayMatchesReferenceUptoCard

/-- THE SECOND FORM's CARD OF 'gaolerlaw26.ReplayPrefixes'. -/
def replayPrefixesUptoCard : Claim7 := { stood := { row := replayPrefixesUptoRow, standIns := [], harness := (true, "360d987622c1fa6250cd8ebcc53cb05eb9b4ee51c79d232d3cc1834177ac6d58"), looks := true }, kinds := [], alts := [], laidByText := true, laidKinds := [.data, .data, .data], laidTests := true, laidLooks := .later }
def ReplayPrefixesUptoCardSaid : Prop := Claim7.holds Tryz.pinned (.plain (OpenSpec.upto replayPrefixesSpec)) replayPrefixesUptoCard

/-- THE SECOND FORM's CARD OF 'gaolerlaw26.ReplayWithoutEvents'. -/
def replayWithoutEventsUptoCard : Claim7 := { stood := { row := replayWithoutEventsUptoRow, standIns := [], harness := (true, "360d987622c1fa6250cd8ebcc53cb05eb9b4ee51c79d232d3cc1834177ac6d58"), looks := true }, kinds := [], alts := [], laidByText := true, laidKinds := [.data, .data, .data], laidTests := true, laidLooks := .later }
def ReplayWithoutEventsUptoCardSaid : Prop := Claim7.holds Tryz.pinned (.plain (OpenSpec.upto replayWithoutEventsSpec)) replayWithoutEventsUptoCard
end Rows
end Go.Proofs.YtchljgmcempedaaGreatDoor
