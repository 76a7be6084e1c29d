/-
  DERIVED. GIVEN WITH THE SEED: THE CARDS: each row of YtjnigggpijfdeaaGreatDoorRows.lean that lists a variable, with what it lists TIED to the program's text (the seventh form; the later family's looks); each row that meets fmt, with fmt's text TOLD by the authors' own Lean function (tested against real Go, not proved from fmt's source: count such statements apart). THE CARD IS WHAT COUNTS. Prove the row's statement (the work); the ties are given (YtjnigggpijfdeaaGreatDoorTie.lean); close each card by the builder's one call (the guide's Derived/Test/ToyasCard.lean, 'card_holds'). Laid BY PROGRAM, IN A SANDBOX (cutbox-door.mjs). By AI agents, Wed Nov 11 2026. No macro, syntax, notation, axiom, sorry.
-/
import Derived.Test.YtjnigggpijfdeaaGreatDoorRows
import GoSem.ClaimSeven
namespace Go.Proofs.YtjnigggpijfdeaaGreatDoor
namespace Rows

/-- THE TIED CARD OF 'gaolerlaw13.StepMatchesReference'. -/
def stepMatchesReferenceCard : Claim7 := { stood := { row := stepMatchesReferenceRow, standIns := [], harness := (true, "0ef319a7cdedbf43de0b7d6893e809bd79cfcb3a36ab067d350110e0b7f9860b"), looks := false }, kinds := [], alts := [], laidByText := true, laidKinds := [.data, .data, .data], laidTests := true, laidLooks := .later }
def StepMatchesReferenceCardSaid : Prop := Claim7.holds Tryz.pinned (.plain (OpenSpec.ofChange stepMatchesReferenceSpec)) stepMatchesReferenceCard

/-- THE SECOND FORM's CARD OF 'gaolerlaw13.StepMatchesReference'. -/
def stepMatchesReferenceUptoCard : Claim7 := { stood := { row := stepMatchesReferenceUptoRow, standIns := [], harness := (true, "0ef319a7cdedbf43de0b7d6893e809bd79cfcb3a36ab067d350110e0b7f9860b"), looks := false }, kinds := [], alts := [], laidByText := true, laidKinds := [.data, .data, .data], laidTests := true, laidLooks := .later }
def StepMatchesReferenceUptoCardSaid : Prop := Claim7.holds Tryz.pinned (.plain (OpenSpec.upto stepMatchesReferenceSpec)) stepMatchesReferenceUptoCard
end Rows
end Go.Proofs.YtjnigggpijfdeaaGreatDoor
