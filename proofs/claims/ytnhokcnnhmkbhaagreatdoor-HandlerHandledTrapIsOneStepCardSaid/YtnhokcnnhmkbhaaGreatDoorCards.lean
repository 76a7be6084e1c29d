/-
  DERIVED. GIVEN WITH THE SEED: THE CARDS: each row of YtnhokcnnhmkbhaaGreatDoorRows.lean that lists a variable, with what it lists TIED to the program's text (the seventh form; the later family's looks); each row that meets fmt, with fmt's text TOLD by the authors' own Lean function (tested against real Go, not proved from fmt's source: count such statements apart). THE CARD IS WHAT COUNTS. Prove the row's statement (the work); the ties are given (YtnhokcnnhmkbhaaGreatDoorTie.lean); close each card by the builder's one call (the guide's Derived/Test/ToyasCard.lean, 'card_holds'). Laid BY PROGRAM, IN A SANDBOX (cutbox-door.mjs). By AI agents, Wed Nov 11 2026. No macro, syntax, notation, axiom, sorry.
-/
import Derived.Test.YtnhokcnnhmkbhaaGreatDoorRows
import GoSem.ClaimSeven
namespace Go.Proofs.YtnhokcnnhmkbhaaGreatDoor
namespace Rows

/-- THE TIED CARD OF 'gaolerlaw21.HandlerHandledTrapIsOneStep'. -/
def handlerHandledTrapIsOneStepCard : Claim7 := { stood := { row := handlerHandledTrapIsOneStepRow, standIns := [], harness := (true, "bbd1c6d35423e29a19e083c8124a2c74175c8ea26d86c9e9d460fb29a10893b5"), looks := false }, kinds := [], alts := [], laidByText := true, laidKinds := [.data, .data, .data], laidTests := true, laidLooks := .later }
def HandlerHandledTrapIsOneStepCardSaid : Prop := Claim7.holds Tryz.pinned (.plain (OpenSpec.ofChange handlerHandledTrapIsOneStepSpec)) handlerHandledTrapIsOneStepCard

/-- THE SECOND FORM's CARD OF 'gaolerlaw21.HandlerHandledTrapIsOneStep'. -/
def handlerHandledTrapIsOneStepUptoCard : Claim7 := { stood := { row := handlerHandledTrapIsOneStepUptoRow, standIns := [], harness := (true, "bbd1c6d35423e29a19e083c8124a2c74175c8ea26d86c9e9d460fb29a10893b5"), looks := false }, kinds := [], alts := [], laidByText := true, laidKinds := [.data, .data, .data], laidTests := true, laidLooks := .later }
def HandlerHandledTrapIsOneStepUptoCardSaid : Prop := Claim7.holds Tryz.pinned (.plain (OpenSpec.upto handlerHandledTrapIsOneStepSpec)) handlerHandledTrapIsOneStepUptoCard
end Rows
end Go.Proofs.YtnhokcnnhmkbhaaGreatDoor
