/-
  DERIVED. GIVEN WITH THE SEED: THE CARDS: each row of YtjnigggpijfdeaaDoorRows.lean that lists a variable, with what it lists TIED to the program's text (the seventh form; the later family's looks); each row that meets fmt, with fmt's text TOLD by the authors' own Lean function (tested against real Go, not proved from fmt's source: count such statements apart). THE CARD IS WHAT COUNTS. Prove the row's statement (the work); the ties are given (YtjnigggpijfdeaaDoorTie.lean); close each card by the builder's one call (the guide's Derived/Test/ToyasCard.lean, 'card_holds'). Laid BY PROGRAM, IN A SANDBOX (cutbox-door.mjs). By AI agents, Wed Nov 11 2026. No macro, syntax, notation, axiom, sorry.
-/
import Derived.Test.YtjnigggpijfdeaaDoorRows
import GoSem.ClaimSeven
namespace Go.Proofs.YtjnigggpijfdeaaDoor
namespace Rows

/-- THE TIED CARD OF 'gaolerlaw13.StepFrame'. -/
def stepFrameCard : Claim7 := { stood := { row := stepFrameRow, standIns := [], harness := (true, "b165cb4901627a5eadd7a1a6074b74811f7f8fab9a8bc8e0b6bcae1c8ffb51a4"), looks := false }, kinds := [], alts := [], laidByText := true, laidKinds := [.data, .data, .data], laidTests := true, laidLooks := .later }
def StepFrameCardSaid : Prop := Claim7.holds Tryd.pinned (.plain (OpenSpec.ofChange stepFrameSpec)) stepFrameCard

/-- THE TIED CARD OF 'gaolerlaw13.StepTrapPriority'. -/
def stepTrapPriorityCard : Claim7 := { stood := { row := stepTrapPriorityRow, standIns := [], harness := (true, "b165cb4901627a5eadd7a1a6074b74811f7f8fab9a8bc8e0b6bcae1c8ffb51a4"), looks := false }, kinds := [], alts := [], laidByText := true, laidKinds := [.data, .data, .data], laidTests := true, laidLooks := .later }
def StepTrapPriorityCardSaid : Prop := Claim7.holds Tryd.pinned (.plain (OpenSpec.ofChange stepTrapPrioritySpec)) stepTrapPriorityCard

/-- THE TIED CARD OF 'gaolerlaw13.StepUserModeConfinement'. -/
def stepUserModeConfinementCard : Claim7 := { stood := { row := stepUserModeConfinementRow, standIns := [], harness := (true, "b165cb4901627a5eadd7a1a6074b74811f7f8fab9a8bc8e0b6bcae1c8ffb51a4"), looks := false }, kinds := [], alts := [], laidByText := true, laidKinds := [.data, .data, .data], laidTests := true, laidLooks := .later }
def StepUserModeConfinementCardSaid : Prop := Claim7.holds Tryd.pinned (.plain (OpenSpec.ofChange stepUserModeConfinementSpec)) stepUserModeConfinementCard

/-- THE TIED CARD OF 'gaolerlaw13.StepTimerHasPriority'. -/
def stepTimerHasPriorityCard : Claim7 := { stood := { row := stepTimerHasPriorityRow, standIns := [], harness := (true, "b165cb4901627a5eadd7a1a6074b74811f7f8fab9a8bc8e0b6bcae1c8ffb51a4"), looks := false }, kinds := [], alts := [], laidByText := true, laidKinds := [.data, .data, .data], laidTests := true, laidLooks := .later }
def StepTimerHasPriorityCardSaid : Prop := Claim7.holds Tryd.pinned (.plain (OpenSpec.ofChange stepTimerHasPrioritySpec)) stepTimerHasPriorityCard

/-- THE TIED CARD OF 'gaolerlaw13.StepModeNeverRises'. -/
def stepModeNeverRisesCard : Claim7 := { stood := { row := stepModeNeverRisesRow, standIns := [], harness := (true, "b165cb4901627a5eadd7a1a6074b74811f7f8fab9a8bc8e0b6bcae1c8ffb51a4"), looks := false }, kinds := [], alts := [], laidByText := true, laidKinds := [.data, .data, .data], laidTests := true, laidLooks := .later }
def StepModeNeverRisesCardSaid : Prop := Claim7.holds Tryd.pinned (.plain (OpenSpec.ofChange stepModeNeverRisesSpec)) stepModeNeverRisesCard

/-- THE TIED CARD OF 'gaolerlaw20.VtrapReflectionMatchesTrap'. -/
def vtrapReflectionMatchesTrapCard : Claim7 := { stood := { row := vtrapReflectionMatchesTrapRow, standIns := [], harness := (true, "b165cb4901627a5eadd7a1a6074b74811f7f8fab9a8bc8e0b6bcae1c8ffb51a4"), looks := false }, kinds := [], alts := [], laidByText := true, laidKinds := [.data, .data, .data], laidTests := true, laidLooks := .later }
def VtrapReflectionMatchesTrapCardSaid : Prop := Claim7.holds Tryd.pinned (.plain (OpenSpec.ofChange vtrapReflectionMatchesTrapSpec)) vtrapReflectionMatchesTrapCard

/-- THE TIED CARD OF 'gaolerlaw18.ShadowDispatchedGuestIsConfined'. -/
def shadowDispatchedGuestIsConfinedCard : Claim7 := { stood := { row := shadowDispatchedGuestIsConfinedRow, standIns := [], harness := (true, "b165cb4901627a5eadd7a1a6074b74811f7f8fab9a8bc8e0b6bcae1c8ffb51a4"), looks := false }, kinds := [], alts := [], laidByText := true, laidKinds := [.data, .data, .data], laidTests := true, laidLooks := .later }
def ShadowDispatchedGuestIsConfinedCardSaid : Prop := Claim7.holds Tryd.pinned (.plain (OpenSpec.ofChange shadowDispatchedGuestIsConfinedSpec)) shadowDispatchedGuestIsConfinedCard

/-- THE SECOND FORM's CARD OF 'gaolerlaw13.StepFrame'. -/
def stepFrameUptoCard : Claim7 := { stood := { row := stepFrameUptoRow, standIns := [], harness := (true, "b165cb4901627a5eadd7a1a6074b74811f7f8fab9a8bc8e0b6bcae1c8ffb51a4"), looks := false }, kinds := [], alts := [], laidByText := true, laidKinds := [.data, .data, .data], laidTests := true, laidLooks := .later }
def StepFrameUptoCardSaid : Prop := Claim7.holds Tryd.pinned (.plain (OpenSpec.upto stepFrameSpec)) stepFrameUptoCard

/-- THE SECOND FORM's CARD OF 'gaolerlaw13.StepTrapPriority'. -/
def stepTrapPriorityUptoCard : Claim7 := { stood := { row := stepTrapPriorityUptoRow, standIns := [], harness := (true, "b165cb4901627a5eadd7a1a6074b74811f7f8fab9a8bc8e0b6bcae1c8ffb51a4"), looks := false }, kinds := [], alts := [], laidByText := true, laidKinds := [.data, .data, .data], laidTests := true, laidLooks := .later }
def StepTrapPriorityUptoCardSaid : Prop := Claim7.holds Tryd.pinned (.plain (OpenSpec.upto stepTrapPrioritySpec)) stepTrapPriorityUptoCard

/-- THE SECOND FORM's CARD OF 'gaolerlaw13.StepUserModeConfinement'. -/
def stepUserModeConfinementUptoCard : Claim7 := { stood := { row := stepUserModeConfinementUptoRow, standIns := [], harness := (true, "b165cb4901627a5eadd7a1a6074b74811f7f8fab9a8bc8e0b6bcae1c8ffb51a4"), looks := false }, kinds := [], alts := [], laidByText := true, laidKinds := [.data, .data, .data], laidTests := true, laidLooks := .later }
def StepUserModeConfinementUptoCardSaid : Prop := Claim7.holds Tryd.pinned (.plain (OpenSpec.upto stepUserModeConfinementSpec)) stepUserModeConfinementUptoCard

/-- THE SECOND FORM's CARD OF 'gaolerlaw13.StepTimerHasPriority'. -/
def stepTimerHasPriorityUptoCard : Claim7 := { stood := { row := stepTimerHasPriorityUptoRow, standIns := [], harness := (true, "b165cb4901627a5eadd7a1a6074b74811f7f8fab9a8bc8e0b6bcae1c8ffb51a4"), looks := false }, kinds := [], alts := [], laidByText := true, laidKinds := [.data, .data, .data], laidTests := true, laidLooks := .later }
def StepTimerHasPriorityUptoCardSaid : Prop := Claim7.holds Tryd.pinned (.plain (OpenSpec.upto stepTimerHasPrioritySpec)) stepTimerHasPriorityUptoCard

/-- THE SECOND FORM's CARD OF 'gaolerlaw13.StepModeNeverRises'. -/
def stepModeNeverRisesUptoCard : Claim7 := { stood := { row := stepModeNeverRisesUptoRow, standIns := [], harness := (true, "b165cb4901627a5eadd7a1a6074b74811f7f8fab9a8bc8e0b6bcae1c8ffb51a4"), looks := false }, kinds := [], alts := [], laidByText := true, laidKinds := [.data, .data, .data], laidTests := true, laidLooks := .later }
def StepModeNeverRisesUptoCardSaid : Prop := Claim7.holds Tryd.pinned (.plain (OpenSpec.upto stepModeNeverRisesSpec)) stepModeNeverRisesUptoCard

/-- THE SECOND FORM's CARD OF 'gaolerlaw20.VtrapReflectionMatchesTrap'. -/
def vtrapReflectionMatchesTrapUptoCard : Claim7 := { stood := { row := vtrapReflectionMatchesTrapUptoRow, standIns := [], harness := (true, "b165cb4901627a5eadd7a1a6074b74811f7f8fab9a8bc8e0b6bcae1c8ffb51a4"), looks := false }, kinds := [], alts := [], laidByText := true, laidKinds := [.data, .data, .data], laidTests := true, laidLooks := .later }
def VtrapReflectionMatchesTrapUptoCardSaid : Prop := Claim7.holds Tryd.pinned (.plain (OpenSpec.upto vtrapReflectionMatchesTrapSpec)) vtrapReflectionMatchesTrapUptoCard

/-- THE SECOND FORM's CARD OF 'gaolerlaw18.ShadowDispatchedGuestIsConfined'. -/
def shadowDispatchedGuestIsConfinedUptoCard : Claim7 := { stood := { row := shadowDispatchedGuestIsConfinedUptoRow, standIns := [], harness := (true, "b165cb4901627a5eadd7a1a6074b74811f7f8fab9a8bc8e0b6bcae1c8ffb51a4"), looks := false }, kinds := [], alts := [], laidByText := true, laidKinds := [.data, .data, .data], laidTests := true, laidLooks := .later }
def ShadowDispatchedGuestIsConfinedUptoCardSaid : Prop := Claim7.holds Tryd.pinned (.plain (OpenSpec.upto shadowDispatchedGuestIsConfinedSpec)) shadowDispatchedGuestIsConfinedUptoCard
end Rows
end Go.Proofs.YtjnigggpijfdeaaDoor
