/-
  DERIVED. GIVEN WITH THE SEED: THE CARDS: each row of YtmbmahgaejcjiaaGreatDoorRows.lean that lists a variable, with what it lists TIED to the program's text (the seventh form; the later family's looks); each row that meets fmt, with fmt's text TOLD by the authors' own Lean function (tested against real Go, not proved from fmt's source: count such statements apart). THE CARD IS WHAT COUNTS. Prove the row's statement (the work); the ties are given (YtmbmahgaejcjiaaGreatDoorTie.lean); close each card by the builder's one call (the guide's Derived/Test/ToyasCard.lean, 'card_holds'). Laid BY PROGRAM, IN A SANDBOX (cutbox-door.mjs). By AI agents, Wed Nov 11 2026. No macro, syntax, notation, axiom, sorry.
-/
import Derived.Test.YtmbmahgaejcjiaaGreatDoorRows
import GoSem.ClaimSeven
namespace Go.Proofs.YtmbmahgaejcjiaaGreatDoor
namespace Rows

/-- THE TIED CARD OF 'gaolerlaw23.TimeSliceMatchesReference'. -/
def timeSliceMatchesReferenceCard : Claim7 := { stood := { row := timeSliceMatchesReferenceRow, standIns := [], harness := (true, "82f7c32fd870a48da0e8a23b4cf4476b832c6fe1ef154c0f183a749d2adb3b76"), looks := false }, kinds := [], alts := [], laidByText := true, laidKinds := [.data, .data, .data], laidTests := true, laidLooks := .later }
def TimeSliceMatchesReferenceCardSaid : Prop := Claim7.holds Tryz.pinned (.plain (OpenSpec.ofChange timeSliceMatchesReferenceSpec)) timeSliceMatchesReferenceCard

/-- THE TIED CARD OF 'gaolerlaw23.TimeSliceMatchesBareGuest'. -/
def timeSliceMatchesBareGuestCard : Claim7 := { stood := { row := timeSliceMatchesBareGuestRow, standIns := [], harness := (true, "82f7c32fd870a48da0e8a23b4cf4476b832c6fe1ef154c0f183a749d2adb3b76"), looks := false }, kinds := [], alts := [], laidByText := true, laidKinds := [.data, .data, .data], laidTests := true, laidLooks := .later }
def TimeSliceMatchesBareGuestCardSaid : Prop := Claim7.holds Tryz.pinned (.plain (OpenSpec.ofChange timeSliceMatchesBareGuestSpec)) timeSliceMatchesBareGuestCard

/-- THE TIED CARD OF 'gaolerlaw23.TimeSliceNoninterference'. -/
def timeSliceNoninterferenceCard : Claim7 := { stood := { row := timeSliceNoninterferenceRow, standIns := [], harness := (true, "82f7c32fd870a48da0e8a23b4cf4476b832c6fe1ef154c0f183a749d2adb3b76"), looks := false }, kinds := [], alts := [], laidByText := true, laidKinds := [.data, .data, .data], laidTests := true, laidLooks := .later }
def TimeSliceNoninterferenceCardSaid : Prop := Claim7.holds Tryz.pinned (.plain (OpenSpec.ofChange timeSliceNoninterferenceSpec)) timeSliceNoninterferenceCard

/-- THE TIED CARD OF 'gaolerlaw23.TimesliceQuantumOne'. -/
def timesliceQuantumOneCard : Claim7 := { stood := { row := timesliceQuantumOneRow, standIns := [], harness := (true, "82f7c32fd870a48da0e8a23b4cf4476b832c6fe1ef154c0f183a749d2adb3b76"), looks := false }, kinds := [], alts := [], laidByText := true, laidKinds := [.data, .data, .data], laidTests := true, laidLooks := .later }
def TimesliceQuantumOneCardSaid : Prop := Claim7.holds Tryz.pinned (.plain (OpenSpec.ofChange timesliceQuantumOneSpec)) timesliceQuantumOneCard

/-- THE TIED CARD OF 'gaolerlaw23.TimeSlicesCompose'. -/
def timeSlicesComposeCard : Claim7 := { stood := { row := timeSlicesComposeRow, standIns := [], harness := (true, "82f7c32fd870a48da0e8a23b4cf4476b832c6fe1ef154c0f183a749d2adb3b76"), looks := false }, kinds := [], alts := [], laidByText := true, laidKinds := [.data, .data, .data], laidTests := true, laidLooks := .later }
def TimeSlicesComposeCardSaid : Prop := Claim7.holds Tryz.pinned (.plain (OpenSpec.ofChange timeSlicesComposeSpec)) timeSlicesComposeCard

/-- THE TIED CARD OF 'gaolerlaw23.TimeSliceFrame'. -/
def timeSliceFrameCard : Claim7 := { stood := { row := timeSliceFrameRow, standIns := [], harness := (true, "82f7c32fd870a48da0e8a23b4cf4476b832c6fe1ef154c0f183a749d2adb3b76"), looks := false }, kinds := [], alts := [], laidByText := true, laidKinds := [.data, .data, .data], laidTests := true, laidLooks := .later }
def TimeSliceFrameCardSaid : Prop := Claim7.holds Tryz.pinned (.plain (OpenSpec.ofChange timeSliceFrameSpec)) timeSliceFrameCard

/-- THE SECOND FORM's CARD OF 'gaolerlaw23.TimeSliceMatchesReference'. -/
def timeSliceMatchesReferenceUptoCard : Claim7 := { stood := { row := timeSliceMatchesReferenceUptoRow, standIns := [], harness := (true, "82f7c32fd870a48da0e8a23b4cf4476b832c6fe1ef154c0f183a749d2adb3b76"), looks := false }, kinds := [], alts := [], laidByText := true, laidKinds := [.data, .data, .data], laidTests := true, laidLooks := .later }
def TimeSliceMatchesReferenceUptoCardSaid : Prop := Claim7.holds Tryz.pinned (.plain (OpenSpec.upto timeSliceMatchesReferenceSpec)) timeSliceMatchesReferenceUptoCard

/-- THE SECOND FORM's CARD OF 'gaolerlaw23.TimeSliceMatchesBareGuest'. -/
def timeSliceMatchesBareGuestUptoCard : Claim7 := { stood := { row := timeSliceMatchesBareGuestUptoRow, standIns := [], harness := (true, "82f7c32fd870a48da0e8a23b4cf4476b832c6fe1ef154c0f183a749d2adb3b76"), looks := false }, kinds := [], alts := [], laidByText := true, laidKinds := [.data, .data, .data], laidTests := true, laidLooks := .later }
def TimeSliceMatchesBareGuestUptoCardSaid : Prop := Claim7.holds Tryz.pinned (.plain (OpenSpec.upto timeSliceMatchesBareGuestSpec)) timeSliceMatchesBareGuestUptoCard

/-- THE SECOND FORM's CARD OF 'gaolerlaw23.TimeSliceNoninterference'. -/
def timeSliceNoninterferenceUptoCard : Claim7 := { stood := { row := timeSliceNoninterferenceUptoRow, standIns := [], harness := (true, "82f7c32fd870a48da0e8a23b4cf4476b832c6fe1ef154c0f183a749d2adb3b76"), looks := false }, kinds := [], alts := [], laidByText := true, laidKinds := [.data, .data, .data], laidTests := true, laidLooks := .later }
def TimeSliceNoninterferenceUptoCardSaid : Prop := Claim7.holds Tryz.pinned (.plain (OpenSpec.upto timeSliceNoninterferenceSpec)) timeSliceNoninterferenceUptoCard

/-- THE SECOND FORM's CARD OF 'gaolerlaw23.TimesliceQuantumOne'. -/
def timesliceQuantumOneUptoCard : Claim7 := { stood := { row := timesliceQuantumOneUptoRow, standIns := [], harness := (true, "82f7c32fd870a48da0e8a23b4cf4476b832c6fe1ef154c0f183a749d2adb3b76"), looks := false }, kinds := [], alts := [], laidByText := true, laidKinds := [.data, .data, .data], laidTests := true, laidLooks := .later }
def TimesliceQuantumOneUptoCardSaid : Prop := Claim7.holds Tryz.pinned (.plain (OpenSpec.upto timesliceQuantumOneSpec)) timesliceQuantumOneUptoCard

/-- THE SECOND FORM's CARD OF 'gaolerlaw23.TimeSlicesCompose'. -/
def timeSlicesComposeUptoCard : Claim7 := { stood := { row := timeSlicesComposeUptoRow, standIns := [], harness := (true, "82f7c32fd870a48da0e8a23b4cf4476b832c6fe1ef154c0f183a749d2adb3b76"), looks := false }, kinds := [], alts := [], laidByText := true, laidKinds := [.data, .data, .data], laidTests := true, laidLooks := .later }
def TimeSlicesComposeUptoCardSaid : Prop := Claim7.holds Tryz.pinned (.plain (OpenSpec.upto timeSlicesComposeSpec)) timeSlicesComposeUptoCard

/-- THE SECOND FORM's CARD OF 'gaolerlaw23.TimeSliceFrame'. -/
def timeSliceFrameUptoCard : Claim7 := { stood := { row := timeSliceFrameUptoRow, standIns := [], harness := (true, "82f7c32fd870a48da0e8a23b4cf4476b832c6fe1ef154c0f183a749d2adb3b76"), looks := false }, kinds := [], alts := [], laidByText := true, laidKinds := [.data, .data, .data], laidTests := true, laidLooks := .later }
def TimeSliceFrameUptoCardSaid : Prop := Claim7.holds Tryz.pinned (.plain (OpenSpec.upto timeSliceFrameSpec)) timeSliceFrameUptoCard
end Rows
end Go.Proofs.YtmbmahgaejcjiaaGreatDoor
