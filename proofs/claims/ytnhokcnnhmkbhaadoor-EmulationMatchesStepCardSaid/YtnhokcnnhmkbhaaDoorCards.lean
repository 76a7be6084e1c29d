/-
  DERIVED. GIVEN WITH THE SEED: THE CARDS: each row of YtnhokcnnhmkbhaaDoorRows.lean that lists a variable, with what it lists TIED to the program's text (the seventh form; the later family's looks); each row that meets fmt, with fmt's text TOLD by the authors' own Lean function (tested against real Go, not proved from fmt's source: count such statements apart). THE CARD IS WHAT COUNTS. Prove the row's statement (the work); the ties are given (YtnhokcnnhmkbhaaDoorTie.lean); close each card by the builder's one call (the guide's Derived/Test/ToyasCard.lean, 'card_holds'). Laid BY PROGRAM, IN A SANDBOX (cutbox-door.mjs). By AI agents, Wed Nov 11 2026. No macro, syntax, notation, axiom, sorry.
-/
import Derived.Test.YtnhokcnnhmkbhaaDoorRows
import GoSem.ClaimSeven
namespace Go.Proofs.YtnhokcnnhmkbhaaDoor
namespace Rows

/-- THE TIED CARD OF 'gaolerlaw19.EmulateMatchesReference'. -/
def emulateMatchesReferenceCard : Claim7 := { stood := { row := emulateMatchesReferenceRow, standIns := [], harness := (true, "4a782af0b860fcf8d29a14e90373ab39e6a5fe9809ca3ac11948ad5ead30d81e"), looks := false }, kinds := [], alts := [], laidByText := true, laidKinds := [.data, .data], laidTests := true, laidLooks := .later }
def EmulateMatchesReferenceCardSaid : Prop := Claim7.holds Tryd.pinned (.plain (OpenSpec.ofChange emulateMatchesReferenceSpec)) emulateMatchesReferenceCard

/-- THE TIED CARD OF 'gaolerlaw19.EmulTimeIsObservedOnlyByReads'. -/
def emulTimeIsObservedOnlyByReadsCard : Claim7 := { stood := { row := emulTimeIsObservedOnlyByReadsRow, standIns := [], harness := (true, "4a782af0b860fcf8d29a14e90373ab39e6a5fe9809ca3ac11948ad5ead30d81e"), looks := false }, kinds := [], alts := [], laidByText := true, laidKinds := [.data, .data], laidTests := true, laidLooks := .later }
def EmulTimeIsObservedOnlyByReadsCardSaid : Prop := Claim7.holds Tryd.pinned (.plain (OpenSpec.ofChange emulTimeIsObservedOnlyByReadsSpec)) emulTimeIsObservedOnlyByReadsCard

/-- THE TIED CARD OF 'gaolerlaw19.EmulateSequence'. -/
def emulateSequenceCard : Claim7 := { stood := { row := emulateSequenceRow, standIns := [], harness := (true, "4a782af0b860fcf8d29a14e90373ab39e6a5fe9809ca3ac11948ad5ead30d81e"), looks := false }, kinds := [], alts := [], laidByText := true, laidKinds := [.data, .data], laidTests := true, laidLooks := .later }
def EmulateSequenceCardSaid : Prop := Claim7.holds Tryd.pinned (.plain (OpenSpec.ofChange emulateSequenceSpec)) emulateSequenceCard

/-- THE TIED CARD OF 'gaolerlaw21.HandlerHandleMatchesReference'. -/
def handlerHandleMatchesReferenceCard : Claim7 := { stood := { row := handlerHandleMatchesReferenceRow, standIns := [], harness := (true, "4a782af0b860fcf8d29a14e90373ab39e6a5fe9809ca3ac11948ad5ead30d81e"), looks := false }, kinds := [], alts := [], laidByText := true, laidKinds := [.data, .data], laidTests := true, laidLooks := .later }
def HandlerHandleMatchesReferenceCardSaid : Prop := Claim7.holds Tryd.pinned (.plain (OpenSpec.ofChange handlerHandleMatchesReferenceSpec)) handlerHandleMatchesReferenceCard

/-- THE TIED CARD OF 'gaolerlaw21.HandlerHandleFrame'. -/
def handlerHandleFrameCard : Claim7 := { stood := { row := handlerHandleFrameRow, standIns := [], harness := (true, "4a782af0b860fcf8d29a14e90373ab39e6a5fe9809ca3ac11948ad5ead30d81e"), looks := false }, kinds := [], alts := [], laidByText := true, laidKinds := [.data, .data], laidTests := true, laidLooks := .later }
def HandlerHandleFrameCardSaid : Prop := Claim7.holds Tryd.pinned (.plain (OpenSpec.ofChange handlerHandleFrameSpec)) handlerHandleFrameCard

/-- THE TIED CARD OF 'gaolerlaw21.HandlerEmulationOrReflection'. -/
def handlerEmulationOrReflectionCard : Claim7 := { stood := { row := handlerEmulationOrReflectionRow, standIns := [], harness := (true, "4a782af0b860fcf8d29a14e90373ab39e6a5fe9809ca3ac11948ad5ead30d81e"), looks := false }, kinds := [], alts := [], laidByText := true, laidKinds := [.data, .data], laidTests := true, laidLooks := .later }
def HandlerEmulationOrReflectionCardSaid : Prop := Claim7.holds Tryd.pinned (.plain (OpenSpec.ofChange handlerEmulationOrReflectionSpec)) handlerEmulationOrReflectionCard

/-- THE TIED CARD OF 'gaolerlaw21.HandlerHandleKeepsValidity'. -/
def handlerHandleKeepsValidityCard : Claim7 := { stood := { row := handlerHandleKeepsValidityRow, standIns := [], harness := (true, "4a782af0b860fcf8d29a14e90373ab39e6a5fe9809ca3ac11948ad5ead30d81e"), looks := false }, kinds := [], alts := [], laidByText := true, laidKinds := [.data, .data], laidTests := true, laidLooks := .later }
def HandlerHandleKeepsValidityCardSaid : Prop := Claim7.holds Tryd.pinned (.plain (OpenSpec.ofChange handlerHandleKeepsValiditySpec)) handlerHandleKeepsValidityCard

/-- THE TIED CARD OF 'gaolerlaw19.EmulationMatchesStep'. -/
def emulationMatchesStepCard : Claim7 := { stood := { row := emulationMatchesStepRow, standIns := [], harness := (true, "4a782af0b860fcf8d29a14e90373ab39e6a5fe9809ca3ac11948ad5ead30d81e"), looks := false }, kinds := [], alts := [], laidByText := true, laidKinds := [.data, .data, .data], laidTests := true, laidLooks := .later }
def EmulationMatchesStepCardSaid : Prop := Claim7.holds Tryd.pinned (.plain (OpenSpec.ofChange emulationMatchesStepSpec)) emulationMatchesStepCard

/-- THE SECOND FORM's CARD OF 'gaolerlaw19.EmulateMatchesReference'. -/
def emulateMatchesReferenceUptoCard : Claim7 := { stood := { row := emulateMatchesReferenceUptoRow, standIns := [], harness := (true, "4a782af0b860fcf8d29a14e90373ab39e6a5fe9809ca3ac11948ad5ead30d81e"), looks := false }, kinds := [], alts := [], laidByText := true, laidKinds := [.data, .data], laidTests := true, laidLooks := .later }
def EmulateMatchesReferenceUptoCardSaid : Prop := Claim7.holds Tryd.pinned (.plain (OpenSpec.upto emulateMatchesReferenceSpec)) emulateMatchesReferenceUptoCard

/-- THE SECOND FORM's CARD OF 'gaolerlaw19.EmulTimeIsObservedOnlyByReads'. -/
def emulTimeIsObservedOnlyByReadsUptoCard : Claim7 := { stood := { row := emulTimeIsObservedOnlyByReadsUptoRow, standIns := [], harness := (true, "4a782af0b860fcf8d29a14e90373ab39e6a5fe9809ca3ac11948ad5ead30d81e"), looks := false }, kinds := [], alts := [], laidByText := true, laidKinds := [.data, .data], laidTests := true, laidLooks := .later }
def EmulTimeIsObservedOnlyByReadsUptoCardSaid : Prop := Claim7.holds Tryd.pinned (.plain (OpenSpec.upto emulTimeIsObservedOnlyByReadsSpec)) emulTimeIsObservedOnlyByReadsUptoCard

/-- THE SECOND FORM's CARD OF 'gaolerlaw19.EmulateSequence'. -/
def emulateSequenceUptoCard : Claim7 := { stood := { row := emulateSequenceUptoRow, standIns := [], harness := (true, "4a782af0b860fcf8d29a14e90373ab39e6a5fe9809ca3ac11948ad5ead30d81e"), looks := false }, kinds := [], alts := [], laidByText := true, laidKinds := [.data, .data], laidTests := true, laidLooks := .later }
def EmulateSequenceUptoCardSaid : Prop := Claim7.holds Tryd.pinned (.plain (OpenSpec.upto emulateSequenceSpec)) emulateSequenceUptoCard

/-- THE SECOND FORM's CARD OF 'gaolerlaw21.HandlerHandleMatchesReference'. -/
def handlerHandleMatchesReferenceUptoCard : Claim7 := { stood := { row := handlerHandleMatchesReferenceUptoRow, standIns := [], harness := (true, "4a782af0b860fcf8d29a14e90373ab39e6a5fe9809ca3ac11948ad5ead30d81e"), looks := false }, kinds := [], alts := [], laidByText := true, laidKinds := [.data, .data], laidTests := true, laidLooks := .later }
def HandlerHandleMatchesReferenceUptoCardSaid : Prop := Claim7.holds Tryd.pinned (.plain (OpenSpec.upto handlerHandleMatchesReferenceSpec)) handlerHandleMatchesReferenceUptoCard

/-- THE SECOND FORM's CARD OF 'gaolerlaw21.HandlerHandleFrame'. -/
def handlerHandleFrameUptoCard : Claim7 := { stood := { row := handlerHandleFrameUptoRow, standIns := [], harness := (true, "4a782af0b860fcf8d29a14e90373ab39e6a5fe9809ca3ac11948ad5ead30d81e"), looks := false }, kinds := [], alts := [], laidByText := true, laidKinds := [.data, .data], laidTests := true, laidLooks := .later }
def HandlerHandleFrameUptoCardSaid : Prop := Claim7.holds Tryd.pinned (.plain (OpenSpec.upto handlerHandleFrameSpec)) handlerHandleFrameUptoCard

/-- THE SECOND FORM's CARD OF 'gaolerlaw21.HandlerEmulationOrReflection'. -/
def handlerEmulationOrReflectionUptoCard : Claim7 := { stood := { row := handlerEmulationOrReflectionUptoRow, standIns := [], harness := (true, "4a782af0b860fcf8d29a14e90373ab39e6a5fe9809ca3ac11948ad5ead30d81e"), looks := false }, kinds := [], alts := [], laidByText := true, laidKinds := [.data, .data], laidTests := true, laidLooks := .later }
def HandlerEmulationOrReflectionUptoCardSaid : Prop := Claim7.holds Tryd.pinned (.plain (OpenSpec.upto handlerEmulationOrReflectionSpec)) handlerEmulationOrReflectionUptoCard

/-- THE SECOND FORM's CARD OF 'gaolerlaw21.HandlerHandleKeepsValidity'. -/
def handlerHandleKeepsValidityUptoCard : Claim7 := { stood := { row := handlerHandleKeepsValidityUptoRow, standIns := [], harness := (true, "4a782af0b860fcf8d29a14e90373ab39e6a5fe9809ca3ac11948ad5ead30d81e"), looks := false }, kinds := [], alts := [], laidByText := true, laidKinds := [.data, .data], laidTests := true, laidLooks := .later }
def HandlerHandleKeepsValidityUptoCardSaid : Prop := Claim7.holds Tryd.pinned (.plain (OpenSpec.upto handlerHandleKeepsValiditySpec)) handlerHandleKeepsValidityUptoCard

/-- THE SECOND FORM's CARD OF 'gaolerlaw19.EmulationMatchesStep'. -/
def emulationMatchesStepUptoCard : Claim7 := { stood := { row := emulationMatchesStepUptoRow, standIns := [], harness := (true, "4a782af0b860fcf8d29a14e90373ab39e6a5fe9809ca3ac11948ad5ead30d81e"), looks := false }, kinds := [], alts := [], laidByText := true, laidKinds := [.data, .data, .data], laidTests := true, laidLooks := .later }
def EmulationMatchesStepUptoCardSaid : Prop := Claim7.holds Tryd.pinned (.plain (OpenSpec.upto emulationMatchesStepSpec)) emulationMatchesStepUptoCard
end Rows
end Go.Proofs.YtnhokcnnhmkbhaaDoor
