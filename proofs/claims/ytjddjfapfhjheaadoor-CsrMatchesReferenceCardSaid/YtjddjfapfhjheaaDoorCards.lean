/-
  DERIVED. GIVEN WITH THE SEED: THE CARDS: each row of YtjddjfapfhjheaaDoorRows.lean that lists a variable, with what it lists TIED to the program's text (the seventh form; the later family's looks); each row that meets fmt, with fmt's text TOLD by the authors' own Lean function (tested against real Go, not proved from fmt's source: count such statements apart). THE CARD IS WHAT COUNTS. Prove the row's statement (the work); the ties are given (YtjddjfapfhjheaaDoorTie.lean); close each card by the builder's one call (the guide's Derived/Test/ToyasCard.lean, 'card_holds'). Laid BY PROGRAM, IN A SANDBOX (cutbox-door.mjs). By AI agents, Wed Nov 11 2026. No macro, syntax, notation, axiom, sorry.
-/
import Derived.Test.YtjddjfapfhjheaaDoorRows
import GoSem.ClaimSeven
namespace Go.Proofs.YtjddjfapfhjheaaDoor
namespace Rows

/-- THE TIED CARD OF 'gaolerlaw04.CsrMatchesReference'. -/
def csrMatchesReferenceCard : Claim7 := { stood := { row := csrMatchesReferenceRow, standIns := [], harness := (true, "bad810727a9ca8979cfd459d85bdd857bb4db45de8a70b4cf8ec8dc0d9aef4c8"), looks := false }, kinds := [], alts := [], laidByText := true, laidKinds := [.widerDeep], laidTests := true, laidLooks := .later }
def CsrMatchesReferenceCardSaid : Prop := Claim7.holds Tryd.pinned (.plain (OpenSpec.ofChange csrMatchesReferenceSpec)) csrMatchesReferenceCard

/-- THE TIED CARD OF 'gaolerlaw04.CsrWritesAreMasked'. -/
def csrWritesAreMaskedCard : Claim7 := { stood := { row := csrWritesAreMaskedRow, standIns := [], harness := (true, "bad810727a9ca8979cfd459d85bdd857bb4db45de8a70b4cf8ec8dc0d9aef4c8"), looks := false }, kinds := [], alts := [], laidByText := true, laidKinds := [.widerDeep], laidTests := true, laidLooks := .later }
def CsrWritesAreMaskedCardSaid : Prop := Claim7.holds Tryd.pinned (.plain (OpenSpec.ofChange csrWritesAreMaskedSpec)) csrWritesAreMaskedCard

/-- THE TIED CARD OF 'gaolerlaw04.CsrTimeHalves'. -/
def csrTimeHalvesCard : Claim7 := { stood := { row := csrTimeHalvesRow, standIns := [], harness := (true, "bad810727a9ca8979cfd459d85bdd857bb4db45de8a70b4cf8ec8dc0d9aef4c8"), looks := false }, kinds := [], alts := [], laidByText := true, laidKinds := [.widerDeep], laidTests := true, laidLooks := .later }
def CsrTimeHalvesCardSaid : Prop := Claim7.holds Tryd.pinned (.plain (OpenSpec.ofChange csrTimeHalvesSpec)) csrTimeHalvesCard

/-- THE TIED CARD OF 'gaolerlaw04.CsrWritesCommute'. -/
def csrWritesCommuteCard : Claim7 := { stood := { row := csrWritesCommuteRow, standIns := [], harness := (true, "bad810727a9ca8979cfd459d85bdd857bb4db45de8a70b4cf8ec8dc0d9aef4c8"), looks := false }, kinds := [], alts := [], laidByText := true, laidKinds := [.widerDeep], laidTests := true, laidLooks := .later }
def CsrWritesCommuteCardSaid : Prop := Claim7.holds Tryd.pinned (.plain (OpenSpec.ofChange csrWritesCommuteSpec)) csrWritesCommuteCard

/-- THE TIED CARD OF 'gaolerlaw04.CsrResetState'. -/
def csrResetStateCard : Claim7 := { stood := { row := csrResetStateRow, standIns := [], harness := (true, "bad810727a9ca8979cfd459d85bdd857bb4db45de8a70b4cf8ec8dc0d9aef4c8"), looks := false }, kinds := [], alts := [], laidByText := true, laidKinds := [.widerDeep], laidTests := true, laidLooks := .later }
def CsrResetStateCardSaid : Prop := Claim7.holds Tryd.pinned (.plain (OpenSpec.ofChange csrResetStateSpec)) csrResetStateCard

/-- THE SECOND FORM's CARD OF 'gaolerlaw04.CsrMatchesReference'. -/
def csrMatchesReferenceUptoCard : Claim7 := { stood := { row := csrMatchesReferenceUptoRow, standIns := [], harness := (true, "bad810727a9ca8979cfd459d85bdd857bb4db45de8a70b4cf8ec8dc0d9aef4c8"), looks := false }, kinds := [], alts := [], laidByText := true, laidKinds := [.widerDeep], laidTests := true, laidLooks := .later }
def CsrMatchesReferenceUptoCardSaid : Prop := Claim7.holds Tryd.pinned (.plain (OpenSpec.upto csrMatchesReferenceSpec)) csrMatchesReferenceUptoCard

/-- THE SECOND FORM's CARD OF 'gaolerlaw04.CsrWritesAreMasked'. -/
def csrWritesAreMaskedUptoCard : Claim7 := { stood := { row := csrWritesAreMaskedUptoRow, standIns := [], harness := (true, "bad810727a9ca8979cfd459d85bdd857bb4db45de8a70b4cf8ec8dc0d9aef4c8"), looks := false }, kinds := [], alts := [], laidByText := true, laidKinds := [.widerDeep], laidTests := true, laidLooks := .later }
def CsrWritesAreMaskedUptoCardSaid : Prop := Claim7.holds Tryd.pinned (.plain (OpenSpec.upto csrWritesAreMaskedSpec)) csrWritesAreMaskedUptoCard

/-- THE SECOND FORM's CARD OF 'gaolerlaw04.CsrTimeHalves'. -/
def csrTimeHalvesUptoCard : Claim7 := { stood := { row := csrTimeHalvesUptoRow, standIns := [], harness := (true, "bad810727a9ca8979cfd459d85bdd857bb4db45de8a70b4cf8ec8dc0d9aef4c8"), looks := false }, kinds := [], alts := [], laidByText := true, laidKinds := [.widerDeep], laidTests := true, laidLooks := .later }
def CsrTimeHalvesUptoCardSaid : Prop := Claim7.holds Tryd.pinned (.plain (OpenSpec.upto csrTimeHalvesSpec)) csrTimeHalvesUptoCard

/-- THE SECOND FORM's CARD OF 'gaolerlaw04.CsrWritesCommute'. -/
def csrWritesCommuteUptoCard : Claim7 := { stood := { row := csrWritesCommuteUptoRow, standIns := [], harness := (true, "bad810727a9ca8979cfd459d85bdd857bb4db45de8a70b4cf8ec8dc0d9aef4c8"), looks := false }, kinds := [], alts := [], laidByText := true, laidKinds := [.widerDeep], laidTests := true, laidLooks := .later }
def CsrWritesCommuteUptoCardSaid : Prop := Claim7.holds Tryd.pinned (.plain (OpenSpec.upto csrWritesCommuteSpec)) csrWritesCommuteUptoCard

/-- THE SECOND FORM's CARD OF 'gaolerlaw04.CsrResetState'. -/
def csrResetStateUptoCard : Claim7 := { stood := { row := csrResetStateUptoRow, standIns := [], harness := (true, "bad810727a9ca8979cfd459d85bdd857bb4db45de8a70b4cf8ec8dc0d9aef4c8"), looks := false }, kinds := [], alts := [], laidByText := true, laidKinds := [.widerDeep], laidTests := true, laidLooks := .later }
def CsrResetStateUptoCardSaid : Prop := Claim7.holds Tryd.pinned (.plain (OpenSpec.upto csrResetStateSpec)) csrResetStateUptoCard
end Rows
end Go.Proofs.YtjddjfapfhjheaaDoor
