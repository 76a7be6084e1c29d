/-
  NARROWER THAN 'FOR EVERY INPUT', by the rows' own cells (each row's printed sentence says how): TimeSliceMatchesReference: laid · TimeSliceMatchesBareGuest: laid · TimeSliceNoninterference: laid · TimesliceQuantumOne: laid · TimeSlicesCompose: laid · TimeSliceFrame: laid.
  DERIVED. THE GIVEN ROWS OF THIS SEAT. 6 by the template 'for every input the law returns true; each argument reads behind the call as it read before'; 0 by the template 'total and deterministic' (their statements: YtmbmahgaejcjiaaGreatDoorTotals.lean).
  GIVEN WITH THE SEED: the statements are not yours to turn. If you find one false, say at which input.
  Laid BY PROGRAM, IN A SANDBOX (cutbox-rows.mjs): the forced cells as the released guide's own fill.sh prints them over the translation 43679161134ececb… (all of the seat's roots in one cut). By AI agents, Wed Nov 11 2026. No macro, syntax, notation, axiom, sorry.
-/
import Derived.Test.YtmbmahgaejcjiaaGreatDoorChecked
import GoSem.Claim
import GoSem.ClaimJoined
import GoSem.ClaimMapViews
import Derived.JoinedTies
import Derived.KernelRfl
namespace Go.Proofs.YtmbmahgaejcjiaaGreatDoor
/- THE CELL 'sum', in the pinned program and in every row, IS THE sha256 OF THE DUMP (.gsa) THAT YtmbmahgaejcjiaaGreatDoorProg.lean LOADS. Nothing in Lean hashes anything: it is a label: what it is worth is what the hold of that sum in a sandbox is worth. -/
noncomputable def Tryz.pinned : Pinned := { name := "ytmbmahgaejcjiaagreatdoor", sum := "43679161134ececbf1347a9e2fbd404fd995a1cba0835b3140d5f94e09a2a591", checked := Tryz.checked }
namespace Rows
def none {H : Type} : Left H := { results := [], args := [] }

/- WHAT THE LISTED PACKAGE-LEVEL VARIABLES READ AS WHEN THE CALL BEGINS. Each datum BY PROGRAM (the guide's laid-datum.mjs) off the statement by which the dump's own 'gosem.cut.vars' lays the variable. In a bare row this is a premise. The card (YtmbmahgaejcjiaaGreatDoorCards.lean) ties it to the program's text. -/
def laid_gaoler_isa_forms {H : Type} : DataW H := .agg [.lit (.int .i64 0), .lit (.int .i64 1), .lit (.int .i64 1), .lit (.int .i64 1), .lit (.int .i64 1), .lit (.int .i64 1), .lit (.int .i64 1), .lit (.int .i64 1), .lit (.int .i64 1), .lit (.int .i64 2), .lit (.int .i64 3), .lit (.int .i64 2), .lit (.int .i64 2), .lit (.int .i64 2), .lit (.int .i64 2), .lit (.int .i64 2), .lit (.int .i64 2), .lit (.int .i64 2), .lit (.int .i64 3), .lit (.int .i64 2), .lit (.int .i64 4), .lit (.int .i64 5), .lit (.int .i64 6), .lit (.int .i64 4), .lit (.int .i64 4), .lit (.int .i64 7)]
def laid_gaoler_isa_parts {H : Type} : DataW H := .agg [.agg [.lit (.bool false), .lit (.bool false), .lit (.bool false), .lit (.bool false), .lit (.bool false)], .agg [.lit (.bool true), .lit (.bool true), .lit (.bool true), .lit (.bool false), .lit (.bool false)], .agg [.lit (.bool true), .lit (.bool true), .lit (.bool false), .lit (.bool true), .lit (.bool false)], .agg [.lit (.bool true), .lit (.bool false), .lit (.bool false), .lit (.bool true), .lit (.bool false)], .agg [.lit (.bool false), .lit (.bool false), .lit (.bool false), .lit (.bool false), .lit (.bool false)], .agg [.lit (.bool true), .lit (.bool false), .lit (.bool false), .lit (.bool false), .lit (.bool true)], .agg [.lit (.bool false), .lit (.bool true), .lit (.bool false), .lit (.bool false), .lit (.bool true)], .agg [.lit (.bool false), .lit (.bool true), .lit (.bool false), .lit (.bool false), .lit (.bool false)]]
def laid_gaoler_fetch_none {H : Type} : DataW H := .agg [.lit (.int .i64 0), .lit (.int .u32 0)]

/-- 'gaolerlaw23.TimeSliceMatchesReference': WHATEVER THE INPUT: true; the input reads as it did. -/
def timeSliceMatchesReferenceSpec : ChangeSpec := { name := "timeSliceMatchesReference", fn := fun _ => fun
  | [d1, d2, d3, d4] => { results := [.lit (.bool true)], args := [d1, d2, d3, d4] }
  | _ => none }
def timeSliceMatchesReferenceRow : OpenClaim := { program := "ytmbmahgaejcjiaagreatdoor", sum := "43679161134ececbf1347a9e2fbd404fd995a1cba0835b3140d5f94e09a2a591", func := "gaoler/gaolerlaw23.TimeSliceMatchesReference", spec := "timeSliceMatchesReference", unfollowed := true, recurses := true, named := ["gaoler/fetch.none", "gaoler/isa.parts", "gaoler/isa.forms"], apart := false, laid := [("gaoler/isa.forms", laid_gaoler_isa_forms), ("gaoler/isa.parts", laid_gaoler_isa_parts), ("gaoler/fetch.none", laid_gaoler_fetch_none)] }
def TimeSliceMatchesReferenceSaid : Prop := timeSliceMatchesReferenceRow.holds Tryz.pinned (OpenSpec.ofChange timeSliceMatchesReferenceSpec)

/-- ITS FALSE NEIGHBOUR: 'it returns false'. Refute it at one input. -/
def timeSliceMatchesReferenceWrong : ChangeSpec := { name := "timeSliceMatchesReference", fn := fun _ => fun
  | [d1, d2, d3, d4] => { results := [.lit (.bool false)], args := [d1, d2, d3, d4] }
  | _ => none }
def TimeSliceMatchesReferenceWrongFalsely : Prop := timeSliceMatchesReferenceRow.holds Tryz.pinned (OpenSpec.ofChange timeSliceMatchesReferenceWrong)

/-- 'gaolerlaw23.TimeSliceMatchesBareGuest': WHATEVER THE INPUT: true; the input reads as it did. -/
def timeSliceMatchesBareGuestSpec : ChangeSpec := { name := "timeSliceMatchesBareGuest", fn := fun _ => fun
  | [d1, d2, d3, d4] => { results := [.lit (.bool true)], args := [d1, d2, d3, d4] }
  | _ => none }
def timeSliceMatchesBareGuestRow : OpenClaim := { program := "ytmbmahgaejcjiaagreatdoor", sum := "43679161134ececbf1347a9e2fbd404fd995a1cba0835b3140d5f94e09a2a591", func := "gaoler/gaolerlaw23.TimeSliceMatchesBareGuest", spec := "timeSliceMatchesBareGuest", unfollowed := true, recurses := true, named := ["gaoler/fetch.none", "gaoler/isa.parts", "gaoler/isa.forms"], apart := false, laid := [("gaoler/isa.forms", laid_gaoler_isa_forms), ("gaoler/isa.parts", laid_gaoler_isa_parts), ("gaoler/fetch.none", laid_gaoler_fetch_none)] }
def TimeSliceMatchesBareGuestSaid : Prop := timeSliceMatchesBareGuestRow.holds Tryz.pinned (OpenSpec.ofChange timeSliceMatchesBareGuestSpec)

/-- ITS FALSE NEIGHBOUR: 'it returns false'. Refute it at one input. -/
def timeSliceMatchesBareGuestWrong : ChangeSpec := { name := "timeSliceMatchesBareGuest", fn := fun _ => fun
  | [d1, d2, d3, d4] => { results := [.lit (.bool false)], args := [d1, d2, d3, d4] }
  | _ => none }
def TimeSliceMatchesBareGuestWrongFalsely : Prop := timeSliceMatchesBareGuestRow.holds Tryz.pinned (OpenSpec.ofChange timeSliceMatchesBareGuestWrong)

/-- 'gaolerlaw23.TimeSliceNoninterference': WHATEVER THE INPUT: true; the input reads as it did. -/
def timeSliceNoninterferenceSpec : ChangeSpec := { name := "timeSliceNoninterference", fn := fun _ => fun
  | [d1, d2, d3, d4, d5, d6] => { results := [.lit (.bool true)], args := [d1, d2, d3, d4, d5, d6] }
  | _ => none }
def timeSliceNoninterferenceRow : OpenClaim := { program := "ytmbmahgaejcjiaagreatdoor", sum := "43679161134ececbf1347a9e2fbd404fd995a1cba0835b3140d5f94e09a2a591", func := "gaoler/gaolerlaw23.TimeSliceNoninterference", spec := "timeSliceNoninterference", unfollowed := true, recurses := true, named := ["gaoler/fetch.none", "gaoler/isa.parts", "gaoler/isa.forms"], apart := false, laid := [("gaoler/isa.forms", laid_gaoler_isa_forms), ("gaoler/isa.parts", laid_gaoler_isa_parts), ("gaoler/fetch.none", laid_gaoler_fetch_none)] }
def TimeSliceNoninterferenceSaid : Prop := timeSliceNoninterferenceRow.holds Tryz.pinned (OpenSpec.ofChange timeSliceNoninterferenceSpec)

/-- ITS FALSE NEIGHBOUR: 'it returns false'. Refute it at one input. -/
def timeSliceNoninterferenceWrong : ChangeSpec := { name := "timeSliceNoninterference", fn := fun _ => fun
  | [d1, d2, d3, d4, d5, d6] => { results := [.lit (.bool false)], args := [d1, d2, d3, d4, d5, d6] }
  | _ => none }
def TimeSliceNoninterferenceWrongFalsely : Prop := timeSliceNoninterferenceRow.holds Tryz.pinned (OpenSpec.ofChange timeSliceNoninterferenceWrong)

/-- 'gaolerlaw23.TimesliceQuantumOne': WHATEVER THE INPUT: true; the input reads as it did. -/
def timesliceQuantumOneSpec : ChangeSpec := { name := "timesliceQuantumOne", fn := fun _ => fun
  | [d1, d2, d3, d4] => { results := [.lit (.bool true)], args := [d1, d2, d3, d4] }
  | _ => none }
def timesliceQuantumOneRow : OpenClaim := { program := "ytmbmahgaejcjiaagreatdoor", sum := "43679161134ececbf1347a9e2fbd404fd995a1cba0835b3140d5f94e09a2a591", func := "gaoler/gaolerlaw23.TimesliceQuantumOne", spec := "timesliceQuantumOne", unfollowed := true, recurses := true, named := ["gaoler/fetch.none", "gaoler/isa.parts", "gaoler/isa.forms"], apart := false, laid := [("gaoler/isa.forms", laid_gaoler_isa_forms), ("gaoler/isa.parts", laid_gaoler_isa_parts), ("gaoler/fetch.none", laid_gaoler_fetch_none)] }
def TimesliceQuantumOneSaid : Prop := timesliceQuantumOneRow.holds Tryz.pinned (OpenSpec.ofChange timesliceQuantumOneSpec)

/-- ITS FALSE NEIGHBOUR: 'it returns false'. Refute it at one input. -/
def timesliceQuantumOneWrong : ChangeSpec := { name := "timesliceQuantumOne", fn := fun _ => fun
  | [d1, d2, d3, d4] => { results := [.lit (.bool false)], args := [d1, d2, d3, d4] }
  | _ => none }
def TimesliceQuantumOneWrongFalsely : Prop := timesliceQuantumOneRow.holds Tryz.pinned (OpenSpec.ofChange timesliceQuantumOneWrong)

/-- 'gaolerlaw23.TimeSlicesCompose': WHATEVER THE INPUT: true; the input reads as it did. -/
def timeSlicesComposeSpec : ChangeSpec := { name := "timeSlicesCompose", fn := fun _ => fun
  | [d1, d2, d3, d4, d5] => { results := [.lit (.bool true)], args := [d1, d2, d3, d4, d5] }
  | _ => none }
def timeSlicesComposeRow : OpenClaim := { program := "ytmbmahgaejcjiaagreatdoor", sum := "43679161134ececbf1347a9e2fbd404fd995a1cba0835b3140d5f94e09a2a591", func := "gaoler/gaolerlaw23.TimeSlicesCompose", spec := "timeSlicesCompose", unfollowed := true, recurses := true, named := ["gaoler/fetch.none", "gaoler/isa.parts", "gaoler/isa.forms"], apart := false, laid := [("gaoler/isa.forms", laid_gaoler_isa_forms), ("gaoler/isa.parts", laid_gaoler_isa_parts), ("gaoler/fetch.none", laid_gaoler_fetch_none)] }
def TimeSlicesComposeSaid : Prop := timeSlicesComposeRow.holds Tryz.pinned (OpenSpec.ofChange timeSlicesComposeSpec)

/-- ITS FALSE NEIGHBOUR: 'it returns false'. Refute it at one input. -/
def timeSlicesComposeWrong : ChangeSpec := { name := "timeSlicesCompose", fn := fun _ => fun
  | [d1, d2, d3, d4, d5] => { results := [.lit (.bool false)], args := [d1, d2, d3, d4, d5] }
  | _ => none }
def TimeSlicesComposeWrongFalsely : Prop := timeSlicesComposeRow.holds Tryz.pinned (OpenSpec.ofChange timeSlicesComposeWrong)

/-- 'gaolerlaw23.TimeSliceFrame': WHATEVER THE INPUT: true; the input reads as it did. -/
def timeSliceFrameSpec : ChangeSpec := { name := "timeSliceFrame", fn := fun _ => fun
  | [d1, d2, d3, d4] => { results := [.lit (.bool true)], args := [d1, d2, d3, d4] }
  | _ => none }
def timeSliceFrameRow : OpenClaim := { program := "ytmbmahgaejcjiaagreatdoor", sum := "43679161134ececbf1347a9e2fbd404fd995a1cba0835b3140d5f94e09a2a591", func := "gaoler/gaolerlaw23.TimeSliceFrame", spec := "timeSliceFrame", unfollowed := true, recurses := true, named := ["gaoler/fetch.none", "gaoler/isa.parts", "gaoler/isa.forms"], apart := false, laid := [("gaoler/isa.forms", laid_gaoler_isa_forms), ("gaoler/isa.parts", laid_gaoler_isa_parts), ("gaoler/fetch.none", laid_gaoler_fetch_none)] }
def TimeSliceFrameSaid : Prop := timeSliceFrameRow.holds Tryz.pinned (OpenSpec.ofChange timeSliceFrameSpec)

/-- ITS FALSE NEIGHBOUR: 'it returns false'. Refute it at one input. -/
def timeSliceFrameWrong : ChangeSpec := { name := "timeSliceFrame", fn := fun _ => fun
  | [d1, d2, d3, d4] => { results := [.lit (.bool false)], args := [d1, d2, d3, d4] }
  | _ => none }
def TimeSliceFrameWrongFalsely : Prop := timeSliceFrameRow.holds Tryz.pinned (OpenSpec.ofChange timeSliceFrameWrong)

/- THE SECOND FORM. 'bulk': how many values and letters a reading holds, each counted each time it is reached (what is shared counts as often as it is met; a slice's spare places count too). A statement '..UptoSaid' is the law's where the arguments, and the package variables that the reading takes, are together of bulk at most 1048576: NARROWER than '..Said'. Prove '..Said' where nothing that the law and all that it calls make is longer than what came in: it says more and counts as full. Else prove '..UptoSaid'. A law counts once. -/
mutual
def uptoBulk {H : Type} : DataW H → Nat
  | .lit (.string bytes) => bytes.length + 1
  | .lit _ => 1
  | .nil => 1
  | .ptr d => uptoBulk d + 1
  | .slice elems spare => uptoBulkAll elems + uptoBulkAll spare + 1
  | .agg parts => uptoBulkAll parts + 1
  | .iface _ d => uptoBulk d + 1
  | .map entries => uptoBulkEntries entries + 1
  | .held _ => 1
def uptoBulkAll {H : Type} : List (DataW H) → Nat
  | [] => 0
  | d :: r => uptoBulk d + uptoBulkAll r
def uptoBulkEntries {H : Type} : List (Lit × DataW H) → Nat
  | [] => 0
  | x :: r => uptoBulkEntry x + uptoBulkEntries r
def uptoBulkEntry {H : Type} : Lit × DataW H → Nat
  | (.string bytes, d) => bytes.length + uptoBulk d + 1
  | (_, d) => uptoBulk d + 1
 end
def uptoSmall : (H : Type) → List (DataW H) → Bool := fun _ ds => decide (uptoBulkAll ds ≤ 1048576)
def OpenSpec.upto (s : _root_.Go.ChangeSpec) : _root_.Go.OpenSpec := { _root_.Go.OpenSpec.ofChange s with cond := some uptoSmall }

/-- 'gaolerlaw23.TimeSliceMatchesReference', WHERE WHAT IT READS IS OF BULK AT MOST 1048576: true; the input reads as it did. -/
def timeSliceMatchesReferenceUptoRow : OpenClaim := { program := "ytmbmahgaejcjiaagreatdoor", sum := "43679161134ececbf1347a9e2fbd404fd995a1cba0835b3140d5f94e09a2a591", func := "gaoler/gaolerlaw23.TimeSliceMatchesReference", spec := "timeSliceMatchesReference", unfollowed := true, recurses := true, named := ["gaoler/fetch.none", "gaoler/isa.parts", "gaoler/isa.forms"], apart := false, laid := [("gaoler/isa.forms", laid_gaoler_isa_forms), ("gaoler/isa.parts", laid_gaoler_isa_parts), ("gaoler/fetch.none", laid_gaoler_fetch_none)], narrowed := true }
def TimeSliceMatchesReferenceUptoSaid : Prop := timeSliceMatchesReferenceUptoRow.holds Tryz.pinned (OpenSpec.upto timeSliceMatchesReferenceSpec)

/-- 'gaolerlaw23.TimeSliceMatchesBareGuest', WHERE WHAT IT READS IS OF BULK AT MOST 1048576: true; the input reads as it did. -/
def timeSliceMatchesBareGuestUptoRow : OpenClaim := { program := "ytmbmahgaejcjiaagreatdoor", sum := "43679161134ececbf1347a9e2fbd404fd995a1cba0835b3140d5f94e09a2a591", func := "gaoler/gaolerlaw23.TimeSliceMatchesBareGuest", spec := "timeSliceMatchesBareGuest", unfollowed := true, recurses := true, named := ["gaoler/fetch.none", "gaoler/isa.parts", "gaoler/isa.forms"], apart := false, laid := [("gaoler/isa.forms", laid_gaoler_isa_forms), ("gaoler/isa.parts", laid_gaoler_isa_parts), ("gaoler/fetch.none", laid_gaoler_fetch_none)], narrowed := true }
def TimeSliceMatchesBareGuestUptoSaid : Prop := timeSliceMatchesBareGuestUptoRow.holds Tryz.pinned (OpenSpec.upto timeSliceMatchesBareGuestSpec)

/-- 'gaolerlaw23.TimeSliceNoninterference', WHERE WHAT IT READS IS OF BULK AT MOST 1048576: true; the input reads as it did. -/
def timeSliceNoninterferenceUptoRow : OpenClaim := { program := "ytmbmahgaejcjiaagreatdoor", sum := "43679161134ececbf1347a9e2fbd404fd995a1cba0835b3140d5f94e09a2a591", func := "gaoler/gaolerlaw23.TimeSliceNoninterference", spec := "timeSliceNoninterference", unfollowed := true, recurses := true, named := ["gaoler/fetch.none", "gaoler/isa.parts", "gaoler/isa.forms"], apart := false, laid := [("gaoler/isa.forms", laid_gaoler_isa_forms), ("gaoler/isa.parts", laid_gaoler_isa_parts), ("gaoler/fetch.none", laid_gaoler_fetch_none)], narrowed := true }
def TimeSliceNoninterferenceUptoSaid : Prop := timeSliceNoninterferenceUptoRow.holds Tryz.pinned (OpenSpec.upto timeSliceNoninterferenceSpec)

/-- 'gaolerlaw23.TimesliceQuantumOne', WHERE WHAT IT READS IS OF BULK AT MOST 1048576: true; the input reads as it did. -/
def timesliceQuantumOneUptoRow : OpenClaim := { program := "ytmbmahgaejcjiaagreatdoor", sum := "43679161134ececbf1347a9e2fbd404fd995a1cba0835b3140d5f94e09a2a591", func := "gaoler/gaolerlaw23.TimesliceQuantumOne", spec := "timesliceQuantumOne", unfollowed := true, recurses := true, named := ["gaoler/fetch.none", "gaoler/isa.parts", "gaoler/isa.forms"], apart := false, laid := [("gaoler/isa.forms", laid_gaoler_isa_forms), ("gaoler/isa.parts", laid_gaoler_isa_parts), ("gaoler/fetch.none", laid_gaoler_fetch_none)], narrowed := true }
def TimesliceQuantumOneUptoSaid : Prop := timesliceQuantumOneUptoRow.holds Tryz.pinned (OpenSpec.upto timesliceQuantumOneSpec)

/-- 'gaolerlaw23.TimeSlicesCompose', WHERE WHAT IT READS IS OF BULK AT MOST 1048576: true; the input reads as it did. -/
def timeSlicesComposeUptoRow : OpenClaim := { program := "ytmbmahgaejcjiaagreatdoor", sum := "43679161134ececbf1347a9e2fbd404fd995a1cba0835b3140d5f94e09a2a591", func := "gaoler/gaolerlaw23.TimeSlicesCompose", spec := "timeSlicesCompose", unfollowed := true, recurses := true, named := ["gaoler/fetch.none", "gaoler/isa.parts", "gaoler/isa.forms"], apart := false, laid := [("gaoler/isa.forms", laid_gaoler_isa_forms), ("gaoler/isa.parts", laid_gaoler_isa_parts), ("gaoler/fetch.none", laid_gaoler_fetch_none)], narrowed := true }
def TimeSlicesComposeUptoSaid : Prop := timeSlicesComposeUptoRow.holds Tryz.pinned (OpenSpec.upto timeSlicesComposeSpec)

/-- 'gaolerlaw23.TimeSliceFrame', WHERE WHAT IT READS IS OF BULK AT MOST 1048576: true; the input reads as it did. -/
def timeSliceFrameUptoRow : OpenClaim := { program := "ytmbmahgaejcjiaagreatdoor", sum := "43679161134ececbf1347a9e2fbd404fd995a1cba0835b3140d5f94e09a2a591", func := "gaoler/gaolerlaw23.TimeSliceFrame", spec := "timeSliceFrame", unfollowed := true, recurses := true, named := ["gaoler/fetch.none", "gaoler/isa.parts", "gaoler/isa.forms"], apart := false, laid := [("gaoler/isa.forms", laid_gaoler_isa_forms), ("gaoler/isa.parts", laid_gaoler_isa_parts), ("gaoler/fetch.none", laid_gaoler_fetch_none)], narrowed := true }
def TimeSliceFrameUptoSaid : Prop := timeSliceFrameUptoRow.holds Tryz.pinned (OpenSpec.upto timeSliceFrameSpec)

end Rows
end Go.Proofs.YtmbmahgaejcjiaaGreatDoor
