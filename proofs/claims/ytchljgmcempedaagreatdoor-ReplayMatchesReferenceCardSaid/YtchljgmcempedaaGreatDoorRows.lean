/-
  NARROWER THAN 'FOR EVERY INPUT', by the rows' own cells (each row's printed sentence says how): RunMatchesReference: laid · ReplayMatchesReference: laid · ReplayPrefixes: laid · ReplayWithoutEvents: laid.
  DERIVED. THE GIVEN ROWS OF THIS SEAT. 4 by the template 'for every input the law returns true; each argument reads behind the call as it read before'; 0 by the template 'total and deterministic' (their statements: YtchljgmcempedaaGreatDoorTotals.lean).
  GIVEN WITH THE SEED: the statements are not yours to turn. If you find one false, say at which input.
  Laid BY PROGRAM, IN A SANDBOX (cutbox-rows.mjs): the forced cells as the released guide's own fill.sh prints them over the translation 00f6de9a225ddbd5… (all of the seat's roots in one cut). By AI agents, Wed Nov 11 2026. No macro, syntax, notation, axiom, sorry.
-/
import Derived.Test.YtchljgmcempedaaGreatDoorChecked
import GoSem.Claim
import GoSem.ClaimJoined
import GoSem.ClaimMapViews
import Derived.JoinedTies
import Derived.KernelRfl
namespace Go.Proofs.YtchljgmcempedaaGreatDoor
/- THE CELL 'sum', in the pinned program and in every row, IS THE sha256 OF THE DUMP (.gsa) THAT YtchljgmcempedaaGreatDoorProg.lean LOADS. Nothing in Lean hashes anything: it is a label: what it is worth is what the hold of that sum in a sandbox is worth. -/
noncomputable def Tryz.pinned : Pinned := { name := "ytchljgmcempedaagreatdoor", sum := "00f6de9a225ddbd531181b004b3f7d922e2ff6690c613552ddf1be47e694efc7", checked := Tryz.checked }
namespace Rows
def none {H : Type} : Left H := { results := [], args := [] }

/- WHAT THE LISTED PACKAGE-LEVEL VARIABLES READ AS WHEN THE CALL BEGINS. Each datum BY PROGRAM (the guide's laid-datum.mjs) off the statement by which the dump's own 'gosem.cut.vars' lays the variable. In a bare row this is a premise. The card (YtchljgmcempedaaGreatDoorCards.lean) ties it to the program's text. -/
def laid_gaoler_isa_forms {H : Type} : DataW H := .agg [.lit (.int .i64 0), .lit (.int .i64 1), .lit (.int .i64 1), .lit (.int .i64 1), .lit (.int .i64 1), .lit (.int .i64 1), .lit (.int .i64 1), .lit (.int .i64 1), .lit (.int .i64 1), .lit (.int .i64 2), .lit (.int .i64 3), .lit (.int .i64 2), .lit (.int .i64 2), .lit (.int .i64 2), .lit (.int .i64 2), .lit (.int .i64 2), .lit (.int .i64 2), .lit (.int .i64 2), .lit (.int .i64 3), .lit (.int .i64 2), .lit (.int .i64 4), .lit (.int .i64 5), .lit (.int .i64 6), .lit (.int .i64 4), .lit (.int .i64 4), .lit (.int .i64 7)]
def laid_gaoler_isa_parts {H : Type} : DataW H := .agg [.agg [.lit (.bool false), .lit (.bool false), .lit (.bool false), .lit (.bool false), .lit (.bool false)], .agg [.lit (.bool true), .lit (.bool true), .lit (.bool true), .lit (.bool false), .lit (.bool false)], .agg [.lit (.bool true), .lit (.bool true), .lit (.bool false), .lit (.bool true), .lit (.bool false)], .agg [.lit (.bool true), .lit (.bool false), .lit (.bool false), .lit (.bool true), .lit (.bool false)], .agg [.lit (.bool false), .lit (.bool false), .lit (.bool false), .lit (.bool false), .lit (.bool false)], .agg [.lit (.bool true), .lit (.bool false), .lit (.bool false), .lit (.bool false), .lit (.bool true)], .agg [.lit (.bool false), .lit (.bool true), .lit (.bool false), .lit (.bool false), .lit (.bool true)], .agg [.lit (.bool false), .lit (.bool true), .lit (.bool false), .lit (.bool false), .lit (.bool false)]]
def laid_gaoler_fetch_none {H : Type} : DataW H := .agg [.lit (.int .i64 0), .lit (.int .u32 0)]

/-- 'gaolerlaw14.RunMatchesReference': WHATEVER THE INPUT: true; the input reads as it did. -/
def runMatchesReferenceSpec : ChangeSpec := { name := "runMatchesReference", fn := fun _ => fun
  | [d1, d2, d3] => { results := [.lit (.bool true)], args := [d1, d2, d3] }
  | _ => none }
def runMatchesReferenceRow : OpenClaim := { program := "ytchljgmcempedaagreatdoor", sum := "00f6de9a225ddbd531181b004b3f7d922e2ff6690c613552ddf1be47e694efc7", func := "gaoler/gaolerlaw14.RunMatchesReference", spec := "runMatchesReference", unfollowed := true, recurses := true, named := ["gaoler/fetch.none", "gaoler/isa.parts", "gaoler/isa.forms"], apart := false, laid := [("gaoler/isa.forms", laid_gaoler_isa_forms), ("gaoler/isa.parts", laid_gaoler_isa_parts), ("gaoler/fetch.none", laid_gaoler_fetch_none)] }
def RunMatchesReferenceSaid : Prop := runMatchesReferenceRow.holds Tryz.pinned (OpenSpec.ofChange runMatchesReferenceSpec)

/-- ITS FALSE NEIGHBOUR: 'it returns false'. Refute it at one input. -/
def runMatchesReferenceWrong : ChangeSpec := { name := "runMatchesReference", fn := fun _ => fun
  | [d1, d2, d3] => { results := [.lit (.bool false)], args := [d1, d2, d3] }
  | _ => none }
def RunMatchesReferenceWrongFalsely : Prop := runMatchesReferenceRow.holds Tryz.pinned (OpenSpec.ofChange runMatchesReferenceWrong)

/-- 'gaolerlaw26.ReplayMatchesReference': WHATEVER THE INPUT: true; the input reads as it did. -/
def replayMatchesReferenceSpec : ChangeSpec := { name := "replayMatchesReference", fn := fun _ => fun
  | [d1, d2, d3] => { results := [.lit (.bool true)], args := [d1, d2, d3] }
  | _ => none }
def replayMatchesReferenceRow : OpenClaim := { program := "ytchljgmcempedaagreatdoor", sum := "00f6de9a225ddbd531181b004b3f7d922e2ff6690c613552ddf1be47e694efc7", func := "gaoler/gaolerlaw26.ReplayMatchesReference", spec := "replayMatchesReference", unfollowed := true, recurses := true, named := ["gaoler/fetch.none", "gaoler/isa.parts", "gaoler/isa.forms"], apart := false, laid := [("gaoler/isa.forms", laid_gaoler_isa_forms), ("gaoler/isa.parts", laid_gaoler_isa_parts), ("gaoler/fetch.none", laid_gaoler_fetch_none)] }
def ReplayMatchesReferenceSaid : Prop := replayMatchesReferenceRow.holds Tryz.pinned (OpenSpec.ofChange replayMatchesReferenceSpec)

/-- ITS FALSE NEIGHBOUR: 'it returns false'. Refute it at one input. -/
def replayMatchesReferenceWrong : ChangeSpec := { name := "replayMatchesReference", fn := fun _ => fun
  | [d1, d2, d3] => { results := [.lit (.bool false)], args := [d1, d2, d3] }
  | _ => none }
def ReplayMatchesReferenceWrongFalsely : Prop := replayMatchesReferenceRow.holds Tryz.pinned (OpenSpec.ofChange replayMatchesReferenceWrong)

/-- 'gaolerlaw26.ReplayPrefixes': WHATEVER THE INPUT: true; the input reads as it did. -/
def replayPrefixesSpec : ChangeSpec := { name := "replayPrefixes", fn := fun _ => fun
  | [d1, d2, d3, d4] => { results := [.lit (.bool true)], args := [d1, d2, d3, d4] }
  | _ => none }
def replayPrefixesRow : OpenClaim := { program := "ytchljgmcempedaagreatdoor", sum := "00f6de9a225ddbd531181b004b3f7d922e2ff6690c613552ddf1be47e694efc7", func := "gaoler/gaolerlaw26.ReplayPrefixes", spec := "replayPrefixes", unfollowed := true, recurses := true, named := ["gaoler/fetch.none", "gaoler/isa.parts", "gaoler/isa.forms"], apart := false, laid := [("gaoler/isa.forms", laid_gaoler_isa_forms), ("gaoler/isa.parts", laid_gaoler_isa_parts), ("gaoler/fetch.none", laid_gaoler_fetch_none)] }
def ReplayPrefixesSaid : Prop := replayPrefixesRow.holds Tryz.pinned (OpenSpec.ofChange replayPrefixesSpec)

/-- ITS FALSE NEIGHBOUR: 'it returns false'. Refute it at one input. -/
def replayPrefixesWrong : ChangeSpec := { name := "replayPrefixes", fn := fun _ => fun
  | [d1, d2, d3, d4] => { results := [.lit (.bool false)], args := [d1, d2, d3, d4] }
  | _ => none }
def ReplayPrefixesWrongFalsely : Prop := replayPrefixesRow.holds Tryz.pinned (OpenSpec.ofChange replayPrefixesWrong)

/-- 'gaolerlaw26.ReplayWithoutEvents': WHATEVER THE INPUT: true; the input reads as it did. -/
def replayWithoutEventsSpec : ChangeSpec := { name := "replayWithoutEvents", fn := fun _ => fun
  | [d1, d2] => { results := [.lit (.bool true)], args := [d1, d2] }
  | _ => none }
def replayWithoutEventsRow : OpenClaim := { program := "ytchljgmcempedaagreatdoor", sum := "00f6de9a225ddbd531181b004b3f7d922e2ff6690c613552ddf1be47e694efc7", func := "gaoler/gaolerlaw26.ReplayWithoutEvents", spec := "replayWithoutEvents", unfollowed := true, recurses := true, named := ["gaoler/fetch.none", "gaoler/isa.parts", "gaoler/isa.forms"], apart := false, laid := [("gaoler/isa.forms", laid_gaoler_isa_forms), ("gaoler/isa.parts", laid_gaoler_isa_parts), ("gaoler/fetch.none", laid_gaoler_fetch_none)] }
def ReplayWithoutEventsSaid : Prop := replayWithoutEventsRow.holds Tryz.pinned (OpenSpec.ofChange replayWithoutEventsSpec)

/-- ITS FALSE NEIGHBOUR: 'it returns false'. Refute it at one input. -/
def replayWithoutEventsWrong : ChangeSpec := { name := "replayWithoutEvents", fn := fun _ => fun
  | [d1, d2] => { results := [.lit (.bool false)], args := [d1, d2] }
  | _ => none }
def ReplayWithoutEventsWrongFalsely : Prop := replayWithoutEventsRow.holds Tryz.pinned (OpenSpec.ofChange replayWithoutEventsWrong)

/- THE SECOND FORM. 'bulk': how many values and letters a reading holds, each counted each time it is reached (what is shared counts as often as it is met; a slice's spare places count too). A statement '..UptoSaid' is the law's where the arguments, and the package variables that the reading takes, are together of bulk at most 1048576: NARROWER than '..Said'. Prove '..Said' where nothing that the law and all that it calls make is longer than what came in: it says more and counts as full. Else prove '..UptoSaid'. A law counts once. -/
mutual
def uptoBulk {H : Type} : DataW H → Nat
  | .lit (.string bytes) => bytes.length + 1
  | .lit _ => 1
  | .nil => 1
  | .ptr d => uptoBulk d + 1
  | .slice elems spare => uptoBulkAll elems + uptoBulkAll spare + 1
  | .agg parts => uptoBulkAll parts + 1
  | .iface _ d => uptoBulk d + 1
  | .map entries => uptoBulkEntries entries + 1
  | .held _ => 1
def uptoBulkAll {H : Type} : List (DataW H) → Nat
  | [] => 0
  | d :: r => uptoBulk d + uptoBulkAll r
def uptoBulkEntries {H : Type} : List (Lit × DataW H) → Nat
  | [] => 0
  | x :: r => uptoBulkEntry x + uptoBulkEntries r
def uptoBulkEntry {H : Type} : Lit × DataW H → Nat
  | (.string bytes, d) => bytes.length + uptoBulk d + 1
  | (_, d) => uptoBulk d + 1
 end
def uptoSmall : (H : Type) → List (DataW H) → Bool := fun _ ds => decide (uptoBulkAll ds ≤ 1048576)
def OpenSpec.upto (s : _root_.Go.ChangeSpec) : _root_.Go.OpenSpec := { _root_.Go.OpenSpec.ofChange s with cond := some uptoSmall }

/-- 'gaolerlaw14.RunMatchesReference', WHERE WHAT IT READS IS OF BULK AT MOST 1048576: true; the input reads as it did. -/
def runMatchesReferenceUptoRow : OpenClaim := { program := "ytchljgmcempedaagreatdoor", sum := "00f6de9a225ddbd531181b004b3f7d922e2ff6690c613552ddf1be47e694efc7", func := "gaoler/gaolerlaw14.RunMatchesReference", spec := "runMatchesReference", unfollowed := true, recurses := true, named := ["gaoler/fetch.none", "gaoler/isa.parts", "gaoler/isa.forms"], apart := false, laid := [("gaoler/isa.forms", laid_gaoler_isa_forms), ("gaoler/isa.parts", laid_gaoler_isa_parts), ("gaoler/fetch.none", laid_gaoler_fetch_none)], narrowed := true }
def RunMatchesReferenceUptoSaid : Prop := runMatchesReferenceUptoRow.holds Tryz.pinned (OpenSpec.upto runMatchesReferenceSpec)

/-- 'gaolerlaw26.ReplayMatchesReference', WHERE WHAT IT READS IS OF BULK AT MOST 1048576: true; the input reads as it did. -/
def replayMatchesReferenceUptoRow : OpenClaim := { program := "ytchljgmcempedaagreatdoor", sum := "00f6de9a225ddbd531181b004b3f7d922e2ff6690c613552ddf1be47e694efc7", func := "gaoler/gaolerlaw26.ReplayMatchesReference", spec := "replayMatchesReference", unfollowed := true, recurses := true, named := ["gaoler/fetch.none", "gaoler/isa.parts", "gaoler/isa.forms"], apart := false, laid := [("gaoler/isa.forms", laid_gaoler_isa_forms), ("gaoler/isa.parts", laid_gaoler_isa_parts), ("gaoler/fetch.none", laid_gaoler_fetch_none)], narrowed := true }
def ReplayMatchesReferenceUptoSaid : Prop := replayMatchesReferenceUptoRow.holds Tryz.pinned (OpenSpec.upto replayMatchesReferenceSpec)

/-- 'gaolerlaw26.ReplayPrefixes', WHERE WHAT IT READS IS OF BULK AT MOST 1048576: true; the input reads as it did. -/
def replayPrefixesUptoRow : OpenClaim := { program := "ytchljgmcempedaagreatdoor", sum := "00f6de9a225ddbd531181b004b3f7d922e2ff6690c613552ddf1be47e694efc7", func := "gaoler/gaolerlaw26.ReplayPrefixes", spec := "replayPrefixes", unfollowed := true, recurses := true, named := ["gaoler/fetch.none", "gaoler/isa.parts", "gaoler/isa.forms"], apart := false, laid := [("gaoler/isa.forms", laid_gaoler_isa_forms), ("gaoler/isa.parts", laid_gaoler_isa_parts), ("gaoler/fetch.none", laid_gaoler_fetch_none)], narrowed := true }
def ReplayPrefixesUptoSaid : Prop := replayPrefixesUptoRow.holds Tryz.pinned (OpenSpec.upto replayPrefixesSpec)

/-- 'gaolerlaw26.ReplayWithoutEvents', WHERE WHAT IT READS IS OF BULK AT MOST 1048576: true; the input reads as it did. -/
def replayWithoutEventsUptoRow : OpenClaim := { program := "ytchljgmcempedaagreatdoor", sum := "00f6de9a225ddbd531181b004b3f7d922e2ff6690c613552ddf1be47e694efc7", func := "gaoler/gaolerlaw26.ReplayWithoutEvents", spec := "replayWithoutEvents", unfollowed := true, recurses := true, named := ["gaoler/fetch.none", "gaoler/isa.parts", "gaoler/isa.forms"], apart := false, laid := [("gaoler/isa.forms", laid_gaoler_isa_forms), ("gaoler/isa.parts", laid_gaoler_isa_parts), ("gaoler/fetch.none", laid_gaoler_fetch_none)], narrowed := true }
def ReplayWithoutEventsUptoSaid : Prop := replayWithoutEventsUptoRow.holds Tryz.pinned (OpenSpec.upto replayWithoutEventsSpec)

end Rows
end Go.Proofs.YtchljgmcempedaaGreatDoor
