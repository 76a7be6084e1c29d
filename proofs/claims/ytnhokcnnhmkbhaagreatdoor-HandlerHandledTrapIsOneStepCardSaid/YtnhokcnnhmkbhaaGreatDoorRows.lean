/-
  NARROWER THAN 'FOR EVERY INPUT', by the rows' own cells (each row's printed sentence says how): HandlerHandledTrapIsOneStep: laid.
  DERIVED. THE GIVEN ROWS OF THIS SEAT. 1 by the template 'for every input the law returns true; each argument reads behind the call as it read before'; 0 by the template 'total and deterministic' (their statements: YtnhokcnnhmkbhaaGreatDoorTotals.lean).
  GIVEN WITH THE SEED: the statements are not yours to turn. If you find one false, say at which input.
  Laid BY PROGRAM, IN A SANDBOX (cutbox-rows.mjs): the forced cells as the released guide's own fill.sh prints them over the translation 15693d70176ebe62… (all of the seat's roots in one cut). By AI agents, Wed Nov 11 2026. No macro, syntax, notation, axiom, sorry.
-/
import Derived.Test.YtnhokcnnhmkbhaaGreatDoorChecked
import GoSem.Claim
import GoSem.ClaimJoined
import GoSem.ClaimMapViews
import Derived.JoinedTies
import Derived.KernelRfl
namespace Go.Proofs.YtnhokcnnhmkbhaaGreatDoor
/- THE CELL 'sum', in the pinned program and in every row, IS THE sha256 OF THE DUMP (.gsa) THAT YtnhokcnnhmkbhaaGreatDoorProg.lean LOADS. Nothing in Lean hashes anything: it is a label: what it is worth is what the hold of that sum in a sandbox is worth. -/
noncomputable def Tryz.pinned : Pinned := { name := "ytnhokcnnhmkbhaagreatdoor", sum := "15693d70176ebe62ef36bcd4c871e5637b34165eed81b1d50a5ff3bd5ae2b6cb", checked := Tryz.checked }
namespace Rows
def none {H : Type} : Left H := { results := [], args := [] }

/- WHAT THE LISTED PACKAGE-LEVEL VARIABLES READ AS WHEN THE CALL BEGINS. Each datum BY PROGRAM (the guide's laid-datum.mjs) off the statement by which the dump's own 'gosem.cut.vars' lays the variable. In a bare row this is a premise. The card (YtnhokcnnhmkbhaaGreatDoorCards.lean) ties it to the program's text. -/
def laid_gaoler_isa_forms {H : Type} : DataW H := .agg [.lit (.int .i64 0), .lit (.int .i64 1), .lit (.int .i64 1), .lit (.int .i64 1), .lit (.int .i64 1), .lit (.int .i64 1), .lit (.int .i64 1), .lit (.int .i64 1), .lit (.int .i64 1), .lit (.int .i64 2), .lit (.int .i64 3), .lit (.int .i64 2), .lit (.int .i64 2), .lit (.int .i64 2), .lit (.int .i64 2), .lit (.int .i64 2), .lit (.int .i64 2), .lit (.int .i64 2), .lit (.int .i64 3), .lit (.int .i64 2), .lit (.int .i64 4), .lit (.int .i64 5), .lit (.int .i64 6), .lit (.int .i64 4), .lit (.int .i64 4), .lit (.int .i64 7)]
def laid_gaoler_isa_parts {H : Type} : DataW H := .agg [.agg [.lit (.bool false), .lit (.bool false), .lit (.bool false), .lit (.bool false), .lit (.bool false)], .agg [.lit (.bool true), .lit (.bool true), .lit (.bool true), .lit (.bool false), .lit (.bool false)], .agg [.lit (.bool true), .lit (.bool true), .lit (.bool false), .lit (.bool true), .lit (.bool false)], .agg [.lit (.bool true), .lit (.bool false), .lit (.bool false), .lit (.bool true), .lit (.bool false)], .agg [.lit (.bool false), .lit (.bool false), .lit (.bool false), .lit (.bool false), .lit (.bool false)], .agg [.lit (.bool true), .lit (.bool false), .lit (.bool false), .lit (.bool false), .lit (.bool true)], .agg [.lit (.bool false), .lit (.bool true), .lit (.bool false), .lit (.bool false), .lit (.bool true)], .agg [.lit (.bool false), .lit (.bool true), .lit (.bool false), .lit (.bool false), .lit (.bool false)]]
def laid_gaoler_fetch_none {H : Type} : DataW H := .agg [.lit (.int .i64 0), .lit (.int .u32 0)]

/-- 'gaolerlaw21.HandlerHandledTrapIsOneStep': WHATEVER THE INPUT: true; the input reads as it did. -/
def handlerHandledTrapIsOneStepSpec : ChangeSpec := { name := "handlerHandledTrapIsOneStep", fn := fun _ => fun
  | [d1, d2, d3] => { results := [.lit (.bool true)], args := [d1, d2, d3] }
  | _ => none }
def handlerHandledTrapIsOneStepRow : OpenClaim := { program := "ytnhokcnnhmkbhaagreatdoor", sum := "15693d70176ebe62ef36bcd4c871e5637b34165eed81b1d50a5ff3bd5ae2b6cb", func := "gaoler/gaolerlaw21.HandlerHandledTrapIsOneStep", spec := "handlerHandledTrapIsOneStep", unfollowed := true, recurses := true, named := ["gaoler/isa.parts", "gaoler/isa.forms", "gaoler/fetch.none"], apart := false, laid := [("gaoler/isa.forms", laid_gaoler_isa_forms), ("gaoler/isa.parts", laid_gaoler_isa_parts), ("gaoler/fetch.none", laid_gaoler_fetch_none)] }
def HandlerHandledTrapIsOneStepSaid : Prop := handlerHandledTrapIsOneStepRow.holds Tryz.pinned (OpenSpec.ofChange handlerHandledTrapIsOneStepSpec)

/-- ITS FALSE NEIGHBOUR: 'it returns false'. Refute it at one input. -/
def handlerHandledTrapIsOneStepWrong : ChangeSpec := { name := "handlerHandledTrapIsOneStep", fn := fun _ => fun
  | [d1, d2, d3] => { results := [.lit (.bool false)], args := [d1, d2, d3] }
  | _ => none }
def HandlerHandledTrapIsOneStepWrongFalsely : Prop := handlerHandledTrapIsOneStepRow.holds Tryz.pinned (OpenSpec.ofChange handlerHandledTrapIsOneStepWrong)

/- THE SECOND FORM. 'bulk': how many values and letters a reading holds, each counted each time it is reached (what is shared counts as often as it is met; a slice's spare places count too). A statement '..UptoSaid' is the law's where the arguments, and the package variables that the reading takes, are together of bulk at most 1048576: NARROWER than '..Said'. Prove '..Said' where nothing that the law and all that it calls make is longer than what came in: it says more and counts as full. Else prove '..UptoSaid'. A law counts once. -/
mutual
def uptoBulk {H : Type} : DataW H → Nat
  | .lit (.string bytes) => bytes.length + 1
  | .lit _ => 1
  | .nil => 1
  | .ptr d => uptoBulk d + 1
  | .slice elems spare => uptoBulkAll elems + uptoBulkAll spare + 1
  | .agg parts => uptoBulkAll parts + 1
  | .iface _ d => uptoBulk d + 1
  | .map entries => uptoBulkEntries entries + 1
  | .held _ => 1
def uptoBulkAll {H : Type} : List (DataW H) → Nat
  | [] => 0
  | d :: r => uptoBulk d + uptoBulkAll r
def uptoBulkEntries {H : Type} : List (Lit × DataW H) → Nat
  | [] => 0
  | x :: r => uptoBulkEntry x + uptoBulkEntries r
def uptoBulkEntry {H : Type} : Lit × DataW H → Nat
  | (.string bytes, d) => bytes.length + uptoBulk d + 1
  | (_, d) => uptoBulk d + 1
 end
def uptoSmall : (H : Type) → List (DataW H) → Bool := fun _ ds => decide (uptoBulkAll ds ≤ 1048576)
def OpenSpec.upto (s : _root_.Go.ChangeSpec) : _root_.Go.OpenSpec := { _root_.Go.OpenSpec.ofChange s with cond := some uptoSmall }

/-- 'gaolerlaw21.HandlerHandledTrapIsOneStep', WHERE WHAT IT READS IS OF BULK AT MOST 1048576: true; the input reads as it did. -/
def handlerHandledTrapIsOneStepUptoRow : OpenClaim := { program := "ytnhokcnnhmkbhaagreatdoor", sum := "15693d70176ebe62ef36bcd4c871e5637b34165eed81b1d50a5ff3bd5ae2b6cb", func := "gaoler/gaolerlaw21.HandlerHandledTrapIsOneStep", spec := "handlerHandledTrapIsOneStep", unfollowed := true, recurses := true, named := ["gaoler/isa.parts", "gaoler/isa.forms", "gaoler/fetch.none"], apart := false, laid := [("gaoler/isa.forms", laid_gaoler_isa_forms), ("gaoler/isa.parts", laid_gaoler_isa_parts), ("gaoler/fetch.none", laid_gaoler_fetch_none)], narrowed := true }
def HandlerHandledTrapIsOneStepUptoSaid : Prop := handlerHandledTrapIsOneStepUptoRow.holds Tryz.pinned (OpenSpec.upto handlerHandledTrapIsOneStepSpec)

end Rows
end Go.Proofs.YtnhokcnnhmkbhaaGreatDoor
