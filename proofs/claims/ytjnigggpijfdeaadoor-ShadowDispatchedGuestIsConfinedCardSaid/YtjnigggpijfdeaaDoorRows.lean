/-
  NARROWER THAN 'FOR EVERY INPUT', by the rows' own cells (each row's printed sentence says how): StepFrame: laid · StepTrapPriority: laid · StepUserModeConfinement: laid · StepTimerHasPriority: laid · StepModeNeverRises: laid · VtrapReflectionMatchesTrap: laid · ShadowDispatchedGuestIsConfined: laid.
  DERIVED. THE GIVEN ROWS OF THIS SEAT. 7 by the template 'for every input the law returns true; each argument reads behind the call as it read before'; 0 by the template 'total and deterministic' (their statements: YtjnigggpijfdeaaDoorTotals.lean).
  GIVEN WITH THE SEED: the statements are not yours to turn. If you find one false, say at which input.
  Laid BY PROGRAM, IN A SANDBOX (cutbox-rows.mjs): the forced cells as the released guide's own fill.sh prints them over the translation 49a277380751cb6d… (all of the seat's roots in one cut). By AI agents, Wed Nov 11 2026. No macro, syntax, notation, axiom, sorry.
-/
import Derived.Test.YtjnigggpijfdeaaDoorChecked
import GoSem.Claim
import GoSem.ClaimJoined
import GoSem.ClaimMapViews
import Derived.JoinedTies
import Derived.KernelRfl
namespace Go.Proofs.YtjnigggpijfdeaaDoor
/- THE CELL 'sum', in the pinned program and in every row, IS THE sha256 OF THE DUMP (.gsa) THAT YtjnigggpijfdeaaDoorProg.lean LOADS. Nothing in Lean hashes anything: it is a label: what it is worth is what the hold of that sum in a sandbox is worth. -/
noncomputable def Tryd.pinned : Pinned := { name := "ytjnigggpijfdeaadoor", sum := "49a277380751cb6d47a55aee5988ac82dc63785d7755f927dd8b64c27e166b9a", checked := Tryd.checked }
namespace Rows
def none {H : Type} : Left H := { results := [], args := [] }

/- WHAT THE LISTED PACKAGE-LEVEL VARIABLES READ AS WHEN THE CALL BEGINS. Each datum BY PROGRAM (the guide's laid-datum.mjs) off the statement by which the dump's own 'gosem.cut.vars' lays the variable. In a bare row this is a premise. The card (YtjnigggpijfdeaaDoorCards.lean) ties it to the program's text. -/
def laid_gaoler_isa_forms {H : Type} : DataW H := .agg [.lit (.int .i64 0), .lit (.int .i64 1), .lit (.int .i64 1), .lit (.int .i64 1), .lit (.int .i64 1), .lit (.int .i64 1), .lit (.int .i64 1), .lit (.int .i64 1), .lit (.int .i64 1), .lit (.int .i64 2), .lit (.int .i64 3), .lit (.int .i64 2), .lit (.int .i64 2), .lit (.int .i64 2), .lit (.int .i64 2), .lit (.int .i64 2), .lit (.int .i64 2), .lit (.int .i64 2), .lit (.int .i64 3), .lit (.int .i64 2), .lit (.int .i64 4), .lit (.int .i64 5), .lit (.int .i64 6), .lit (.int .i64 4), .lit (.int .i64 4), .lit (.int .i64 7)]
def laid_gaoler_isa_parts {H : Type} : DataW H := .agg [.agg [.lit (.bool false), .lit (.bool false), .lit (.bool false), .lit (.bool false), .lit (.bool false)], .agg [.lit (.bool true), .lit (.bool true), .lit (.bool true), .lit (.bool false), .lit (.bool false)], .agg [.lit (.bool true), .lit (.bool true), .lit (.bool false), .lit (.bool true), .lit (.bool false)], .agg [.lit (.bool true), .lit (.bool false), .lit (.bool false), .lit (.bool true), .lit (.bool false)], .agg [.lit (.bool false), .lit (.bool false), .lit (.bool false), .lit (.bool false), .lit (.bool false)], .agg [.lit (.bool true), .lit (.bool false), .lit (.bool false), .lit (.bool false), .lit (.bool true)], .agg [.lit (.bool false), .lit (.bool true), .lit (.bool false), .lit (.bool false), .lit (.bool true)], .agg [.lit (.bool false), .lit (.bool true), .lit (.bool false), .lit (.bool false), .lit (.bool false)]]
def laid_gaoler_fetch_none {H : Type} : DataW H := .agg [.lit (.int .i64 0), .lit (.int .u32 0)]

/-- 'gaolerlaw13.StepFrame': WHATEVER THE INPUT: true; the input reads as it did. -/
def stepFrameSpec : ChangeSpec := { name := "stepFrame", fn := fun _ => fun
  | [d] => { results := [.lit (.bool true)], args := [d] }
  | _ => none }
def stepFrameRow : OpenClaim := { program := "ytjnigggpijfdeaadoor", sum := "49a277380751cb6d47a55aee5988ac82dc63785d7755f927dd8b64c27e166b9a", func := "gaoler/gaolerlaw13.StepFrame", spec := "stepFrame", unfollowed := true, recurses := true, named := ["gaoler/fetch.none", "gaoler/isa.parts", "gaoler/isa.forms"], apart := false, laid := [("gaoler/isa.forms", laid_gaoler_isa_forms), ("gaoler/isa.parts", laid_gaoler_isa_parts), ("gaoler/fetch.none", laid_gaoler_fetch_none)] }
def StepFrameSaid : Prop := stepFrameRow.holds Tryd.pinned (OpenSpec.ofChange stepFrameSpec)

/-- ITS FALSE NEIGHBOUR: 'it returns false'. Refute it at one input. -/
def stepFrameWrong : ChangeSpec := { name := "stepFrame", fn := fun _ => fun
  | [d] => { results := [.lit (.bool false)], args := [d] }
  | _ => none }
def StepFrameWrongFalsely : Prop := stepFrameRow.holds Tryd.pinned (OpenSpec.ofChange stepFrameWrong)

/-- 'gaolerlaw13.StepTrapPriority': WHATEVER THE INPUT: true; the input reads as it did. -/
def stepTrapPrioritySpec : ChangeSpec := { name := "stepTrapPriority", fn := fun _ => fun
  | [d] => { results := [.lit (.bool true)], args := [d] }
  | _ => none }
def stepTrapPriorityRow : OpenClaim := { program := "ytjnigggpijfdeaadoor", sum := "49a277380751cb6d47a55aee5988ac82dc63785d7755f927dd8b64c27e166b9a", func := "gaoler/gaolerlaw13.StepTrapPriority", spec := "stepTrapPriority", unfollowed := true, recurses := true, named := ["gaoler/fetch.none", "gaoler/isa.parts", "gaoler/isa.forms"], apart := false, laid := [("gaoler/isa.forms", laid_gaoler_isa_forms), ("gaoler/isa.parts", laid_gaoler_isa_parts), ("gaoler/fetch.none", laid_gaoler_fetch_none)] }
def StepTrapPrioritySaid : Prop := stepTrapPriorityRow.holds Tryd.pinned (OpenSpec.ofChange stepTrapPrioritySpec)

/-- ITS FALSE NEIGHBOUR: 'it returns false'. Refute it at one input. -/
def stepTrapPriorityWrong : ChangeSpec := { name := "stepTrapPriority", fn := fun _ => fun
  | [d] => { results := [.lit (.bool false)], args := [d] }
  | _ => none }
def StepTrapPriorityWrongFalsely : Prop := stepTrapPriorityRow.holds Tryd.pinned (OpenSpec.ofChange stepTrapPriorityWrong)

/-- 'gaolerlaw13.StepUserModeConfinement': WHATEVER THE INPUT: true; the input reads as it did. -/
def stepUserModeConfinementSpec : ChangeSpec := { name := "stepUserModeConfinement", fn := fun _ => fun
  | [d1, d2] => { results := [.lit (.bool true)], args := [d1, d2] }
  | _ => none }
def stepUserModeConfinementRow : OpenClaim := { program := "ytjnigggpijfdeaadoor", sum := "49a277380751cb6d47a55aee5988ac82dc63785d7755f927dd8b64c27e166b9a", func := "gaoler/gaolerlaw13.StepUserModeConfinement", spec := "stepUserModeConfinement", unfollowed := true, recurses := true, named := ["gaoler/fetch.none", "gaoler/isa.parts", "gaoler/isa.forms"], apart := false, laid := [("gaoler/isa.forms", laid_gaoler_isa_forms), ("gaoler/isa.parts", laid_gaoler_isa_parts), ("gaoler/fetch.none", laid_gaoler_fetch_none)] }
def StepUserModeConfinementSaid : Prop := stepUserModeConfinementRow.holds Tryd.pinned (OpenSpec.ofChange stepUserModeConfinementSpec)

/-- ITS FALSE NEIGHBOUR: 'it returns false'. Refute it at one input. -/
def stepUserModeConfinementWrong : ChangeSpec := { name := "stepUserModeConfinement", fn := fun _ => fun
  | [d1, d2] => { results := [.lit (.bool false)], args := [d1, d2] }
  | _ => none }
def StepUserModeConfinementWrongFalsely : Prop := stepUserModeConfinementRow.holds Tryd.pinned (OpenSpec.ofChange stepUserModeConfinementWrong)

/-- 'gaolerlaw13.StepTimerHasPriority': WHATEVER THE INPUT: true; the input reads as it did. -/
def stepTimerHasPrioritySpec : ChangeSpec := { name := "stepTimerHasPriority", fn := fun _ => fun
  | [d1, d2] => { results := [.lit (.bool true)], args := [d1, d2] }
  | _ => none }
def stepTimerHasPriorityRow : OpenClaim := { program := "ytjnigggpijfdeaadoor", sum := "49a277380751cb6d47a55aee5988ac82dc63785d7755f927dd8b64c27e166b9a", func := "gaoler/gaolerlaw13.StepTimerHasPriority", spec := "stepTimerHasPriority", unfollowed := true, recurses := true, named := ["gaoler/fetch.none", "gaoler/isa.parts", "gaoler/isa.forms"], apart := false, laid := [("gaoler/isa.forms", laid_gaoler_isa_forms), ("gaoler/isa.parts", laid_gaoler_isa_parts), ("gaoler/fetch.none", laid_gaoler_fetch_none)] }
def StepTimerHasPrioritySaid : Prop := stepTimerHasPriorityRow.holds Tryd.pinned (OpenSpec.ofChange stepTimerHasPrioritySpec)

/-- ITS FALSE NEIGHBOUR: 'it returns false'. Refute it at one input. -/
def stepTimerHasPriorityWrong : ChangeSpec := { name := "stepTimerHasPriority", fn := fun _ => fun
  | [d1, d2] => { results := [.lit (.bool false)], args := [d1, d2] }
  | _ => none }
def StepTimerHasPriorityWrongFalsely : Prop := stepTimerHasPriorityRow.holds Tryd.pinned (OpenSpec.ofChange stepTimerHasPriorityWrong)

/-- 'gaolerlaw13.StepModeNeverRises': WHATEVER THE INPUT: true; the input reads as it did. -/
def stepModeNeverRisesSpec : ChangeSpec := { name := "stepModeNeverRises", fn := fun _ => fun
  | [d] => { results := [.lit (.bool true)], args := [d] }
  | _ => none }
def stepModeNeverRisesRow : OpenClaim := { program := "ytjnigggpijfdeaadoor", sum := "49a277380751cb6d47a55aee5988ac82dc63785d7755f927dd8b64c27e166b9a", func := "gaoler/gaolerlaw13.StepModeNeverRises", spec := "stepModeNeverRises", unfollowed := true, recurses := true, named := ["gaoler/fetch.none", "gaoler/isa.parts", "gaoler/isa.forms"], apart := false, laid := [("gaoler/isa.forms", laid_gaoler_isa_forms), ("gaoler/isa.parts", laid_gaoler_isa_parts), ("gaoler/fetch.none", laid_gaoler_fetch_none)] }
def StepModeNeverRisesSaid : Prop := stepModeNeverRisesRow.holds Tryd.pinned (OpenSpec.ofChange stepModeNeverRisesSpec)

/-- ITS FALSE NEIGHBOUR: 'it returns false'. Refute it at one input. -/
def stepModeNeverRisesWrong : ChangeSpec := { name := "stepModeNeverRises", fn := fun _ => fun
  | [d] => { results := [.lit (.bool false)], args := [d] }
  | _ => none }
def StepModeNeverRisesWrongFalsely : Prop := stepModeNeverRisesRow.holds Tryd.pinned (OpenSpec.ofChange stepModeNeverRisesWrong)

/-- 'gaolerlaw20.VtrapReflectionMatchesTrap': WHATEVER THE INPUT: true; the input reads as it did. -/
def vtrapReflectionMatchesTrapSpec : ChangeSpec := { name := "vtrapReflectionMatchesTrap", fn := fun _ => fun
  | [d1, d2, d3] => { results := [.lit (.bool true)], args := [d1, d2, d3] }
  | _ => none }
def vtrapReflectionMatchesTrapRow : OpenClaim := { program := "ytjnigggpijfdeaadoor", sum := "49a277380751cb6d47a55aee5988ac82dc63785d7755f927dd8b64c27e166b9a", func := "gaoler/gaolerlaw20.VtrapReflectionMatchesTrap", spec := "vtrapReflectionMatchesTrap", unfollowed := true, recurses := true, named := ["gaoler/fetch.none", "gaoler/isa.parts", "gaoler/isa.forms"], apart := false, laid := [("gaoler/isa.forms", laid_gaoler_isa_forms), ("gaoler/isa.parts", laid_gaoler_isa_parts), ("gaoler/fetch.none", laid_gaoler_fetch_none)] }
def VtrapReflectionMatchesTrapSaid : Prop := vtrapReflectionMatchesTrapRow.holds Tryd.pinned (OpenSpec.ofChange vtrapReflectionMatchesTrapSpec)

/-- ITS FALSE NEIGHBOUR: 'it returns false'. Refute it at one input. -/
def vtrapReflectionMatchesTrapWrong : ChangeSpec := { name := "vtrapReflectionMatchesTrap", fn := fun _ => fun
  | [d1, d2, d3] => { results := [.lit (.bool false)], args := [d1, d2, d3] }
  | _ => none }
def VtrapReflectionMatchesTrapWrongFalsely : Prop := vtrapReflectionMatchesTrapRow.holds Tryd.pinned (OpenSpec.ofChange vtrapReflectionMatchesTrapWrong)

/-- 'gaolerlaw18.ShadowDispatchedGuestIsConfined': WHATEVER THE INPUT: true; the input reads as it did. -/
def shadowDispatchedGuestIsConfinedSpec : ChangeSpec := { name := "shadowDispatchedGuestIsConfined", fn := fun _ => fun
  | [d1, d2, d3, d4] => { results := [.lit (.bool true)], args := [d1, d2, d3, d4] }
  | _ => none }
def shadowDispatchedGuestIsConfinedRow : OpenClaim := { program := "ytjnigggpijfdeaadoor", sum := "49a277380751cb6d47a55aee5988ac82dc63785d7755f927dd8b64c27e166b9a", func := "gaoler/gaolerlaw18.ShadowDispatchedGuestIsConfined", spec := "shadowDispatchedGuestIsConfined", unfollowed := true, recurses := true, named := ["gaoler/fetch.none", "gaoler/isa.parts", "gaoler/isa.forms"], apart := false, laid := [("gaoler/isa.forms", laid_gaoler_isa_forms), ("gaoler/isa.parts", laid_gaoler_isa_parts), ("gaoler/fetch.none", laid_gaoler_fetch_none)] }
def ShadowDispatchedGuestIsConfinedSaid : Prop := shadowDispatchedGuestIsConfinedRow.holds Tryd.pinned (OpenSpec.ofChange shadowDispatchedGuestIsConfinedSpec)

/-- ITS FALSE NEIGHBOUR: 'it returns false'. Refute it at one input. -/
def shadowDispatchedGuestIsConfinedWrong : ChangeSpec := { name := "shadowDispatchedGuestIsConfined", fn := fun _ => fun
  | [d1, d2, d3, d4] => { results := [.lit (.bool false)], args := [d1, d2, d3, d4] }
  | _ => none }
def ShadowDispatchedGuestIsConfinedWrongFalsely : Prop := shadowDispatchedGuestIsConfinedRow.holds Tryd.pinned (OpenSpec.ofChange shadowDispatchedGuestIsConfinedWrong)

/- THE SECOND FORM. 'bulk': how many values and letters a reading holds, each counted each time it is reached (what is shared counts as often as it is met; a slice's spare places count too). A statement '..UptoSaid' is the law's where the arguments, and the package variables that the reading takes, are together of bulk at most 1048576: NARROWER than '..Said'. Prove '..Said' where nothing that the law and all that it calls make is longer than what came in: it says more and counts as full. Else prove '..UptoSaid'. A law counts once. -/
mutual
def uptoBulk {H : Type} : DataW H → Nat
  | .lit (.string bytes) => bytes.length + 1
  | .lit _ => 1
  | .nil => 1
  | .ptr d => uptoBulk d + 1
  | .slice elems spare => uptoBulkAll elems + uptoBulkAll spare + 1
  | .agg parts => uptoBulkAll parts + 1
  | .iface _ d => uptoBulk d + 1
  | .map entries => uptoBulkEntries entries + 1
  | .held _ => 1
def uptoBulkAll {H : Type} : List (DataW H) → Nat
  | [] => 0
  | d :: r => uptoBulk d + uptoBulkAll r
def uptoBulkEntries {H : Type} : List (Lit × DataW H) → Nat
  | [] => 0
  | x :: r => uptoBulkEntry x + uptoBulkEntries r
def uptoBulkEntry {H : Type} : Lit × DataW H → Nat
  | (.string bytes, d) => bytes.length + uptoBulk d + 1
  | (_, d) => uptoBulk d + 1
 end
def uptoSmall : (H : Type) → List (DataW H) → Bool := fun _ ds => decide (uptoBulkAll ds ≤ 1048576)
def OpenSpec.upto (s : _root_.Go.ChangeSpec) : _root_.Go.OpenSpec := { _root_.Go.OpenSpec.ofChange s with cond := some uptoSmall }

/-- 'gaolerlaw13.StepFrame', WHERE WHAT IT READS IS OF BULK AT MOST 1048576: true; the input reads as it did. -/
def stepFrameUptoRow : OpenClaim := { program := "ytjnigggpijfdeaadoor", sum := "49a277380751cb6d47a55aee5988ac82dc63785d7755f927dd8b64c27e166b9a", func := "gaoler/gaolerlaw13.StepFrame", spec := "stepFrame", unfollowed := true, recurses := true, named := ["gaoler/fetch.none", "gaoler/isa.parts", "gaoler/isa.forms"], apart := false, laid := [("gaoler/isa.forms", laid_gaoler_isa_forms), ("gaoler/isa.parts", laid_gaoler_isa_parts), ("gaoler/fetch.none", laid_gaoler_fetch_none)], narrowed := true }
def StepFrameUptoSaid : Prop := stepFrameUptoRow.holds Tryd.pinned (OpenSpec.upto stepFrameSpec)

/-- 'gaolerlaw13.StepTrapPriority', WHERE WHAT IT READS IS OF BULK AT MOST 1048576: true; the input reads as it did. -/
def stepTrapPriorityUptoRow : OpenClaim := { program := "ytjnigggpijfdeaadoor", sum := "49a277380751cb6d47a55aee5988ac82dc63785d7755f927dd8b64c27e166b9a", func := "gaoler/gaolerlaw13.StepTrapPriority", spec := "stepTrapPriority", unfollowed := true, recurses := true, named := ["gaoler/fetch.none", "gaoler/isa.parts", "gaoler/isa.forms"], apart := false, laid := [("gaoler/isa.forms", laid_gaoler_isa_forms), ("gaoler/isa.parts", laid_gaoler_isa_parts), ("gaoler/fetch.none", laid_gaoler_fetch_none)], narrowed := true }
def StepTrapPriorityUptoSaid : Prop := stepTrapPriorityUptoRow.holds Tryd.pinned (OpenSpec.upto stepTrapPrioritySpec)

/-- 'gaolerlaw13.StepUserModeConfinement', WHERE WHAT IT READS IS OF BULK AT MOST 1048576: true; the input reads as it did. -/
def stepUserModeConfinementUptoRow : OpenClaim := { program := "ytjnigggpijfdeaadoor", sum := "49a277380751cb6d47a55aee5988ac82dc63785d7755f927dd8b64c27e166b9a", func := "gaoler/gaolerlaw13.StepUserModeConfinement", spec := "stepUserModeConfinement", unfollowed := true, recurses := true, named := ["gaoler/fetch.none", "gaoler/isa.parts", "gaoler/isa.forms"], apart := false, laid := [("gaoler/isa.forms", laid_gaoler_isa_forms), ("gaoler/isa.parts", laid_gaoler_isa_parts), ("gaoler/fetch.none", laid_gaoler_fetch_none)], narrowed := true }
def StepUserModeConfinementUptoSaid : Prop := stepUserModeConfinementUptoRow.holds Tryd.pinned (OpenSpec.upto stepUserModeConfinementSpec)

/-- 'gaolerlaw13.StepTimerHasPriority', WHERE WHAT IT READS IS OF BULK AT MOST 1048576: true; the input reads as it did. -/
def stepTimerHasPriorityUptoRow : OpenClaim := { program := "ytjnigggpijfdeaadoor", sum := "49a277380751cb6d47a55aee5988ac82dc63785d7755f927dd8b64c27e166b9a", func := "gaoler/gaolerlaw13.StepTimerHasPriority", spec := "stepTimerHasPriority", unfollowed := true, recurses := true, named := ["gaoler/fetch.none", "gaoler/isa.parts", "gaoler/isa.forms"], apart := false, laid := [("gaoler/isa.forms", laid_gaoler_isa_forms), ("gaoler/isa.parts", laid_gaoler_isa_parts), ("gaoler/fetch.none", laid_gaoler_fetch_none)], narrowed := true }
def StepTimerHasPriorityUptoSaid : Prop := stepTimerHasPriorityUptoRow.holds Tryd.pinned (OpenSpec.upto stepTimerHasPrioritySpec)

/-- 'gaolerlaw13.StepModeNeverRises', WHERE WHAT IT READS IS OF BULK AT MOST 1048576: true; the input reads as it did. -/
def stepModeNeverRisesUptoRow : OpenClaim := { program := "ytjnigggpijfdeaadoor", sum := "49a277380751cb6d47a55aee5988ac82dc63785d7755f927dd8b64c27e166b9a", func := "gaoler/gaolerlaw13.StepModeNeverRises", spec := "stepModeNeverRises", unfollowed := true, recurses := true, named := ["gaoler/fetch.none", "gaoler/isa.parts", "gaoler/isa.forms"], apart := false, laid := [("gaoler/isa.forms", laid_gaoler_isa_forms), ("gaoler/isa.parts", laid_gaoler_isa_parts), ("gaoler/fetch.none", laid_gaoler_fetch_none)], narrowed := true }
def StepModeNeverRisesUptoSaid : Prop := stepModeNeverRisesUptoRow.holds Tryd.pinned (OpenSpec.upto stepModeNeverRisesSpec)

/-- 'gaolerlaw20.VtrapReflectionMatchesTrap', WHERE WHAT IT READS IS OF BULK AT MOST 1048576: true; the input reads as it did. -/
def vtrapReflectionMatchesTrapUptoRow : OpenClaim := { program := "ytjnigggpijfdeaadoor", sum := "49a277380751cb6d47a55aee5988ac82dc63785d7755f927dd8b64c27e166b9a", func := "gaoler/gaolerlaw20.VtrapReflectionMatchesTrap", spec := "vtrapReflectionMatchesTrap", unfollowed := true, recurses := true, named := ["gaoler/fetch.none", "gaoler/isa.parts", "gaoler/isa.forms"], apart := false, laid := [("gaoler/isa.forms", laid_gaoler_isa_forms), ("gaoler/isa.parts", laid_gaoler_isa_parts), ("gaoler/fetch.none", laid_gaoler_fetch_none)], narrowed := true }
def VtrapReflectionMatchesTrapUptoSaid : Prop := vtrapReflectionMatchesTrapUptoRow.holds Tryd.pinned (OpenSpec.upto vtrapReflectionMatchesTrapSpec)

/-- 'gaolerlaw18.ShadowDispatchedGuestIsConfined', WHERE WHAT IT READS IS OF BULK AT MOST 1048576: true; the input reads as it did. -/
def shadowDispatchedGuestIsConfinedUptoRow : OpenClaim := { program := "ytjnigggpijfdeaadoor", sum := "49a277380751cb6d47a55aee5988ac82dc63785d7755f927dd8b64c27e166b9a", func := "gaoler/gaolerlaw18.ShadowDispatchedGuestIsConfined", spec := "shadowDispatchedGuestIsConfined", unfollowed := true, recurses := true, named := ["gaoler/fetch.none", "gaoler/isa.parts", "gaoler/isa.forms"], apart := false, laid := [("gaoler/isa.forms", laid_gaoler_isa_forms), ("gaoler/isa.parts", laid_gaoler_isa_parts), ("gaoler/fetch.none", laid_gaoler_fetch_none)], narrowed := true }
def ShadowDispatchedGuestIsConfinedUptoSaid : Prop := shadowDispatchedGuestIsConfinedUptoRow.holds Tryd.pinned (OpenSpec.upto shadowDispatchedGuestIsConfinedSpec)

end Rows
end Go.Proofs.YtjnigggpijfdeaaDoor
