/-
  NARROWER THAN 'FOR EVERY INPUT', by the rows' own cells (each row's printed sentence says how): EmulateMatchesReference: laid · EmulTimeIsObservedOnlyByReads: laid · EmulateSequence: laid · HandlerHandleMatchesReference: laid · HandlerHandleFrame: laid · HandlerEmulationOrReflection: laid · HandlerHandleKeepsValidity: laid · EmulationMatchesStep: laid.
  DERIVED. THE GIVEN ROWS OF THIS SEAT. 8 by the template 'for every input the law returns true; each argument reads behind the call as it read before'; 0 by the template 'total and deterministic' (their statements: YtnhokcnnhmkbhaaDoorTotals.lean).
  GIVEN WITH THE SEED: the statements are not yours to turn. If you find one false, say at which input.
  Laid BY PROGRAM, IN A SANDBOX (cutbox-rows.mjs): the forced cells as the released guide's own fill.sh prints them over the translation 39b4275c103c0865… (all of the seat's roots in one cut). By AI agents, Wed Nov 11 2026. No macro, syntax, notation, axiom, sorry.
-/
import Derived.Test.YtnhokcnnhmkbhaaDoorChecked
import GoSem.Claim
import GoSem.ClaimJoined
import GoSem.ClaimMapViews
import Derived.JoinedTies
import Derived.KernelRfl
namespace Go.Proofs.YtnhokcnnhmkbhaaDoor
/- THE CELL 'sum', in the pinned program and in every row, IS THE sha256 OF THE DUMP (.gsa) THAT YtnhokcnnhmkbhaaDoorProg.lean LOADS. Nothing in Lean hashes anything: it is a label: what it is worth is what the hold of that sum in a sandbox is worth. -/
noncomputable def Tryd.pinned : Pinned := { name := "ytnhokcnnhmkbhaadoor", sum := "39b4275c103c0865c9f289a17e5ecb805268557441fa793b0398518fb9a044b7", checked := Tryd.checked }
namespace Rows
def none {H : Type} : Left H := { results := [], args := [] }

/- WHAT THE LISTED PACKAGE-LEVEL VARIABLES READ AS WHEN THE CALL BEGINS. Each datum BY PROGRAM (the guide's laid-datum.mjs) off the statement by which the dump's own 'gosem.cut.vars' lays the variable. In a bare row this is a premise. The card (YtnhokcnnhmkbhaaDoorCards.lean) ties it to the program's text. -/
def laid_gaoler_isa_forms {H : Type} : DataW H := .agg [.lit (.int .i64 0), .lit (.int .i64 1), .lit (.int .i64 1), .lit (.int .i64 1), .lit (.int .i64 1), .lit (.int .i64 1), .lit (.int .i64 1), .lit (.int .i64 1), .lit (.int .i64 1), .lit (.int .i64 2), .lit (.int .i64 3), .lit (.int .i64 2), .lit (.int .i64 2), .lit (.int .i64 2), .lit (.int .i64 2), .lit (.int .i64 2), .lit (.int .i64 2), .lit (.int .i64 2), .lit (.int .i64 3), .lit (.int .i64 2), .lit (.int .i64 4), .lit (.int .i64 5), .lit (.int .i64 6), .lit (.int .i64 4), .lit (.int .i64 4), .lit (.int .i64 7)]
def laid_gaoler_isa_parts {H : Type} : DataW H := .agg [.agg [.lit (.bool false), .lit (.bool false), .lit (.bool false), .lit (.bool false), .lit (.bool false)], .agg [.lit (.bool true), .lit (.bool true), .lit (.bool true), .lit (.bool false), .lit (.bool false)], .agg [.lit (.bool true), .lit (.bool true), .lit (.bool false), .lit (.bool true), .lit (.bool false)], .agg [.lit (.bool true), .lit (.bool false), .lit (.bool false), .lit (.bool true), .lit (.bool false)], .agg [.lit (.bool false), .lit (.bool false), .lit (.bool false), .lit (.bool false), .lit (.bool false)], .agg [.lit (.bool true), .lit (.bool false), .lit (.bool false), .lit (.bool false), .lit (.bool true)], .agg [.lit (.bool false), .lit (.bool true), .lit (.bool false), .lit (.bool false), .lit (.bool true)], .agg [.lit (.bool false), .lit (.bool true), .lit (.bool false), .lit (.bool false), .lit (.bool false)]]
def laid_gaoler_fetch_none {H : Type} : DataW H := .agg [.lit (.int .i64 0), .lit (.int .u32 0)]

/-- 'gaolerlaw19.EmulateMatchesReference': WHATEVER THE INPUT: true; the input reads as it did. -/
def emulateMatchesReferenceSpec : ChangeSpec := { name := "emulateMatchesReference", fn := fun _ => fun
  | [d1, d2, d3, d4] => { results := [.lit (.bool true)], args := [d1, d2, d3, d4] }
  | _ => none }
def emulateMatchesReferenceRow : OpenClaim := { program := "ytnhokcnnhmkbhaadoor", sum := "39b4275c103c0865c9f289a17e5ecb805268557441fa793b0398518fb9a044b7", func := "gaoler/gaolerlaw19.EmulateMatchesReference", spec := "emulateMatchesReference", unfollowed := true, recurses := true, named := ["gaoler/isa.parts", "gaoler/isa.forms"], apart := false, laid := [("gaoler/isa.forms", laid_gaoler_isa_forms), ("gaoler/isa.parts", laid_gaoler_isa_parts)] }
def EmulateMatchesReferenceSaid : Prop := emulateMatchesReferenceRow.holds Tryd.pinned (OpenSpec.ofChange emulateMatchesReferenceSpec)

/-- ITS FALSE NEIGHBOUR: 'it returns false'. Refute it at one input. -/
def emulateMatchesReferenceWrong : ChangeSpec := { name := "emulateMatchesReference", fn := fun _ => fun
  | [d1, d2, d3, d4] => { results := [.lit (.bool false)], args := [d1, d2, d3, d4] }
  | _ => none }
def EmulateMatchesReferenceWrongFalsely : Prop := emulateMatchesReferenceRow.holds Tryd.pinned (OpenSpec.ofChange emulateMatchesReferenceWrong)

/-- 'gaolerlaw19.EmulTimeIsObservedOnlyByReads': WHATEVER THE INPUT: true; the input reads as it did. -/
def emulTimeIsObservedOnlyByReadsSpec : ChangeSpec := { name := "emulTimeIsObservedOnlyByReads", fn := fun _ => fun
  | [d1, d2, d3, d4] => { results := [.lit (.bool true)], args := [d1, d2, d3, d4] }
  | _ => none }
def emulTimeIsObservedOnlyByReadsRow : OpenClaim := { program := "ytnhokcnnhmkbhaadoor", sum := "39b4275c103c0865c9f289a17e5ecb805268557441fa793b0398518fb9a044b7", func := "gaoler/gaolerlaw19.EmulTimeIsObservedOnlyByReads", spec := "emulTimeIsObservedOnlyByReads", unfollowed := true, recurses := true, named := ["gaoler/isa.parts", "gaoler/isa.forms"], apart := false, laid := [("gaoler/isa.forms", laid_gaoler_isa_forms), ("gaoler/isa.parts", laid_gaoler_isa_parts)] }
def EmulTimeIsObservedOnlyByReadsSaid : Prop := emulTimeIsObservedOnlyByReadsRow.holds Tryd.pinned (OpenSpec.ofChange emulTimeIsObservedOnlyByReadsSpec)

/-- ITS FALSE NEIGHBOUR: 'it returns false'. Refute it at one input. -/
def emulTimeIsObservedOnlyByReadsWrong : ChangeSpec := { name := "emulTimeIsObservedOnlyByReads", fn := fun _ => fun
  | [d1, d2, d3, d4] => { results := [.lit (.bool false)], args := [d1, d2, d3, d4] }
  | _ => none }
def EmulTimeIsObservedOnlyByReadsWrongFalsely : Prop := emulTimeIsObservedOnlyByReadsRow.holds Tryd.pinned (OpenSpec.ofChange emulTimeIsObservedOnlyByReadsWrong)

/-- 'gaolerlaw19.EmulateSequence': WHATEVER THE INPUT: true; the input reads as it did. -/
def emulateSequenceSpec : ChangeSpec := { name := "emulateSequence", fn := fun _ => fun
  | [d1, d2, d3] => { results := [.lit (.bool true)], args := [d1, d2, d3] }
  | _ => none }
def emulateSequenceRow : OpenClaim := { program := "ytnhokcnnhmkbhaadoor", sum := "39b4275c103c0865c9f289a17e5ecb805268557441fa793b0398518fb9a044b7", func := "gaoler/gaolerlaw19.EmulateSequence", spec := "emulateSequence", unfollowed := true, recurses := true, named := ["gaoler/isa.parts", "gaoler/isa.forms"], apart := false, laid := [("gaoler/isa.forms", laid_gaoler_isa_forms), ("gaoler/isa.parts", laid_gaoler_isa_parts)] }
def EmulateSequenceSaid : Prop := emulateSequenceRow.holds Tryd.pinned (OpenSpec.ofChange emulateSequenceSpec)

/-- ITS FALSE NEIGHBOUR: 'it returns false'. Refute it at one input. -/
def emulateSequenceWrong : ChangeSpec := { name := "emulateSequence", fn := fun _ => fun
  | [d1, d2, d3] => { results := [.lit (.bool false)], args := [d1, d2, d3] }
  | _ => none }
def EmulateSequenceWrongFalsely : Prop := emulateSequenceRow.holds Tryd.pinned (OpenSpec.ofChange emulateSequenceWrong)

/-- 'gaolerlaw21.HandlerHandleMatchesReference': WHATEVER THE INPUT: true; the input reads as it did. -/
def handlerHandleMatchesReferenceSpec : ChangeSpec := { name := "handlerHandleMatchesReference", fn := fun _ => fun
  | [d1, d2, d3] => { results := [.lit (.bool true)], args := [d1, d2, d3] }
  | _ => none }
def handlerHandleMatchesReferenceRow : OpenClaim := { program := "ytnhokcnnhmkbhaadoor", sum := "39b4275c103c0865c9f289a17e5ecb805268557441fa793b0398518fb9a044b7", func := "gaoler/gaolerlaw21.HandlerHandleMatchesReference", spec := "handlerHandleMatchesReference", unfollowed := true, recurses := true, named := ["gaoler/isa.parts", "gaoler/isa.forms"], apart := false, laid := [("gaoler/isa.forms", laid_gaoler_isa_forms), ("gaoler/isa.parts", laid_gaoler_isa_parts)] }
def HandlerHandleMatchesReferenceSaid : Prop := handlerHandleMatchesReferenceRow.holds Tryd.pinned (OpenSpec.ofChange handlerHandleMatchesReferenceSpec)

/-- ITS FALSE NEIGHBOUR: 'it returns false'. Refute it at one input. -/
def handlerHandleMatchesReferenceWrong : ChangeSpec := { name := "handlerHandleMatchesReference", fn := fun _ => fun
  | [d1, d2, d3] => { results := [.lit (.bool false)], args := [d1, d2, d3] }
  | _ => none }
def HandlerHandleMatchesReferenceWrongFalsely : Prop := handlerHandleMatchesReferenceRow.holds Tryd.pinned (OpenSpec.ofChange handlerHandleMatchesReferenceWrong)

/-- 'gaolerlaw21.HandlerHandleFrame': WHATEVER THE INPUT: true; the input reads as it did. -/
def handlerHandleFrameSpec : ChangeSpec := { name := "handlerHandleFrame", fn := fun _ => fun
  | [d1, d2, d3, d4] => { results := [.lit (.bool true)], args := [d1, d2, d3, d4] }
  | _ => none }
def handlerHandleFrameRow : OpenClaim := { program := "ytnhokcnnhmkbhaadoor", sum := "39b4275c103c0865c9f289a17e5ecb805268557441fa793b0398518fb9a044b7", func := "gaoler/gaolerlaw21.HandlerHandleFrame", spec := "handlerHandleFrame", unfollowed := true, recurses := true, named := ["gaoler/isa.parts", "gaoler/isa.forms"], apart := false, laid := [("gaoler/isa.forms", laid_gaoler_isa_forms), ("gaoler/isa.parts", laid_gaoler_isa_parts)] }
def HandlerHandleFrameSaid : Prop := handlerHandleFrameRow.holds Tryd.pinned (OpenSpec.ofChange handlerHandleFrameSpec)

/-- ITS FALSE NEIGHBOUR: 'it returns false'. Refute it at one input. -/
def handlerHandleFrameWrong : ChangeSpec := { name := "handlerHandleFrame", fn := fun _ => fun
  | [d1, d2, d3, d4] => { results := [.lit (.bool false)], args := [d1, d2, d3, d4] }
  | _ => none }
def HandlerHandleFrameWrongFalsely : Prop := handlerHandleFrameRow.holds Tryd.pinned (OpenSpec.ofChange handlerHandleFrameWrong)

/-- 'gaolerlaw21.HandlerEmulationOrReflection': WHATEVER THE INPUT: true; the input reads as it did. -/
def handlerEmulationOrReflectionSpec : ChangeSpec := { name := "handlerEmulationOrReflection", fn := fun _ => fun
  | [d1, d2, d3, d4] => { results := [.lit (.bool true)], args := [d1, d2, d3, d4] }
  | _ => none }
def handlerEmulationOrReflectionRow : OpenClaim := { program := "ytnhokcnnhmkbhaadoor", sum := "39b4275c103c0865c9f289a17e5ecb805268557441fa793b0398518fb9a044b7", func := "gaoler/gaolerlaw21.HandlerEmulationOrReflection", spec := "handlerEmulationOrReflection", unfollowed := true, recurses := true, named := ["gaoler/isa.parts", "gaoler/isa.forms"], apart := false, laid := [("gaoler/isa.forms", laid_gaoler_isa_forms), ("gaoler/isa.parts", laid_gaoler_isa_parts)] }
def HandlerEmulationOrReflectionSaid : Prop := handlerEmulationOrReflectionRow.holds Tryd.pinned (OpenSpec.ofChange handlerEmulationOrReflectionSpec)

/-- ITS FALSE NEIGHBOUR: 'it returns false'. Refute it at one input. -/
def handlerEmulationOrReflectionWrong : ChangeSpec := { name := "handlerEmulationOrReflection", fn := fun _ => fun
  | [d1, d2, d3, d4] => { results := [.lit (.bool false)], args := [d1, d2, d3, d4] }
  | _ => none }
def HandlerEmulationOrReflectionWrongFalsely : Prop := handlerEmulationOrReflectionRow.holds Tryd.pinned (OpenSpec.ofChange handlerEmulationOrReflectionWrong)

/-- 'gaolerlaw21.HandlerHandleKeepsValidity': WHATEVER THE INPUT: true; the input reads as it did. -/
def handlerHandleKeepsValiditySpec : ChangeSpec := { name := "handlerHandleKeepsValidity", fn := fun _ => fun
  | [d1, d2, d3] => { results := [.lit (.bool true)], args := [d1, d2, d3] }
  | _ => none }
def handlerHandleKeepsValidityRow : OpenClaim := { program := "ytnhokcnnhmkbhaadoor", sum := "39b4275c103c0865c9f289a17e5ecb805268557441fa793b0398518fb9a044b7", func := "gaoler/gaolerlaw21.HandlerHandleKeepsValidity", spec := "handlerHandleKeepsValidity", unfollowed := true, recurses := true, named := ["gaoler/isa.parts", "gaoler/isa.forms"], apart := false, laid := [("gaoler/isa.forms", laid_gaoler_isa_forms), ("gaoler/isa.parts", laid_gaoler_isa_parts)] }
def HandlerHandleKeepsValiditySaid : Prop := handlerHandleKeepsValidityRow.holds Tryd.pinned (OpenSpec.ofChange handlerHandleKeepsValiditySpec)

/-- ITS FALSE NEIGHBOUR: 'it returns false'. Refute it at one input. -/
def handlerHandleKeepsValidityWrong : ChangeSpec := { name := "handlerHandleKeepsValidity", fn := fun _ => fun
  | [d1, d2, d3] => { results := [.lit (.bool false)], args := [d1, d2, d3] }
  | _ => none }
def HandlerHandleKeepsValidityWrongFalsely : Prop := handlerHandleKeepsValidityRow.holds Tryd.pinned (OpenSpec.ofChange handlerHandleKeepsValidityWrong)

/-- 'gaolerlaw19.EmulationMatchesStep': WHATEVER THE INPUT: true; the input reads as it did. -/
def emulationMatchesStepSpec : ChangeSpec := { name := "emulationMatchesStep", fn := fun _ => fun
  | [d1, d2, d3] => { results := [.lit (.bool true)], args := [d1, d2, d3] }
  | _ => none }
def emulationMatchesStepRow : OpenClaim := { program := "ytnhokcnnhmkbhaadoor", sum := "39b4275c103c0865c9f289a17e5ecb805268557441fa793b0398518fb9a044b7", func := "gaoler/gaolerlaw19.EmulationMatchesStep", spec := "emulationMatchesStep", unfollowed := true, recurses := true, named := ["gaoler/isa.parts", "gaoler/isa.forms", "gaoler/fetch.none"], apart := false, laid := [("gaoler/isa.forms", laid_gaoler_isa_forms), ("gaoler/isa.parts", laid_gaoler_isa_parts), ("gaoler/fetch.none", laid_gaoler_fetch_none)] }
def EmulationMatchesStepSaid : Prop := emulationMatchesStepRow.holds Tryd.pinned (OpenSpec.ofChange emulationMatchesStepSpec)

/-- ITS FALSE NEIGHBOUR: 'it returns false'. Refute it at one input. -/
def emulationMatchesStepWrong : ChangeSpec := { name := "emulationMatchesStep", fn := fun _ => fun
  | [d1, d2, d3] => { results := [.lit (.bool false)], args := [d1, d2, d3] }
  | _ => none }
def EmulationMatchesStepWrongFalsely : Prop := emulationMatchesStepRow.holds Tryd.pinned (OpenSpec.ofChange emulationMatchesStepWrong)

/- THE SECOND FORM. 'bulk': how many values and letters a reading holds, each counted each time it is reached (what is shared counts as often as it is met; a slice's spare places count too). A statement '..UptoSaid' is the law's where the arguments, and the package variables that the reading takes, are together of bulk at most 1048576: NARROWER than '..Said'. Prove '..Said' where nothing that the law and all that it calls make is longer than what came in: it says more and counts as full. Else prove '..UptoSaid'. A law counts once. -/
mutual
def uptoBulk {H : Type} : DataW H → Nat
  | .lit (.string bytes) => bytes.length + 1
  | .lit _ => 1
  | .nil => 1
  | .ptr d => uptoBulk d + 1
  | .slice elems spare => uptoBulkAll elems + uptoBulkAll spare + 1
  | .agg parts => uptoBulkAll parts + 1
  | .iface _ d => uptoBulk d + 1
  | .map entries => uptoBulkEntries entries + 1
  | .held _ => 1
def uptoBulkAll {H : Type} : List (DataW H) → Nat
  | [] => 0
  | d :: r => uptoBulk d + uptoBulkAll r
def uptoBulkEntries {H : Type} : List (Lit × DataW H) → Nat
  | [] => 0
  | x :: r => uptoBulkEntry x + uptoBulkEntries r
def uptoBulkEntry {H : Type} : Lit × DataW H → Nat
  | (.string bytes, d) => bytes.length + uptoBulk d + 1
  | (_, d) => uptoBulk d + 1
 end
def uptoSmall : (H : Type) → List (DataW H) → Bool := fun _ ds => decide (uptoBulkAll ds ≤ 1048576)
def OpenSpec.upto (s : _root_.Go.ChangeSpec) : _root_.Go.OpenSpec := { _root_.Go.OpenSpec.ofChange s with cond := some uptoSmall }

/-- 'gaolerlaw19.EmulateMatchesReference', WHERE WHAT IT READS IS OF BULK AT MOST 1048576: true; the input reads as it did. -/
def emulateMatchesReferenceUptoRow : OpenClaim := { program := "ytnhokcnnhmkbhaadoor", sum := "39b4275c103c0865c9f289a17e5ecb805268557441fa793b0398518fb9a044b7", func := "gaoler/gaolerlaw19.EmulateMatchesReference", spec := "emulateMatchesReference", unfollowed := true, recurses := true, named := ["gaoler/isa.parts", "gaoler/isa.forms"], apart := false, laid := [("gaoler/isa.forms", laid_gaoler_isa_forms), ("gaoler/isa.parts", laid_gaoler_isa_parts)], narrowed := true }
def EmulateMatchesReferenceUptoSaid : Prop := emulateMatchesReferenceUptoRow.holds Tryd.pinned (OpenSpec.upto emulateMatchesReferenceSpec)

/-- 'gaolerlaw19.EmulTimeIsObservedOnlyByReads', WHERE WHAT IT READS IS OF BULK AT MOST 1048576: true; the input reads as it did. -/
def emulTimeIsObservedOnlyByReadsUptoRow : OpenClaim := { program := "ytnhokcnnhmkbhaadoor", sum := "39b4275c103c0865c9f289a17e5ecb805268557441fa793b0398518fb9a044b7", func := "gaoler/gaolerlaw19.EmulTimeIsObservedOnlyByReads", spec := "emulTimeIsObservedOnlyByReads", unfollowed := true, recurses := true, named := ["gaoler/isa.parts", "gaoler/isa.forms"], apart := false, laid := [("gaoler/isa.forms", laid_gaoler_isa_forms), ("gaoler/isa.parts", laid_gaoler_isa_parts)], narrowed := true }
def EmulTimeIsObservedOnlyByReadsUptoSaid : Prop := emulTimeIsObservedOnlyByReadsUptoRow.holds Tryd.pinned (OpenSpec.upto emulTimeIsObservedOnlyByReadsSpec)

/-- 'gaolerlaw19.EmulateSequence', WHERE WHAT IT READS IS OF BULK AT MOST 1048576: true; the input reads as it did. -/
def emulateSequenceUptoRow : OpenClaim := { program := "ytnhokcnnhmkbhaadoor", sum := "39b4275c103c0865c9f289a17e5ecb805268557441fa793b0398518fb9a044b7", func := "gaoler/gaolerlaw19.EmulateSequence", spec := "emulateSequence", unfollowed := true, recurses := true, named := ["gaoler/isa.parts", "gaoler/isa.forms"], apart := false, laid := [("gaoler/isa.forms", laid_gaoler_isa_forms), ("gaoler/isa.parts", laid_gaoler_isa_parts)], narrowed := true }
def EmulateSequenceUptoSaid : Prop := emulateSequenceUptoRow.holds Tryd.pinned (OpenSpec.upto emulateSequenceSpec)

/-- 'gaolerlaw21.HandlerHandleMatchesReference', WHERE WHAT IT READS IS OF BULK AT MOST 1048576: true; the input reads as it did. -/
def handlerHandleMatchesReferenceUptoRow : OpenClaim := { program := "ytnhokcnnhmkbhaadoor", sum := "39b4275c103c0865c9f289a17e5ecb805268557441fa793b0398518fb9a044b7", func := "gaoler/gaolerlaw21.HandlerHandleMatchesReference", spec := "handlerHandleMatchesReference", unfollowed := true, recurses := true, named := ["gaoler/isa.parts", "gaoler/isa.forms"], apart := false, laid := [("gaoler/isa.forms", laid_gaoler_isa_forms), ("gaoler/isa.parts", laid_gaoler_isa_parts)], narrowed := true }
def HandlerHandleMatchesReferenceUptoSaid : Prop := handlerHandleMatchesReferenceUptoRow.holds Tryd.pinned (OpenSpec.upto handlerHandleMatchesReferenceSpec)

/-- 'gaolerlaw21.HandlerHandleFrame', WHERE WHAT IT READS IS OF BULK AT MOST 1048576: true; the input reads as it did. -/
def handlerHandleFrameUptoRow : OpenClaim := { program := "ytnhokcnnhmkbhaadoor", sum := "39b4275c103c0865c9f289a17e5ecb805268557441fa793b0398518fb9a044b7", func := "gaoler/gaolerlaw21.HandlerHandleFrame", spec := "handlerHandleFrame", unfollowed := true, recurses := true, named := ["gaoler/isa.parts", "gaoler/isa.forms"], apart := false, laid := [("gaoler/isa.forms", laid_gaoler_isa_forms), ("gaoler/isa.parts", laid_gaoler_isa_parts)], narrowed := true }
def HandlerHandleFrameUptoSaid : Prop := handlerHandleFrameUptoRow.holds Tryd.pinned (OpenSpec.upto handlerHandleFrameSpec)

/-- 'gaolerlaw21.HandlerEmulationOrReflection', WHERE WHAT IT READS IS OF BULK AT MOST 1048576: true; the input reads as it did. -/
def handlerEmulationOrReflectionUptoRow : OpenClaim := { program := "ytnhokcnnhmkbhaadoor", sum := "39b4275c103c0865c9f289a17e5ecb805268557441fa793b0398518fb9a044b7", func := "gaoler/gaolerlaw21.HandlerEmulationOrReflection", spec := "handlerEmulationOrReflection", unfollowed := true, recurses := true, named := ["gaoler/isa.parts", "gaoler/isa.forms"], apart := false, laid := [("gaoler/isa.forms", laid_gaoler_isa_forms), ("gaoler/isa.parts", laid_gaoler_isa_parts)], narrowed := true }
def HandlerEmulationOrReflectionUptoSaid : Prop := handlerEmulationOrReflectionUptoRow.holds Tryd.pinned (OpenSpec.upto handlerEmulationOrReflectionSpec)

/-- 'gaolerlaw21.HandlerHandleKeepsValidity', WHERE WHAT IT READS IS OF BULK AT MOST 1048576: true; the input reads as it did. -/
def handlerHandleKeepsValidityUptoRow : OpenClaim := { program := "ytnhokcnnhmkbhaadoor", sum := "39b4275c103c0865c9f289a17e5ecb805268557441fa793b0398518fb9a044b7", func := "gaoler/gaolerlaw21.HandlerHandleKeepsValidity", spec := "handlerHandleKeepsValidity", unfollowed := true, recurses := true, named := ["gaoler/isa.parts", "gaoler/isa.forms"], apart := false, laid := [("gaoler/isa.forms", laid_gaoler_isa_forms), ("gaoler/isa.parts", laid_gaoler_isa_parts)], narrowed := true }
def HandlerHandleKeepsValidityUptoSaid : Prop := handlerHandleKeepsValidityUptoRow.holds Tryd.pinned (OpenSpec.upto handlerHandleKeepsValiditySpec)

/-- 'gaolerlaw19.EmulationMatchesStep', WHERE WHAT IT READS IS OF BULK AT MOST 1048576: true; the input reads as it did. -/
def emulationMatchesStepUptoRow : OpenClaim := { program := "ytnhokcnnhmkbhaadoor", sum := "39b4275c103c0865c9f289a17e5ecb805268557441fa793b0398518fb9a044b7", func := "gaoler/gaolerlaw19.EmulationMatchesStep", spec := "emulationMatchesStep", unfollowed := true, recurses := true, named := ["gaoler/isa.parts", "gaoler/isa.forms", "gaoler/fetch.none"], apart := false, laid := [("gaoler/isa.forms", laid_gaoler_isa_forms), ("gaoler/isa.parts", laid_gaoler_isa_parts), ("gaoler/fetch.none", laid_gaoler_fetch_none)], narrowed := true }
def EmulationMatchesStepUptoSaid : Prop := emulationMatchesStepUptoRow.holds Tryd.pinned (OpenSpec.upto emulationMatchesStepSpec)

end Rows
end Go.Proofs.YtnhokcnnhmkbhaaDoor
