/-
  No cell of these rows narrows 'for every input' (looked for: loops, veiled, ifaces, maps, wideKeys, modest, calm, conditions, laid).
  DERIVED. THE GIVEN ROWS OF THIS SEAT. 5 by the template 'for every input the law returns true; each argument reads behind the call as it read before'; 0 by the template 'total and deterministic' (their statements: YtmbedgfkgonanaaTotals.lean).
  GIVEN WITH THE SEED: the statements are not yours to turn. If you find one false, say at which input.
  Laid BY PROGRAM, IN A SANDBOX (cutbox-rows.mjs): the forced cells as the released guide's own fill.sh prints them over the translation 3419c18ad621b8ec… (all of the seat's roots in one cut). By AI agents, Wed Nov 11 2026. No macro, syntax, notation, axiom, sorry.
-/
import Derived.Test.YtmbedgfkgonanaaChecked
import GoSem.Claim
import GoSem.ClaimJoined
import GoSem.ClaimMapViews
import Derived.JoinedTies
import Derived.KernelRfl
namespace Go.Proofs.Ytmbedgfkgonanaa
/- THE CELL 'sum', in the pinned program and in every row, IS THE sha256 OF THE DUMP (.gsa) THAT YtmbedgfkgonanaaProg.lean LOADS. Nothing in Lean hashes anything: it is a label: what it is worth is what the hold of that sum in a sandbox is worth. -/
noncomputable def Try.pinned : Pinned := { name := "ytmbedgfkgonanaa", sum := "3419c18ad621b8ec281b5c19758cf2b07b02b544281586b89ff9e340f0d478cb", checked := Try.checked }
namespace Rows
def none {H : Type} : Left H := { results := [], args := [] }

/-- 'gaolerlaw12.PrivilegedMatchesReference': WHATEVER THE INPUT: true; the input reads as it did. -/
def privilegedMatchesReferenceSpec : ChangeSpec := { name := "privilegedMatchesReference", fn := fun _ => fun
  | [d1, d2] => { results := [.lit (.bool true)], args := [d1, d2] }
  | _ => none }
def privilegedMatchesReferenceRow : OpenClaim := { program := "ytmbedgfkgonanaa", sum := "3419c18ad621b8ec281b5c19758cf2b07b02b544281586b89ff9e340f0d478cb", func := "gaoler/gaolerlaw12.PrivilegedMatchesReference", spec := "privilegedMatchesReference", unfollowed := true, recurses := true, apart := false }
def PrivilegedMatchesReferenceSaid : Prop := privilegedMatchesReferenceRow.holds Try.pinned (OpenSpec.ofChange privilegedMatchesReferenceSpec)

/-- ITS FALSE NEIGHBOUR: 'it returns false'. Refute it at one input. -/
def privilegedMatchesReferenceWrong : ChangeSpec := { name := "privilegedMatchesReference", fn := fun _ => fun
  | [d1, d2] => { results := [.lit (.bool false)], args := [d1, d2] }
  | _ => none }
def PrivilegedMatchesReferenceWrongFalsely : Prop := privilegedMatchesReferenceRow.holds Try.pinned (OpenSpec.ofChange privilegedMatchesReferenceWrong)

/-- 'gaolerlaw12.PrivilegedFrame': WHATEVER THE INPUT: true; the input reads as it did. -/
def privilegedFrameSpec : ChangeSpec := { name := "privilegedFrame", fn := fun _ => fun
  | [d1, d2] => { results := [.lit (.bool true)], args := [d1, d2] }
  | _ => none }
def privilegedFrameRow : OpenClaim := { program := "ytmbedgfkgonanaa", sum := "3419c18ad621b8ec281b5c19758cf2b07b02b544281586b89ff9e340f0d478cb", func := "gaoler/gaolerlaw12.PrivilegedFrame", spec := "privilegedFrame", unfollowed := true, recurses := true, apart := false }
def PrivilegedFrameSaid : Prop := privilegedFrameRow.holds Try.pinned (OpenSpec.ofChange privilegedFrameSpec)

/-- ITS FALSE NEIGHBOUR: 'it returns false'. Refute it at one input. -/
def privilegedFrameWrong : ChangeSpec := { name := "privilegedFrame", fn := fun _ => fun
  | [d1, d2] => { results := [.lit (.bool false)], args := [d1, d2] }
  | _ => none }
def PrivilegedFrameWrongFalsely : Prop := privilegedFrameRow.holds Try.pinned (OpenSpec.ofChange privilegedFrameWrong)

/-- 'gaolerlaw12.PrivReadWriteCsr': WHATEVER THE INPUT: true; the input reads as it did. -/
def privReadWriteCsrSpec : ChangeSpec := { name := "privReadWriteCsr", fn := fun _ => fun
  | [d1, d2, d3] => { results := [.lit (.bool true)], args := [d1, d2, d3] }
  | _ => none }
def privReadWriteCsrRow : OpenClaim := { program := "ytmbedgfkgonanaa", sum := "3419c18ad621b8ec281b5c19758cf2b07b02b544281586b89ff9e340f0d478cb", func := "gaoler/gaolerlaw12.PrivReadWriteCsr", spec := "privReadWriteCsr", unfollowed := true, recurses := true, apart := false }
def PrivReadWriteCsrSaid : Prop := privReadWriteCsrRow.holds Try.pinned (OpenSpec.ofChange privReadWriteCsrSpec)

/-- ITS FALSE NEIGHBOUR: 'it returns false'. Refute it at one input. -/
def privReadWriteCsrWrong : ChangeSpec := { name := "privReadWriteCsr", fn := fun _ => fun
  | [d1, d2, d3] => { results := [.lit (.bool false)], args := [d1, d2, d3] }
  | _ => none }
def PrivReadWriteCsrWrongFalsely : Prop := privReadWriteCsrRow.holds Try.pinned (OpenSpec.ofChange privReadWriteCsrWrong)

/-- 'gaolerlaw12.PrivEretReturns': WHATEVER THE INPUT: true; the input reads as it did. -/
def privEretReturnsSpec : ChangeSpec := { name := "privEretReturns", fn := fun _ => fun
  | [d] => { results := [.lit (.bool true)], args := [d] }
  | _ => none }
def privEretReturnsRow : OpenClaim := { program := "ytmbedgfkgonanaa", sum := "3419c18ad621b8ec281b5c19758cf2b07b02b544281586b89ff9e340f0d478cb", func := "gaoler/gaolerlaw12.PrivEretReturns", spec := "privEretReturns", unfollowed := true, recurses := true, apart := false }
def PrivEretReturnsSaid : Prop := privEretReturnsRow.holds Try.pinned (OpenSpec.ofChange privEretReturnsSpec)

/-- ITS FALSE NEIGHBOUR: 'it returns false'. Refute it at one input. -/
def privEretReturnsWrong : ChangeSpec := { name := "privEretReturns", fn := fun _ => fun
  | [d] => { results := [.lit (.bool false)], args := [d] }
  | _ => none }
def PrivEretReturnsWrongFalsely : Prop := privEretReturnsRow.holds Try.pinned (OpenSpec.ofChange privEretReturnsWrong)

/-- 'gaolerlaw12.PrivConsoleCollectsBytes': WHATEVER THE INPUT: true; the input reads as it did. -/
def privConsoleCollectsBytesSpec : ChangeSpec := { name := "privConsoleCollectsBytes", fn := fun _ => fun
  | [d1, d2] => { results := [.lit (.bool true)], args := [d1, d2] }
  | _ => none }
def privConsoleCollectsBytesRow : OpenClaim := { program := "ytmbedgfkgonanaa", sum := "3419c18ad621b8ec281b5c19758cf2b07b02b544281586b89ff9e340f0d478cb", func := "gaoler/gaolerlaw12.PrivConsoleCollectsBytes", spec := "privConsoleCollectsBytes", unfollowed := true, recurses := true, apart := false }
def PrivConsoleCollectsBytesSaid : Prop := privConsoleCollectsBytesRow.holds Try.pinned (OpenSpec.ofChange privConsoleCollectsBytesSpec)

/-- ITS FALSE NEIGHBOUR: 'it returns false'. Refute it at one input. -/
def privConsoleCollectsBytesWrong : ChangeSpec := { name := "privConsoleCollectsBytes", fn := fun _ => fun
  | [d1, d2] => { results := [.lit (.bool false)], args := [d1, d2] }
  | _ => none }
def PrivConsoleCollectsBytesWrongFalsely : Prop := privConsoleCollectsBytesRow.holds Try.pinned (OpenSpec.ofChange privConsoleCollectsBytesWrong)

/- THE SECOND FORM. 'bulk': how many values and letters a reading holds, each counted each time it is reached (what is shared counts as often as it is met; a slice's spare places count too). A statement '..UptoSaid' is the law's where the arguments, and the package variables that the reading takes, are together of bulk at most 1048576: NARROWER than '..Said'. Prove '..Said' where nothing that the law and all that it calls make is longer than what came in: it says more and counts as full. Else prove '..UptoSaid'. A law counts once. -/
mutual
def uptoBulk {H : Type} : DataW H → Nat
  | .lit (.string bytes) => bytes.length + 1
  | .lit _ => 1
  | .nil => 1
  | .ptr d => uptoBulk d + 1
  | .slice elems spare => uptoBulkAll elems + uptoBulkAll spare + 1
  | .agg parts => uptoBulkAll parts + 1
  | .iface _ d => uptoBulk d + 1
  | .map entries => uptoBulkEntries entries + 1
  | .held _ => 1
def uptoBulkAll {H : Type} : List (DataW H) → Nat
  | [] => 0
  | d :: r => uptoBulk d + uptoBulkAll r
def uptoBulkEntries {H : Type} : List (Lit × DataW H) → Nat
  | [] => 0
  | x :: r => uptoBulkEntry x + uptoBulkEntries r
def uptoBulkEntry {H : Type} : Lit × DataW H → Nat
  | (.string bytes, d) => bytes.length + uptoBulk d + 1
  | (_, d) => uptoBulk d + 1
 end
def uptoSmall : (H : Type) → List (DataW H) → Bool := fun _ ds => decide (uptoBulkAll ds ≤ 1048576)
def OpenSpec.upto (s : _root_.Go.ChangeSpec) : _root_.Go.OpenSpec := { _root_.Go.OpenSpec.ofChange s with cond := some uptoSmall }

/-- 'gaolerlaw12.PrivilegedMatchesReference', WHERE WHAT IT READS IS OF BULK AT MOST 1048576: true; the input reads as it did. -/
def privilegedMatchesReferenceUptoRow : OpenClaim := { program := "ytmbedgfkgonanaa", sum := "3419c18ad621b8ec281b5c19758cf2b07b02b544281586b89ff9e340f0d478cb", func := "gaoler/gaolerlaw12.PrivilegedMatchesReference", spec := "privilegedMatchesReference", unfollowed := true, recurses := true, apart := false, narrowed := true }
def PrivilegedMatchesReferenceUptoSaid : Prop := privilegedMatchesReferenceUptoRow.holds Try.pinned (OpenSpec.upto privilegedMatchesReferenceSpec)

/-- 'gaolerlaw12.PrivilegedFrame', WHERE WHAT IT READS IS OF BULK AT MOST 1048576: true; the input reads as it did. -/
def privilegedFrameUptoRow : OpenClaim := { program := "ytmbedgfkgonanaa", sum := "3419c18ad621b8ec281b5c19758cf2b07b02b544281586b89ff9e340f0d478cb", func := "gaoler/gaolerlaw12.PrivilegedFrame", spec := "privilegedFrame", unfollowed := true, recurses := true, apart := false, narrowed := true }
def PrivilegedFrameUptoSaid : Prop := privilegedFrameUptoRow.holds Try.pinned (OpenSpec.upto privilegedFrameSpec)

/-- 'gaolerlaw12.PrivReadWriteCsr', WHERE WHAT IT READS IS OF BULK AT MOST 1048576: true; the input reads as it did. -/
def privReadWriteCsrUptoRow : OpenClaim := { program := "ytmbedgfkgonanaa", sum := "3419c18ad621b8ec281b5c19758cf2b07b02b544281586b89ff9e340f0d478cb", func := "gaoler/gaolerlaw12.PrivReadWriteCsr", spec := "privReadWriteCsr", unfollowed := true, recurses := true, apart := false, narrowed := true }
def PrivReadWriteCsrUptoSaid : Prop := privReadWriteCsrUptoRow.holds Try.pinned (OpenSpec.upto privReadWriteCsrSpec)

/-- 'gaolerlaw12.PrivEretReturns', WHERE WHAT IT READS IS OF BULK AT MOST 1048576: true; the input reads as it did. -/
def privEretReturnsUptoRow : OpenClaim := { program := "ytmbedgfkgonanaa", sum := "3419c18ad621b8ec281b5c19758cf2b07b02b544281586b89ff9e340f0d478cb", func := "gaoler/gaolerlaw12.PrivEretReturns", spec := "privEretReturns", unfollowed := true, recurses := true, apart := false, narrowed := true }
def PrivEretReturnsUptoSaid : Prop := privEretReturnsUptoRow.holds Try.pinned (OpenSpec.upto privEretReturnsSpec)

/-- 'gaolerlaw12.PrivConsoleCollectsBytes', WHERE WHAT IT READS IS OF BULK AT MOST 1048576: true; the input reads as it did. -/
def privConsoleCollectsBytesUptoRow : OpenClaim := { program := "ytmbedgfkgonanaa", sum := "3419c18ad621b8ec281b5c19758cf2b07b02b544281586b89ff9e340f0d478cb", func := "gaoler/gaolerlaw12.PrivConsoleCollectsBytes", spec := "privConsoleCollectsBytes", unfollowed := true, recurses := true, apart := false, narrowed := true }
def PrivConsoleCollectsBytesUptoSaid : Prop := privConsoleCollectsBytesUptoRow.holds Try.pinned (OpenSpec.upto privConsoleCollectsBytesSpec)

end Rows
end Go.Proofs.Ytmbedgfkgonanaa
