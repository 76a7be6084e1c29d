/-
  NARROWER THAN 'FOR EVERY INPUT', by the rows' own cells (each row's printed sentence says how): CsrMatchesReference: laid · CsrWritesAreMasked: laid · CsrTimeHalves: laid · CsrWritesCommute: laid · CsrResetState: laid.
  DERIVED. THE GIVEN ROWS OF THIS SEAT. 5 by the template 'for every input the law returns true; each argument reads behind the call as it read before'; 0 by the template 'total and deterministic' (their statements: YtjddjfapfhjheaaDoorTotals.lean).
  GIVEN WITH THE SEED: the statements are not yours to turn. If you find one false, say at which input.
  Laid BY PROGRAM, IN A SANDBOX (cutbox-rows.mjs): the forced cells as the released guide's own fill.sh prints them over the translation 583d08ab5d22a3fa… (all of the seat's roots in one cut). By AI agents, Wed Nov 11 2026. No macro, syntax, notation, axiom, sorry.
-/
import Derived.Test.YtjddjfapfhjheaaDoorChecked
import GoSem.Claim
import GoSem.ClaimJoined
import GoSem.ClaimMapViews
import Derived.JoinedTies
import Derived.KernelRfl
namespace Go.Proofs.YtjddjfapfhjheaaDoor
/- THE CELL 'sum', in the pinned program and in every row, IS THE sha256 OF THE DUMP (.gsa) THAT YtjddjfapfhjheaaDoorProg.lean LOADS. Nothing in Lean hashes anything: it is a label: what it is worth is what the hold of that sum in a sandbox is worth. -/
noncomputable def Tryd.pinned : Pinned := { name := "ytjddjfapfhjheaadoor", sum := "583d08ab5d22a3fa0ff5c9029eff756581d0906a9b46808cec0fa417809ceacb", checked := Tryd.checked }
namespace Rows
def none {H : Type} : Left H := { results := [], args := [] }

/- WHAT THE LISTED PACKAGE-LEVEL VARIABLES READ AS WHEN THE CALL BEGINS. Each datum BY PROGRAM (the guide's laid-datum.mjs) off the statement by which the dump's own 'gosem.cut.vars' lays the variable. In a bare row this is a premise. The card (YtjddjfapfhjheaaDoorCards.lean) ties it to the program's text. -/
def laid_gaoler_csr_names {H : Type} : DataW H := .agg [.lit (.string [115, 116, 97, 116, 117, 115]), .lit (.string [101, 112, 99]), .lit (.string [99, 97, 117, 115, 101]), .lit (.string [116, 118, 97, 108]), .lit (.string [116, 118, 101, 99]), .lit (.string [98, 97, 115, 101]), .lit (.string [98, 111, 117, 110, 100]), .lit (.string [116, 105, 109, 101]), .lit (.string [116, 105, 109, 101, 104]), .lit (.string [99, 109, 112]), .lit (.string [99, 109, 112, 104]), .lit (.string [115, 99, 114, 97, 116, 99, 104])]

/-- 'gaolerlaw04.CsrMatchesReference': WHATEVER THE INPUT: true; the input reads as it did. -/
def csrMatchesReferenceSpec : ChangeSpec := { name := "csrMatchesReference", fn := fun _ => fun
  | [d1, d2, d3, d4, d5] => { results := [.lit (.bool true)], args := [d1, d2, d3, d4, d5] }
  | _ => none }
def csrMatchesReferenceRow : OpenClaim := { program := "ytjddjfapfhjheaadoor", sum := "583d08ab5d22a3fa0ff5c9029eff756581d0906a9b46808cec0fa417809ceacb", func := "gaoler/gaolerlaw04.CsrMatchesReference", spec := "csrMatchesReference", named := ["gaoler/csr.names"], apart := false, laid := [("gaoler/csr.names", laid_gaoler_csr_names)] }
def CsrMatchesReferenceSaid : Prop := csrMatchesReferenceRow.holds Tryd.pinned (OpenSpec.ofChange csrMatchesReferenceSpec)

/-- ITS FALSE NEIGHBOUR: 'it returns false'. Refute it at one input. -/
def csrMatchesReferenceWrong : ChangeSpec := { name := "csrMatchesReference", fn := fun _ => fun
  | [d1, d2, d3, d4, d5] => { results := [.lit (.bool false)], args := [d1, d2, d3, d4, d5] }
  | _ => none }
def CsrMatchesReferenceWrongFalsely : Prop := csrMatchesReferenceRow.holds Tryd.pinned (OpenSpec.ofChange csrMatchesReferenceWrong)

/-- 'gaolerlaw04.CsrWritesAreMasked': WHATEVER THE INPUT: true; the input reads as it did. -/
def csrWritesAreMaskedSpec : ChangeSpec := { name := "csrWritesAreMasked", fn := fun _ => fun
  | [d1, d2, d3, d4, d5, d6] => { results := [.lit (.bool true)], args := [d1, d2, d3, d4, d5, d6] }
  | _ => none }
def csrWritesAreMaskedRow : OpenClaim := { program := "ytjddjfapfhjheaadoor", sum := "583d08ab5d22a3fa0ff5c9029eff756581d0906a9b46808cec0fa417809ceacb", func := "gaoler/gaolerlaw04.CsrWritesAreMasked", spec := "csrWritesAreMasked", named := ["gaoler/csr.names"], apart := false, laid := [("gaoler/csr.names", laid_gaoler_csr_names)] }
def CsrWritesAreMaskedSaid : Prop := csrWritesAreMaskedRow.holds Tryd.pinned (OpenSpec.ofChange csrWritesAreMaskedSpec)

/-- ITS FALSE NEIGHBOUR: 'it returns false'. Refute it at one input. -/
def csrWritesAreMaskedWrong : ChangeSpec := { name := "csrWritesAreMasked", fn := fun _ => fun
  | [d1, d2, d3, d4, d5, d6] => { results := [.lit (.bool false)], args := [d1, d2, d3, d4, d5, d6] }
  | _ => none }
def CsrWritesAreMaskedWrongFalsely : Prop := csrWritesAreMaskedRow.holds Tryd.pinned (OpenSpec.ofChange csrWritesAreMaskedWrong)

/-- 'gaolerlaw04.CsrTimeHalves': WHATEVER THE INPUT: true; the input reads as it did. -/
def csrTimeHalvesSpec : ChangeSpec := { name := "csrTimeHalves", fn := fun _ => fun
  | [d1, d2, d3, d4] => { results := [.lit (.bool true)], args := [d1, d2, d3, d4] }
  | _ => none }
def csrTimeHalvesRow : OpenClaim := { program := "ytjddjfapfhjheaadoor", sum := "583d08ab5d22a3fa0ff5c9029eff756581d0906a9b46808cec0fa417809ceacb", func := "gaoler/gaolerlaw04.CsrTimeHalves", spec := "csrTimeHalves", named := ["gaoler/csr.names"], apart := false, laid := [("gaoler/csr.names", laid_gaoler_csr_names)] }
def CsrTimeHalvesSaid : Prop := csrTimeHalvesRow.holds Tryd.pinned (OpenSpec.ofChange csrTimeHalvesSpec)

/-- ITS FALSE NEIGHBOUR: 'it returns false'. Refute it at one input. -/
def csrTimeHalvesWrong : ChangeSpec := { name := "csrTimeHalves", fn := fun _ => fun
  | [d1, d2, d3, d4] => { results := [.lit (.bool false)], args := [d1, d2, d3, d4] }
  | _ => none }
def CsrTimeHalvesWrongFalsely : Prop := csrTimeHalvesRow.holds Tryd.pinned (OpenSpec.ofChange csrTimeHalvesWrong)

/-- 'gaolerlaw04.CsrWritesCommute': WHATEVER THE INPUT: true; the input reads as it did. -/
def csrWritesCommuteSpec : ChangeSpec := { name := "csrWritesCommute", fn := fun _ => fun
  | [d1, d2, d3, d4, d5] => { results := [.lit (.bool true)], args := [d1, d2, d3, d4, d5] }
  | _ => none }
def csrWritesCommuteRow : OpenClaim := { program := "ytjddjfapfhjheaadoor", sum := "583d08ab5d22a3fa0ff5c9029eff756581d0906a9b46808cec0fa417809ceacb", func := "gaoler/gaolerlaw04.CsrWritesCommute", spec := "csrWritesCommute", named := ["gaoler/csr.names"], apart := false, laid := [("gaoler/csr.names", laid_gaoler_csr_names)] }
def CsrWritesCommuteSaid : Prop := csrWritesCommuteRow.holds Tryd.pinned (OpenSpec.ofChange csrWritesCommuteSpec)

/-- ITS FALSE NEIGHBOUR: 'it returns false'. Refute it at one input. -/
def csrWritesCommuteWrong : ChangeSpec := { name := "csrWritesCommute", fn := fun _ => fun
  | [d1, d2, d3, d4, d5] => { results := [.lit (.bool false)], args := [d1, d2, d3, d4, d5] }
  | _ => none }
def CsrWritesCommuteWrongFalsely : Prop := csrWritesCommuteRow.holds Tryd.pinned (OpenSpec.ofChange csrWritesCommuteWrong)

/-- 'gaolerlaw04.CsrResetState': WHATEVER THE INPUT: true; the input reads as it did. -/
def csrResetStateSpec : ChangeSpec := { name := "csrResetState", fn := fun _ => fun
  | [d1, d2] => { results := [.lit (.bool true)], args := [d1, d2] }
  | _ => none }
def csrResetStateRow : OpenClaim := { program := "ytjddjfapfhjheaadoor", sum := "583d08ab5d22a3fa0ff5c9029eff756581d0906a9b46808cec0fa417809ceacb", func := "gaoler/gaolerlaw04.CsrResetState", spec := "csrResetState", named := ["gaoler/csr.names"], apart := false, laid := [("gaoler/csr.names", laid_gaoler_csr_names)] }
def CsrResetStateSaid : Prop := csrResetStateRow.holds Tryd.pinned (OpenSpec.ofChange csrResetStateSpec)

/-- ITS FALSE NEIGHBOUR: 'it returns false'. Refute it at one input. -/
def csrResetStateWrong : ChangeSpec := { name := "csrResetState", fn := fun _ => fun
  | [d1, d2] => { results := [.lit (.bool false)], args := [d1, d2] }
  | _ => none }
def CsrResetStateWrongFalsely : Prop := csrResetStateRow.holds Tryd.pinned (OpenSpec.ofChange csrResetStateWrong)

/- THE SECOND FORM. 'bulk': how many values and letters a reading holds, each counted each time it is reached (what is shared counts as often as it is met; a slice's spare places count too). A statement '..UptoSaid' is the law's where the arguments, and the package variables that the reading takes, are together of bulk at most 1048576: NARROWER than '..Said'. Prove '..Said' where nothing that the law and all that it calls make is longer than what came in: it says more and counts as full. Else prove '..UptoSaid'. A law counts once. -/
mutual
def uptoBulk {H : Type} : DataW H → Nat
  | .lit (.string bytes) => bytes.length + 1
  | .lit _ => 1
  | .nil => 1
  | .ptr d => uptoBulk d + 1
  | .slice elems spare => uptoBulkAll elems + uptoBulkAll spare + 1
  | .agg parts => uptoBulkAll parts + 1
  | .iface _ d => uptoBulk d + 1
  | .map entries => uptoBulkEntries entries + 1
  | .held _ => 1
def uptoBulkAll {H : Type} : List (DataW H) → Nat
  | [] => 0
  | d :: r => uptoBulk d + uptoBulkAll r
def uptoBulkEntries {H : Type} : List (Lit × DataW H) → Nat
  | [] => 0
  | x :: r => uptoBulkEntry x + uptoBulkEntries r
def uptoBulkEntry {H : Type} : Lit × DataW H → Nat
  | (.string bytes, d) => bytes.length + uptoBulk d + 1
  | (_, d) => uptoBulk d + 1
 end
def uptoSmall : (H : Type) → List (DataW H) → Bool := fun _ ds => decide (uptoBulkAll ds ≤ 1048576)
def OpenSpec.upto (s : _root_.Go.ChangeSpec) : _root_.Go.OpenSpec := { _root_.Go.OpenSpec.ofChange s with cond := some uptoSmall }

/-- 'gaolerlaw04.CsrMatchesReference', WHERE WHAT IT READS IS OF BULK AT MOST 1048576: true; the input reads as it did. -/
def csrMatchesReferenceUptoRow : OpenClaim := { program := "ytjddjfapfhjheaadoor", sum := "583d08ab5d22a3fa0ff5c9029eff756581d0906a9b46808cec0fa417809ceacb", func := "gaoler/gaolerlaw04.CsrMatchesReference", spec := "csrMatchesReference", named := ["gaoler/csr.names"], apart := false, laid := [("gaoler/csr.names", laid_gaoler_csr_names)], narrowed := true }
def CsrMatchesReferenceUptoSaid : Prop := csrMatchesReferenceUptoRow.holds Tryd.pinned (OpenSpec.upto csrMatchesReferenceSpec)

/-- 'gaolerlaw04.CsrWritesAreMasked', WHERE WHAT IT READS IS OF BULK AT MOST 1048576: true; the input reads as it did. -/
def csrWritesAreMaskedUptoRow : OpenClaim := { program := "ytjddjfapfhjheaadoor", sum := "583d08ab5d22a3fa0ff5c9029eff756581d0906a9b46808cec0fa417809ceacb", func := "gaoler/gaolerlaw04.CsrWritesAreMasked", spec := "csrWritesAreMasked", named := ["gaoler/csr.names"], apart := false, laid := [("gaoler/csr.names", laid_gaoler_csr_names)], narrowed := true }
def CsrWritesAreMaskedUptoSaid : Prop := csrWritesAreMaskedUptoRow.holds Tryd.pinned (OpenSpec.upto csrWritesAreMaskedSpec)

/-- 'gaolerlaw04.CsrTimeHalves', WHERE WHAT IT READS IS OF BULK AT MOST 1048576: true; the input reads as it did. -/
def csrTimeHalvesUptoRow : OpenClaim := { program := "ytjddjfapfhjheaadoor", sum := "583d08ab5d22a3fa0ff5c9029eff756581d0906a9b46808cec0fa417809ceacb", func := "gaoler/gaolerlaw04.CsrTimeHalves", spec := "csrTimeHalves", named := ["gaoler/csr.names"], apart := false, laid := [("gaoler/csr.names", laid_gaoler_csr_names)], narrowed := true }
def CsrTimeHalvesUptoSaid : Prop := csrTimeHalvesUptoRow.holds Tryd.pinned (OpenSpec.upto csrTimeHalvesSpec)

/-- 'gaolerlaw04.CsrWritesCommute', WHERE WHAT IT READS IS OF BULK AT MOST 1048576: true; the input reads as it did. -/
def csrWritesCommuteUptoRow : OpenClaim := { program := "ytjddjfapfhjheaadoor", sum := "583d08ab5d22a3fa0ff5c9029eff756581d0906a9b46808cec0fa417809ceacb", func := "gaoler/gaolerlaw04.CsrWritesCommute", spec := "csrWritesCommute", named := ["gaoler/csr.names"], apart := false, laid := [("gaoler/csr.names", laid_gaoler_csr_names)], narrowed := true }
def CsrWritesCommuteUptoSaid : Prop := csrWritesCommuteUptoRow.holds Tryd.pinned (OpenSpec.upto csrWritesCommuteSpec)

/-- 'gaolerlaw04.CsrResetState', WHERE WHAT IT READS IS OF BULK AT MOST 1048576: true; the input reads as it did. -/
def csrResetStateUptoRow : OpenClaim := { program := "ytjddjfapfhjheaadoor", sum := "583d08ab5d22a3fa0ff5c9029eff756581d0906a9b46808cec0fa417809ceacb", func := "gaoler/gaolerlaw04.CsrResetState", spec := "csrResetState", named := ["gaoler/csr.names"], apart := false, laid := [("gaoler/csr.names", laid_gaoler_csr_names)], narrowed := true }
def CsrResetStateUptoSaid : Prop := csrResetStateUptoRow.holds Tryd.pinned (OpenSpec.upto csrResetStateSpec)

end Rows
end Go.Proofs.YtjddjfapfhjheaaDoor
