/- The law CsrMatchesReference: whatever its arguments, it returns true and they read as they did; the package variables that it reads are as the text lays them. -/
import Derived.Test.YtjddjfapfhjheaaDoorCsrMatchesReferenceB1
import Derived.Test.YtjddjfapfhjheaaDoorSh29
import Derived.Test.YtjddjfapfhjheaaDoorRows
import Derived.Test.YtjddjfapfhjheaaDoorCards
import Derived.Test.YtjddjfapfhjheaaDoorTie
import Derived.KernelRfl
set_option linter.unusedVariables false
set_option linter.unusedSimpArgs false
set_option maxRecDepth 100000
namespace Go.Proofs.YtjddjfapfhjheaaDoor.csrMatchesReference
open Go Go.RowKit Go.ChangeShapes
attribute [local irreducible] evF evFL
theorem own : ownKnob Tryd.prog.godebug = none := by kernel_rfl
theorem laidOut : laidOutB Tryd.prog = true := by kernel_rfl
theorem gk_0 : svD Tryd.prog 8 41 Rows.laid_gaoler_csr_names = some gl_0 := by kernel_rfl
theorem glob_ok {W : World} (h : laidMetH Tryd.prog Rows.csrMatchesReferenceRow.laid W) : GlobOk EB_0 fun b => W.heap[b]? := fun g cs e => by
  have h : laidMet Tryd.prog Rows.csrMatchesReferenceRow.laid W := h
  have e : globs_0 g = some cs := e
  unfold globs_0 at e
  cases hb : Nat.beq g 0 with
  | true =>
    rw [hb] at e; cases e; rw [Nat.eq_of_beq_eq_true hb]
    exact glob_laid h (name := "gaoler/csr.names") (by simp [Rows.csrMatchesReferenceRow]) (by kernel_rfl) (by kernel_rfl) gk_0
  | false =>
  rw [hb] at e; simp only [cond_false] at e; clear hb
  cases e
theorem contract (H : Type) (enc : TypeId × Value → H) (W : World) (base' : Nat) (args : Array Value) (ds gs : List (DataW H)) (before : List MemPlace)
    (hval : ∀ (j : Nat) t v, Tryd.f3.params[j]? = some t → args[j]? = some v → Value.okWide Tryd.prog W .any base' t v)
    (hW : DataW.Whole enc Tryd.prog Tryd.f3.params.toList Rows.csrMatchesReferenceSpec.vars false W args.toList ds gs before)
    (hw : (DataW.weightsEach Tryd.prog (Tryd.f3.params.toList ++ (OpenSpec.ofChange Rows.csrMatchesReferenceSpec).bare.plain.varTypes Tryd.prog) (ds ++ gs)).all (· ≤ reachBytes) = true) (hL : laidMetH Tryd.prog Rows.csrMatchesReferenceRow.laid W) :
    Calls Tryd.prog 3 args W fun e W' => ∃ v, e = .returned v ∧ Rows.csrMatchesReferenceSpec.post enc Tryd.prog Tryd.f3 false true false false W args v W' := by
  have hW' := hW
  obtain ⟨p, q, hA, hV, _, _, _⟩ := hW'
  obtain ⟨hg, _⟩ := trodVars_none hV
  subst hg
  have hvt : (OpenSpec.ofChange Rows.csrMatchesReferenceSpec).bare.plain.varTypes Tryd.prog = [] := by kernel_rfl
  rw [hvt, List.append_nil, List.append_nil] at hw
  have hw2 : ∀ m, m ∈ DataW.weightsEach Tryd.prog Tryd.f3.params.toList ds → m ≤ reachBytes := fun m hm => by simpa using List.all_eq_true.1 hw m hm
  obtain ⟨a, ra⟩ := args_any (P := Tryd.prog) (ety := ety) (ats := [.a .u32 12, .i .u64, .i .i64, .str, .i .u32]) (by kernel_rfl) (fun j t v ht hv => hval j t v (by simpa using ht) (by simpa using hv)) hA hw2
  have hE : ∃ d0 d1 d2 d3 d4, ds = [d0, d1, d2, d3, d4] := by
    rw [Tryd.params3] at hA
    obtain ⟨v0, r0, d0, ds0, p0, q0, e0, hd0, _, h0, hA⟩ := trodAll_cons hA
    obtain ⟨v1, r1, d1, ds1, p1, q1, e1, hd1, _, h1, hA⟩ := trodAll_cons hA
    obtain ⟨v2, r2, d2, ds2, p2, q2, e2, hd2, _, h2, hA⟩ := trodAll_cons hA
    obtain ⟨v3, r3, d3, ds3, p3, q3, e3, hd3, _, h3, hA⟩ := trodAll_cons hA
    obtain ⟨v4, r4, d4, ds4, p4, q4, e4, hd4, _, h4, hA⟩ := trodAll_cons hA
    obtain ⟨e5, hd5, _⟩ := trodAll_nil hA
    subst hd5 hd4 hd3 hd2 hd1 hd0
    exact ⟨_, _, _, _, _, rfl⟩
  obtain ⟨d0, d1, d2, d3, d4, rfl⟩ := hE
  refine (law_sig (E := EB_0) c_law04_CsrMatchesReference (glob_ok hL) ra).mono fun e W' ⟨he, hB⟩ => ?_
  exact ⟨_, he, post_law (tb := 4) laidOut (by kernel_rfl) (by kernel_rfl) (by kernel_rfl) (by kernel_rfl) rfl rfl rfl hW hB⟩
def layCells (w : World) (g : Nat) (vs : Array Value) : World := { w with heap := w.heap.modify g fun
  | .cells _ t frozen => .cells vs t frozen
  | o => o }
/-- a world for the witness -/
noncomputable def laidWorld (os : Os) : World := layCells (World.holding Tryd.prog os ⟨#[], #[], []⟩) 0 #[.string ⟨#[115, 116, 97, 116, 117, 115]⟩, .string ⟨#[101, 112, 99]⟩, .string ⟨#[99, 97, 117, 115, 101]⟩, .string ⟨#[116, 118, 97, 108]⟩, .string ⟨#[116, 118, 101, 99]⟩, .string ⟨#[98, 97, 115, 101]⟩, .string ⟨#[98, 111, 117, 110, 100]⟩, .string ⟨#[116, 105, 109, 101]⟩, .string ⟨#[116, 105, 109, 101, 104]⟩, .string ⟨#[99, 109, 112]⟩, .string ⟨#[99, 109, 112, 104]⟩, .string ⟨#[115, 99, 114, 97, 116, 99, 104]⟩]
def wit : Array Value := #[.agg (List.replicate 12 (.int .u32 0)).toArray, .int .u64 0, .int .i64 0, .string ⟨#[]⟩, .int .u32 0]
theorem laid_met (os : Os) : laidMet Tryd.prog Rows.csrMatchesReferenceRow.laid ((laidWorld os).forCall (fun _ _ => 0) ⟨#[], wit, []⟩).memory :=
  laidMet_of_run' 8 (by kernel_rfl) (by kernel_rfl)
theorem reads (os : Os) {H : Type} (enc : TypeId × Value → H) : ∃ places, DataW.whole enc Tryd.prog ((laidWorld os).forCall (fun _ _ => 0) ⟨#[], wit, []⟩).memory Tryd.f3.params.toList Rows.csrMatchesReferenceSpec.vars false wit.toList 8 = some ([.agg (List.replicate 12 (.lit (.int .u32 0))), .lit (.int .u64 0), .lit (.int .i64 0), .lit (.string []), .lit (.int .u32 0)], [], places) :=
  ⟨[], by kernel_rfl⟩
theorem lifted (os : Os) (started : os.Started) (H : Type) (enc : TypeId × Value → H) (F : Stop.Interp) :
    ReturnsInHanded {} Tryd.checked os 3 .any ((OpenSpec.ofChange Rows.csrMatchesReferenceSpec).preRow enc Tryd.prog Tryd.f3 Rows.csrMatchesReferenceRow.domain false Rows.csrMatchesReferenceRow.laid) (((OpenSpec.ofChange Rows.csrMatchesReferenceSpec).at F).post enc Tryd.prog Tryd.f3 false true false false) := by
  obtain ⟨places, hx⟩ := reads os enc
  refine returnsInHanded_of_row (C := Tryd.checked) (s := OpenSpec.ofChange Rows.csrMatchesReferenceSpec) own started (by kernel_rfl) Tryd.func3
    (witness_row_at (enc := enc) (C := Tryd.checked) false (laidWorld os) wit rfl (by kernel_rfl) (by kernel_rfl) (by kernel_rfl)
      (OpenSpec.preRow_of_cond 8 hx (by kernel_rfl) (fun k hk => by cases hk) (by kernel_rfl) (laid_met os))) ?_
  intro W base args ds gs before hval hW _ _ hw hL _ _
  exact contract H enc W base args ds gs before hval hW hw hL
theorem said : Rows.CsrMatchesReferenceSaid :=
  OpenClaim.holds_of_cond 3 Tryd.f3 rfl rfl rfl rfl rfl rfl rfl ⟨rfl, rfl, rfl, rfl, rfl⟩ rfl rfl rfl rfl rfl (by kernel_rfl) Tryd.func3 (by kernel_rfl)
    (of_decide_eq_true (by kernel_rfl)) (by unfold Func.isWrapper; first | (rw [if_pos (by decide +kernel)]; kernel_rfl) | (rw [if_neg (by decide +kernel)]; exact ⟨rfl, rfl⟩))
    (fun os started H enc _ F => by rw [OpenClaim.pre_eq_preRow]; exact lifted os started H enc F)
theorem plain (f : FuncId) (fn : Func) (hf : Tryd.pinned.checked.prog.funcNamed Rows.csrMatchesReferenceRow.func = some f) (hfn : Tryd.pinned.checked.prog.funcs[f]? = some fn) :
    false = Tryd.pinned.checked.prog.looks [] ∧ ∀ (j : Nat) t, fn.params[j]? = some t → Tryd.pinned.checked.prog.wantsStandIn t = false := by
  obtain rfl : f = 3 := Option.some.inj ((show Tryd.prog.funcNamed Rows.csrMatchesReferenceRow.func = some 3 by kernel_rfl).symm.trans hf) |>.symm
  obtain rfl : fn = Tryd.f3 := (Option.some.inj (Tryd.func3.symm.trans hfn)).symm
  refine ⟨by kernel_rfl, fun j t ht => ?_⟩
  have all : Tryd.f3.params.toList.all (fun t => !Tryd.prog.wantsStandIn t) = true := by kernel_rfl
  have := List.all_eq_true.1 all t (by simpa using Array.mem_of_getElem? ht)
  have h2 : Tryd.prog.wantsStandIn t = false := by simpa using this
  exact h2
theorem card : Rows.CsrMatchesReferenceCardSaid :=
  Claim7.holds_tied_plain_at .later [] _ _ _ _ said (fun _ h => by cases h) (by kernel_rfl) (fun _ h => by cases h) csrMatchesReference_row_tie rfl ⟨rfl, rfl⟩ (by kernel_rfl) rfl plain (by kernel_rfl)
end Go.Proofs.YtjddjfapfhjheaaDoor.csrMatchesReference
