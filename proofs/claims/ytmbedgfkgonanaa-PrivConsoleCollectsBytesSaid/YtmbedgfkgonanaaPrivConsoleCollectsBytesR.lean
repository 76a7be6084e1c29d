/- The law PrivConsoleCollectsBytes: whatever its arguments, it returns true and they read as they did. -/
import Derived.Test.YtmbedgfkgonanaaPrivConsoleCollectsBytesB1
import Derived.Test.YtmbedgfkgonanaaSh28
import Derived.Test.YtmbedgfkgonanaaRows
import Derived.KernelRfl
set_option linter.unusedVariables false
set_option linter.unusedSimpArgs false
set_option maxRecDepth 100000
namespace Go.Proofs.Ytmbedgfkgonanaa.privConsoleCollectsBytes
open Go Go.RowKit Go.ChangeShapes
attribute [local irreducible] evF evFL
theorem own : ownKnob Try.prog.godebug = none := by kernel_rfl
theorem laidOut : laidOutB Try.prog = true := by kernel_rfl
theorem glob_ok {W : World} (h : laidMetH Try.prog Rows.privConsoleCollectsBytesRow.laid W) : GlobOk EB fun b => W.heap[b]? := fun g cs e => by cases e
theorem contract (H : Type) (enc : TypeId × Value → H) (W : World) (base' : Nat) (args : Array Value) (ds gs : List (DataW H)) (before : List MemPlace)
    (hval : ∀ (j : Nat) t v, Try.f7.params[j]? = some t → args[j]? = some v → Value.okWide Try.prog W .any base' t v)
    (hW : DataW.Whole enc Try.prog Try.f7.params.toList Rows.privConsoleCollectsBytesSpec.vars false W args.toList ds gs before)
    (hw : (DataW.weightsEach Try.prog (Try.f7.params.toList ++ (OpenSpec.ofChange Rows.privConsoleCollectsBytesSpec).bare.plain.varTypes Try.prog) (ds ++ gs)).all (· ≤ reachBytes) = true) (hL : laidMetH Try.prog Rows.privConsoleCollectsBytesRow.laid W) :
    Calls Try.prog 7 args W fun e W' => ∃ v, e = .returned v ∧ Rows.privConsoleCollectsBytesSpec.post enc Try.prog Try.f7 false true false false W args v W' := by
  have hW' := hW
  obtain ⟨p, q, hA, hV, _, _, _⟩ := hW'
  obtain ⟨hg, _⟩ := trodVars_none hV
  subst hg
  have hvt : (OpenSpec.ofChange Rows.privConsoleCollectsBytesSpec).bare.plain.varTypes Try.prog = [] := by kernel_rfl
  rw [hvt, List.append_nil, List.append_nil] at hw
  have hw2 : ∀ m, m ∈ DataW.weightsEach Try.prog Try.f7.params.toList ds → m ≤ reachBytes := fun m hm => by simpa using List.all_eq_true.1 hw m hm
  obtain ⟨a, ra⟩ := args_any (P := Try.prog) (ety := ety) (ats := [.mach, .rd .u8]) (by kernel_rfl) (fun j t v ht hv => hval j t v (by simpa using ht) (by simpa using hv)) hA hw2
  have hE : ∃ d0 d1, ds = [d0, d1] := by
    rw [Try.params7] at hA
    obtain ⟨v0, r0, d0, ds0, p0, q0, e0, hd0, _, h0, hA⟩ := trodAll_cons hA
    obtain ⟨v1, r1, d1, ds1, p1, q1, e1, hd1, _, h1, hA⟩ := trodAll_cons hA
    obtain ⟨e2, hd2, _⟩ := trodAll_nil hA
    subst hd2 hd1 hd0
    exact ⟨_, _, rfl⟩
  obtain ⟨d0, d1, rfl⟩ := hE
  refine (law_sig (E := EB) c_law12_PrivConsoleCollectsBytes (glob_ok hL) ra).mono fun e W' ⟨he, hB⟩ => ?_
  exact ⟨_, he, post_law (tb := 4) laidOut (by kernel_rfl) (by kernel_rfl) (by kernel_rfl) (by kernel_rfl) rfl rfl rfl hW hB⟩
/-- a world for the witness -/
noncomputable def laidWorld (os : Os) : World := World.holding Try.prog os ⟨#[], #[], []⟩
def wit : Array Value := #[.agg ((((List.replicate 16 (.int .u32 0)) : List Value) ++ ([.int .u32 0] : List Value) ++ ((List.replicate 12 (.int .u32 0)) : List Value) : List Value) ++ ([.slice none 0 0] : List Value) ++ ([.int .u64 0] : List Value) ++ ([.slice none 0 0] : List Value) ++ ([.bool false] : List Value)).toArray, .slice none 0 0]
theorem laid_met (os : Os) : laidMet Try.prog Rows.privConsoleCollectsBytesRow.laid ((laidWorld os).forCall (fun _ _ => 0) ⟨#[], wit, []⟩).memory :=
  laidMet_of_run' 8 (by kernel_rfl) (by kernel_rfl)
theorem reads (os : Os) {H : Type} (enc : TypeId × Value → H) : ∃ places, DataW.whole enc Try.prog ((laidWorld os).forCall (fun _ _ => 0) ⟨#[], wit, []⟩).memory Try.f7.params.toList Rows.privConsoleCollectsBytesSpec.vars false wit.toList 8 = some ([.agg [.agg [.agg (List.replicate 16 (.lit (.int .u32 0))), .lit (.int .u32 0), .agg (List.replicate 12 (.lit (.int .u32 0)))], .nil, .lit (.int .u64 0), .nil, .lit (.bool false)], .nil], [], places) :=
  ⟨[], by kernel_rfl⟩
theorem lifted (os : Os) (started : os.Started) (H : Type) (enc : TypeId × Value → H) (F : Stop.Interp) :
    ReturnsInHanded {} Try.checked os 7 .any ((OpenSpec.ofChange Rows.privConsoleCollectsBytesSpec).preRow enc Try.prog Try.f7 Rows.privConsoleCollectsBytesRow.domain false Rows.privConsoleCollectsBytesRow.laid) (((OpenSpec.ofChange Rows.privConsoleCollectsBytesSpec).at F).post enc Try.prog Try.f7 false true false false) := by
  obtain ⟨places, hx⟩ := reads os enc
  refine returnsInHanded_of_row (C := Try.checked) (s := OpenSpec.ofChange Rows.privConsoleCollectsBytesSpec) own started (by kernel_rfl) Try.func7
    (witness_row_at (enc := enc) (C := Try.checked) false (laidWorld os) wit rfl (by kernel_rfl) (by kernel_rfl) (by kernel_rfl)
      (OpenSpec.preRow_of_cond 8 hx (by kernel_rfl) (fun k hk => by cases hk) (by kernel_rfl) (laid_met os))) ?_
  intro W base args ds gs before hval hW _ _ hw hL _ _
  exact contract H enc W base args ds gs before hval hW hw hL
theorem said : Rows.PrivConsoleCollectsBytesSaid :=
  OpenClaim.holds_of_cond 7 Try.f7 rfl rfl rfl rfl rfl rfl rfl ⟨rfl, rfl, rfl, rfl, rfl⟩ rfl rfl rfl rfl rfl (by kernel_rfl) Try.func7 (by kernel_rfl)
    (of_decide_eq_true (by kernel_rfl)) (by unfold Func.isWrapper; first | (rw [if_pos (by decide +kernel)]; kernel_rfl) | (rw [if_neg (by decide +kernel)]; exact ⟨rfl, rfl⟩))
    (fun os started H enc _ F => by rw [OpenClaim.pre_eq_preRow]; exact lifted os started H enc F)
end Go.Proofs.Ytmbedgfkgonanaa.privConsoleCollectsBytes
