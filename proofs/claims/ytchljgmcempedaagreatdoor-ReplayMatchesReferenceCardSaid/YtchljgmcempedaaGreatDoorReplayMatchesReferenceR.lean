/- The law ReplayMatchesReference: whatever its arguments, it returns true and they read as they did; the package variables that it reads are as the text lays them. -/
import Derived.Test.YtchljgmcempedaaGreatDoorReplayMatchesReferenceB5
import Derived.Test.YtchljgmcempedaaGreatDoorSh38
import Derived.Test.YtchljgmcempedaaGreatDoorRows
import Derived.Test.YtchljgmcempedaaGreatDoorCards
import Derived.Test.YtchljgmcempedaaGreatDoorTie
import Derived.KernelRfl
set_option linter.unusedVariables false
set_option linter.unusedSimpArgs false
set_option maxRecDepth 100000
namespace Go.Proofs.YtchljgmcempedaaGreatDoor.replayMatchesReference
open Go Go.RowKit Go.ChangeShapes
attribute [local irreducible] evF evFL
theorem own : ownKnob Tryz.prog.godebug = none := by kernel_rfl
theorem laidOut : laidOutB Tryz.prog = true := by kernel_rfl
theorem gk_0 : svD Tryz.prog 8 126 Rows.laid_gaoler_isa_parts = some gl_0 := by kernel_rfl
theorem gk_1 : svD Tryz.prog 8 144 Rows.laid_gaoler_isa_forms = some gl_1 := by kernel_rfl
theorem gk_2 : svD Tryz.prog 8 54 Rows.laid_gaoler_fetch_none = some gl_2 := by kernel_rfl
theorem glob_ok {W : World} (h : laidMetH Tryz.prog Rows.replayMatchesReferenceRow.laid W) : GlobOk EB_0_1_2 fun b => W.heap[b]? := fun g cs e => by
  have h : laidMet Tryz.prog Rows.replayMatchesReferenceRow.laid W := h
  have e : globs_0_1_2 g = some cs := e
  unfold globs_0_1_2 at e
  cases hb : Nat.beq g 0 with
  | true =>
    rw [hb] at e; cases e; rw [Nat.eq_of_beq_eq_true hb]
    exact glob_laid h (name := "gaoler/isa.parts") (by simp [Rows.replayMatchesReferenceRow]) (by kernel_rfl) (by kernel_rfl) gk_0
  | false =>
  rw [hb] at e; simp only [cond_false] at e; clear hb
  cases hb : Nat.beq g 1 with
  | true =>
    rw [hb] at e; cases e; rw [Nat.eq_of_beq_eq_true hb]
    exact glob_laid h (name := "gaoler/isa.forms") (by simp [Rows.replayMatchesReferenceRow]) (by kernel_rfl) (by kernel_rfl) gk_1
  | false =>
  rw [hb] at e; simp only [cond_false] at e; clear hb
  cases hb : Nat.beq g 2 with
  | true =>
    rw [hb] at e; cases e; rw [Nat.eq_of_beq_eq_true hb]
    exact glob_laid h (name := "gaoler/fetch.none") (by simp [Rows.replayMatchesReferenceRow]) (by kernel_rfl) (by kernel_rfl) gk_2
  | false =>
  rw [hb] at e; simp only [cond_false] at e; clear hb
  cases e
theorem contract (H : Type) (enc : TypeId × Value → H) (W : World) (base' : Nat) (args : Array Value) (ds gs : List (DataW H)) (before : List MemPlace)
    (hval : ∀ (j : Nat) t v, Tryz.f4.params[j]? = some t → args[j]? = some v → Value.okWide Tryz.prog W .any base' t v)
    (hW : DataW.Whole enc Tryz.prog Tryz.f4.params.toList Rows.replayMatchesReferenceSpec.vars false W args.toList ds gs before)
    (hw : (DataW.weightsEach Tryz.prog (Tryz.f4.params.toList ++ (OpenSpec.ofChange Rows.replayMatchesReferenceSpec).bare.plain.varTypes Tryz.prog) (ds ++ gs)).all (· ≤ reachBytes) = true) (hL : laidMetH Tryz.prog Rows.replayMatchesReferenceRow.laid W) :
    Calls Tryz.prog 4 args W fun e W' => ∃ v, e = .returned v ∧ Rows.replayMatchesReferenceSpec.post enc Tryz.prog Tryz.f4 false true false false W args v W' := by
  have hW' := hW
  obtain ⟨p, q, hA, hV, _, _, _⟩ := hW'
  obtain ⟨hg, _⟩ := trodVars_none hV
  subst hg
  have hvt : (OpenSpec.ofChange Rows.replayMatchesReferenceSpec).bare.plain.varTypes Tryz.prog = [] := by kernel_rfl
  rw [hvt, List.append_nil, List.append_nil] at hw
  have hw2 : ∀ m, m ∈ DataW.weightsEach Tryz.prog Tryz.f4.params.toList ds → m ≤ reachBytes := fun m hm => by simpa using List.all_eq_true.1 hw m hm
  obtain ⟨a, ra⟩ := args_any (P := Tryz.prog) (ety := ety) (ats := [.guest, .i .i64, .rd .event]) (by kernel_rfl) (fun j t v ht hv => hval j t v (by simpa using ht) (by simpa using hv)) hA hw2
  have hE : ∃ d0 d1 d2, ds = [d0, d1, d2] := by
    rw [Tryz.params4] at hA
    obtain ⟨v0, r0, d0, ds0, p0, q0, e0, hd0, _, h0, hA⟩ := trodAll_cons hA
    obtain ⟨v1, r1, d1, ds1, p1, q1, e1, hd1, _, h1, hA⟩ := trodAll_cons hA
    obtain ⟨v2, r2, d2, ds2, p2, q2, e2, hd2, _, h2, hA⟩ := trodAll_cons hA
    obtain ⟨e3, hd3, _⟩ := trodAll_nil hA
    subst hd3 hd2 hd1 hd0
    exact ⟨_, _, _, rfl⟩
  obtain ⟨d0, d1, d2, rfl⟩ := hE
  refine (law_sig (E := EB_0_1_2) c_law26_ReplayMatchesReference (glob_ok hL) ra).mono fun e W' ⟨he, hB⟩ => ?_
  exact ⟨_, he, post_law (tb := 4) laidOut (by kernel_rfl) (by kernel_rfl) (by kernel_rfl) (by kernel_rfl) rfl rfl rfl hW hB⟩
def layCells (w : World) (g : Nat) (vs : Array Value) : World := { w with heap := w.heap.modify g fun
  | .cells _ t frozen => .cells vs t frozen
  | o => o }
/-- a world for the witness -/
noncomputable def laidWorld (os : Os) : World := layCells (layCells (layCells (World.holding Tryz.prog os ⟨#[], #[], []⟩) 1 #[.int .i64 0, .int .i64 1, .int .i64 1, .int .i64 1, .int .i64 1, .int .i64 1, .int .i64 1, .int .i64 1, .int .i64 1, .int .i64 2, .int .i64 3, .int .i64 2, .int .i64 2, .int .i64 2, .int .i64 2, .int .i64 2, .int .i64 2, .int .i64 2, .int .i64 3, .int .i64 2, .int .i64 4, .int .i64 5, .int .i64 6, .int .i64 4, .int .i64 4, .int .i64 7]) 0 #[.bool false, .bool false, .bool false, .bool false, .bool false, .bool true, .bool true, .bool true, .bool false, .bool false, .bool true, .bool true, .bool false, .bool true, .bool false, .bool true, .bool false, .bool false, .bool true, .bool false, .bool false, .bool false, .bool false, .bool false, .bool false, .bool true, .bool false, .bool false, .bool false, .bool true, .bool false, .bool true, .bool false, .bool false, .bool true, .bool false, .bool true, .bool false, .bool false, .bool false]) 2 #[.int .i64 0, .int .u32 0]
def wit : Array Value := #[.agg ((([.int .u32 0] : List Value) ++ ([.int .u32 0] : List Value) : List Value) ++ ([.slice none 0 0] : List Value) ++ ((List.replicate 16 (.int .u32 0)) : List Value) ++ ([.int .u32 0] : List Value)).toArray, .int .i64 0, .slice none 0 0]
theorem laid_met (os : Os) : laidMet Tryz.prog Rows.replayMatchesReferenceRow.laid ((laidWorld os).forCall (fun _ _ => 0) ⟨#[], wit, []⟩).memory :=
  laidMet_of_run' 8 (by kernel_rfl) (by kernel_rfl)
theorem reads (os : Os) {H : Type} (enc : TypeId × Value → H) : ∃ places, DataW.whole enc Tryz.prog ((laidWorld os).forCall (fun _ _ => 0) ⟨#[], wit, []⟩).memory Tryz.f4.params.toList Rows.replayMatchesReferenceSpec.vars false wit.toList 8 = some ([.agg [.agg [.lit (.int .u32 0), .lit (.int .u32 0)], .nil, .agg (List.replicate 16 (.lit (.int .u32 0))), .lit (.int .u32 0)], .lit (.int .i64 0), .nil], [], places) :=
  ⟨[], by kernel_rfl⟩
theorem lifted (os : Os) (started : os.Started) (H : Type) (enc : TypeId × Value → H) (F : Stop.Interp) :
    ReturnsInHanded {} Tryz.checked os 4 .any ((OpenSpec.ofChange Rows.replayMatchesReferenceSpec).preRow enc Tryz.prog Tryz.f4 Rows.replayMatchesReferenceRow.domain false Rows.replayMatchesReferenceRow.laid) (((OpenSpec.ofChange Rows.replayMatchesReferenceSpec).at F).post enc Tryz.prog Tryz.f4 false true false false) := by
  obtain ⟨places, hx⟩ := reads os enc
  refine returnsInHanded_of_row (C := Tryz.checked) (s := OpenSpec.ofChange Rows.replayMatchesReferenceSpec) own started (by kernel_rfl) Tryz.func4
    (witness_row_at (enc := enc) (C := Tryz.checked) false (laidWorld os) wit rfl (by kernel_rfl) (by kernel_rfl) (by kernel_rfl)
      (OpenSpec.preRow_of_cond 8 hx (by kernel_rfl) (fun k hk => by cases hk) (by kernel_rfl) (laid_met os))) ?_
  intro W base args ds gs before hval hW _ _ hw hL _ _
  exact contract H enc W base args ds gs before hval hW hw hL
theorem said : Rows.ReplayMatchesReferenceSaid :=
  OpenClaim.holds_of_cond 4 Tryz.f4 rfl rfl rfl rfl rfl rfl rfl ⟨rfl, rfl, rfl, rfl, rfl⟩ rfl rfl rfl rfl rfl (by kernel_rfl) Tryz.func4 (by kernel_rfl)
    (of_decide_eq_true (by kernel_rfl)) (by unfold Func.isWrapper; first | (rw [if_pos (by decide +kernel)]; kernel_rfl) | (rw [if_neg (by decide +kernel)]; exact ⟨rfl, rfl⟩))
    (fun os started H enc _ F => by rw [OpenClaim.pre_eq_preRow]; exact lifted os started H enc F)
theorem plain (f : FuncId) (fn : Func) (hf : Tryz.pinned.checked.prog.funcNamed Rows.replayMatchesReferenceRow.func = some f) (hfn : Tryz.pinned.checked.prog.funcs[f]? = some fn) :
    true = Tryz.pinned.checked.prog.looks [] ∧ ∀ (j : Nat) t, fn.params[j]? = some t → Tryz.pinned.checked.prog.wantsStandIn t = false := by
  obtain rfl : f = 4 := Option.some.inj ((show Tryz.prog.funcNamed Rows.replayMatchesReferenceRow.func = some 4 by kernel_rfl).symm.trans hf) |>.symm
  obtain rfl : fn = Tryz.f4 := (Option.some.inj (Tryz.func4.symm.trans hfn)).symm
  refine ⟨by kernel_rfl, fun j t ht => ?_⟩
  have all : Tryz.f4.params.toList.all (fun t => !Tryz.prog.wantsStandIn t) = true := by kernel_rfl
  have := List.all_eq_true.1 all t (by simpa using Array.mem_of_getElem? ht)
  have h2 : Tryz.prog.wantsStandIn t = false := by simpa using this
  exact h2
theorem card : Rows.ReplayMatchesReferenceCardSaid :=
  Claim7.holds_tied_plain_at .later [] _ _ _ _ said (fun _ h => by cases h) (by kernel_rfl) (fun _ h => by cases h) replayMatchesReference_row_tie rfl ⟨rfl, rfl⟩ (by kernel_rfl) rfl plain (by kernel_rfl)
end Go.Proofs.YtchljgmcempedaaGreatDoor.replayMatchesReference
