/- The row CsrWritesAreMasked: whatever the CSR file, the time, the two numbers and the two values, the law returns true and its arguments read as they did; the package's table of names is as the program's text lays it. -/
import Derived.Test.YtjddjfapfhjheaaDoorL4
import Derived.Test.YtjddjfapfhjheaaDoorSh23
import Derived.Test.YtjddjfapfhjheaaDoorCards
import Derived.Test.YtjddjfapfhjheaaDoorTie
set_option linter.unusedVariables false
set_option linter.unusedSimpArgs false
set_option maxRecDepth 100000
namespace Go.Proofs.YtjddjfapfhjheaaDoor.csrWritesAreMasked
open Go Go.RowKit Go.ChangeShapes
attribute [local irreducible] evF
theorem own : ownKnob Tryd.prog.godebug = none := by kernel_rfl
theorem laidOut : laidOutB Tryd.prog = true := by kernel_rfl
theorem names_len : ∀ s ∈ nameL, s.size ≤ lim := by
  intro s hs
  have : nameL.all (fun s => Nat.ble s.size lim) = true := by kernel_rfl
  exact Nat.le_of_ble_eq_true (List.all_eq_true.1 this s hs)
theorem glob_ok {W : World} {spec : FuncId → Option Spec} (h : laidMetH Tryd.prog Rows.csrWritesAreMaskedRow.laid W) : GlobOk (base spec) fun b => W.heap[b]? := fun g cs e => by
  have e' : (bif Nat.beq g 0 then some (nameL.map fun s => SV.v (.string s)) else none) = some cs := e
  cases hb : Nat.beq g 0 with
  | false => rw [hb] at e'; cases e'
  | true =>
    rw [hb] at e'; cases e'
    obtain rfl := Nat.eq_of_beq_eq_true hb
    have h' : laidMet Tryd.prog [("gaoler/csr.names", .agg (nameL.map fun s => .lit (.string s.data.toList)))] W := h
    obtain ⟨ty, fz, hh⟩ := glob_strs (g := 0) (t := 41) (e := 9) (n := 12) (by kernel_rfl) (by kernel_rfl) (by kernel_rfl) (by kernel_rfl) (by kernel_rfl) (by kernel_rfl) (by kernel_rfl) h'
    exact ⟨_, ty, fz, hh, repC_strs names_len⟩
theorem contract (H : Type) (enc : TypeId × Value → H) (W : World) (base' : Nat) (args : Array Value) (ds gs : List (DataW H)) (before : List MemPlace)
    (hval : ∀ (j : Nat) t v, Tryd.f4.params[j]? = some t → args[j]? = some v → Value.okWide Tryd.prog W .any base' t v)
    (hW : DataW.Whole enc Tryd.prog Tryd.f4.params.toList Rows.csrWritesAreMaskedSpec.vars false W args.toList ds gs before) (hL : laidMetH Tryd.prog Rows.csrWritesAreMaskedRow.laid W) :
    Calls Tryd.prog 4 args W fun e W' => ∃ v, e = .returned v ∧ Rows.csrWritesAreMaskedSpec.post enc Tryd.prog Tryd.f4 false true false false W args v W' := by
  have hW' := hW
  obtain ⟨p, q, hA, hV, _, _, _⟩ := hW'
  rw [Tryd.params4] at hA hval
  obtain ⟨v0, r0, d0, ds0, p0, q0, e0, hd0, _, h0, hA⟩ := trodAll_cons hA
  obtain ⟨v1, r1, d1, ds1, p1, q1, e1, hd1, _, h1, hA⟩ := trodAll_cons hA
  obtain ⟨v2, r2, d2, ds2, p2, q2, e2, hd2, _, h2, hA⟩ := trodAll_cons hA
  obtain ⟨v3, r3, d3, ds3, p3, q3, e3, hd3, _, h3, hA⟩ := trodAll_cons hA
  obtain ⟨v4, r4, d4, ds4, p4, q4, e4, hd4, _, h4, hA⟩ := trodAll_cons hA
  obtain ⟨v5, r5, d5, ds5, p5, q5, e5, hd5, _, h5, hA⟩ := trodAll_cons hA
  obtain ⟨e6, hd6, _⟩ := trodAll_nil hA
  obtain ⟨hg, _⟩ := trodVars_none hV
  subst hd0 hd1 hd2 hd3 hd4 hd5 hd6 hg e6 e5 e4 e3 e2 e1
  obtain rfl : args = #[v0, v1, v2, v3, v4, v5] := Array.ext' e0
  obtain ⟨x0, rfl, hl0, hx0⟩ := arg_arr (m := 12) (e := 22) (k := .u32) (by kernel_rfl) (by kernel_rfl) (by kernel_rfl) (by kernel_rfl) (hval 0 _ _ rfl rfl) h0
  obtain ⟨x1, rfl, hx1⟩ := arg_int (k := .u64) (by kernel_rfl) (hval 1 _ _ rfl rfl) h1
  obtain ⟨x2, rfl, hx2⟩ := arg_int (k := .u8) (by kernel_rfl) (hval 2 _ _ rfl rfl) h2
  obtain ⟨x3, rfl, hx3⟩ := arg_int (k := .u8) (by kernel_rfl) (hval 3 _ _ rfl rfl) h3
  obtain ⟨x4, rfl, hx4⟩ := arg_int (k := .u32) (by kernel_rfl) (hval 4 _ _ rfl rfl) h4
  obtain ⟨x5, rfl, hx5⟩ := arg_int (k := .u32) (by kernel_rfl) (hval 5 _ _ rfl rfl) h5
  refine (law_call ok3 (law4 x0 x1 x2 x3 x4 x5 hl0 hx0 hx2 hx3) (glob_ok hL) (.cons _ _ _ _ (rep_arr hl0 hx0) (.cons _ _ _ _ (rep_int hx1) (.cons _ _ _ _ (rep_int hx2) (.cons _ _ _ _ (rep_int hx3) (.cons _ _ _ _ (rep_int hx4) (.cons _ _ _ _ (rep_int hx5) .nil))))))).mono fun e W' ⟨he, hB⟩ => ?_
  exact ⟨_, he, post_law (tb := 4) laidOut (by kernel_rfl) (by kernel_rfl) (by kernel_rfl) (by kernel_rfl) rfl rfl rfl hW hB⟩
/-- a world for the witness -/
noncomputable def laidWorld (os : Os) : World :=
  { World.holding Tryd.prog os ⟨#[], #[], []⟩ with heap := (World.holding Tryd.prog os ⟨#[], #[], []⟩).heap.modify 0 fun
      | .cells _ t frozen => .cells (nameL.map Value.string).toArray t frozen
      | o => o }
def wit : Array Value := #[.agg (List.replicate 12 (.int .u32 0)).toArray, .int .u64 0, .int .u8 0, .int .u8 0, .int .u32 0, .int .u32 0]
theorem laid_met (os : Os) : laidMet Tryd.prog Rows.csrWritesAreMaskedRow.laid ((laidWorld os).forCall (fun _ _ => 0) ⟨#[], wit, []⟩).memory :=
  laidMet_of_run' 8 (by kernel_rfl) (by kernel_rfl)
theorem reads (os : Os) {H : Type} (enc : TypeId × Value → H) : ∃ places, DataW.whole enc Tryd.prog ((laidWorld os).forCall (fun _ _ => 0) ⟨#[], wit, []⟩).memory Tryd.f4.params.toList Rows.csrWritesAreMaskedSpec.vars false wit.toList 8 = some ([.agg (List.replicate 12 (.lit (.int .u32 0))), .lit (.int .u64 0), .lit (.int .u8 0), .lit (.int .u8 0), .lit (.int .u32 0), .lit (.int .u32 0)], [], places) :=
  ⟨[], by kernel_rfl⟩
theorem lifted (os : Os) (started : os.Started) (H : Type) (enc : TypeId × Value → H) (F : Stop.Interp) :
    ReturnsInHanded {} Tryd.checked os 4 .any ((OpenSpec.ofChange Rows.csrWritesAreMaskedSpec).preRow enc Tryd.prog Tryd.f4 Rows.csrWritesAreMaskedRow.domain false Rows.csrWritesAreMaskedRow.laid) (((OpenSpec.ofChange Rows.csrWritesAreMaskedSpec).at F).post enc Tryd.prog Tryd.f4 false true false false) := by
  obtain ⟨places, hx⟩ := reads os enc
  refine returnsInHanded_of_row (C := Tryd.checked) (s := OpenSpec.ofChange Rows.csrWritesAreMaskedSpec) own started (by kernel_rfl) Tryd.func4
    (witness_row_at (enc := enc) (C := Tryd.checked) false (laidWorld os) wit rfl (by kernel_rfl) (by kernel_rfl) (by kernel_rfl)
      (OpenSpec.preRow_of_cond 8 hx (by kernel_rfl) (fun k hk => by cases hk) (by kernel_rfl) (laid_met os))) ?_
  intro W base args ds gs before hval hW _ _ _ hL _ _
  exact contract H enc W base args ds gs before hval hW hL
theorem said : Rows.CsrWritesAreMaskedSaid :=
  OpenClaim.holds_of_cond 4 Tryd.f4 rfl rfl rfl rfl rfl rfl rfl ⟨rfl, rfl, rfl, rfl, rfl⟩ rfl rfl rfl rfl rfl (by kernel_rfl) Tryd.func4 (by kernel_rfl)
    (of_decide_eq_true (by kernel_rfl)) (by unfold Func.isWrapper; first | (rw [if_pos (by decide +kernel)]; kernel_rfl) | (rw [if_neg (by decide +kernel)]; exact ⟨rfl, rfl⟩))
    (fun os started H enc _ F => by rw [OpenClaim.pre_eq_preRow]; exact lifted os started H enc F)
theorem plain (f : FuncId) (fn : Func) (hf : Tryd.pinned.checked.prog.funcNamed Rows.csrWritesAreMaskedRow.func = some f) (hfn : Tryd.pinned.checked.prog.funcs[f]? = some fn) :
    false = Tryd.pinned.checked.prog.looks [] ∧ ∀ (j : Nat) t, fn.params[j]? = some t → Tryd.pinned.checked.prog.wantsStandIn t = false := by
  obtain rfl : f = 4 := Option.some.inj ((show Tryd.prog.funcNamed Rows.csrWritesAreMaskedRow.func = some 4 by kernel_rfl).symm.trans hf) |>.symm
  obtain rfl : fn = Tryd.f4 := (Option.some.inj (Tryd.func4.symm.trans hfn)).symm
  refine ⟨by kernel_rfl, fun j t ht => ?_⟩
  have all : Tryd.f4.params.toList.all (fun t => !Tryd.prog.wantsStandIn t) = true := by kernel_rfl
  have := List.all_eq_true.1 all t (by simpa using Array.mem_of_getElem? ht)
  have h2 : Tryd.prog.wantsStandIn t = false := by simpa using this
  exact h2
theorem card : Rows.CsrWritesAreMaskedCardSaid :=
  Claim7.holds_tied_plain_at .later [] _ _ _ _ said (fun _ h => by cases h) (by kernel_rfl) (fun _ h => by cases h) csrWritesAreMasked_row_tie rfl ⟨rfl, rfl⟩ (by kernel_rfl) rfl plain (by kernel_rfl)
end Go.Proofs.YtjddjfapfhjheaaDoor.csrWritesAreMasked
