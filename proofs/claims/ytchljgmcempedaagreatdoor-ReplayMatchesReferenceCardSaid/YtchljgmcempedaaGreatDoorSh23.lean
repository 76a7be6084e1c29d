/- From a call's tree to a row of the statements (nothing is claimed here). -/
import Derived.Test.YtchljgmcempedaaGreatDoorSh22
import Derived.Carry
import Derived.OpenVars
import Derived.OpenShut
import Derived.OpenShut
import Derived.RowKit
import Derived.ChangeShapes
import Derived.Lib.LaidTab
import Derived.Deep.DeepHandedRow
set_option linter.unusedVariables false
set_option linter.unusedSimpArgs false
namespace Go.Proofs.YtchljgmcempedaaGreatDoor
open Go Go.RowKit Go.ChangeShapes

section row
variable {H : Type} {enc : TypeId × Value → H} {P : Program}

theorem trodAll_carry (hl : laidOutB P = true) {W W' : World} (hb : Below W.heap.size W W') : ∀ {ts : List TypeId} {vs : List Value} {ds : List (DataW H)} {p : List MemPlace},
    ts.all (fun t => P.readableRec t && decide (t < P.types.size)) = true → DataW.TrodAll enc P W 0 (fun _ => true) true ts vs ds p → (∀ x ∈ p, x.block < W.heap.size) →
    DataW.TrodAll enc P W' 0 (fun b => decide (b < W.heap.size)) true ts vs ds p
  | [], vs, ds, p, hr, h, hlt => by
    obtain ⟨rfl, rfl, rfl⟩ := trodAll_nil h
    exact trodAll_mk0
  | t :: ts, vs, ds, p, hr, h, hlt => by
    obtain ⟨v, vs', d, ds', q, r, rfl, rfl, rfl, h1, h2⟩ := trodAll_cons h
    simp only [List.all_cons, Bool.and_eq_true, decide_eq_true_eq] at hr
    exact trodAll_cons_mk (Below.trod hl hr.1.1 hr.1.2 h1 hb fun x hx => hlt x (by simp [hx])) (trodAll_carry hl hb hr.2 h2 fun x hx => hlt x (by simp [hx]))

/-- A law that returned true, and left what there was as it was. -/
theorem post_law {f : Func} {s : ChangeSpec} {W W' : World} {args : Array Value} {ds gs : List (DataW H)} {before : List MemPlace} {tb : TypeId} (hl : laidOutB P = true)
    (hr : f.params.toList.all (fun t => P.readableRec t && decide (t < P.types.size)) = true) (hv : varsRowed P s.vars = true) (ht : f.resultTypes = #[tb]) (hb : P.underlying tb = some .bool)
    (h1 : (s.fn H (ds ++ gs)).results = [.lit (.bool true)]) (h2 : (s.fn H (ds ++ gs)).args = ds) (h3 : (s.fn H (ds ++ gs)).vars = gs)
    (hW : DataW.Whole enc P f.params.toList s.vars false W args.toList ds gs before) (hB : Below W.heap.size W W') : s.post enc P f false true false false W args (.bool true) W' := by
  have hlt : ∀ x ∈ before, x.block < W.heap.size := fun x hx => hW.lt x hx
  have hW' := hW
  obtain ⟨p, q, hA, hV, rfl, _, _⟩ := hW'
  refine ⟨ds, gs, p ++ q, [], p, q, hW, ?_, ?_, ?_, hB.frame _, fun h => by cases h⟩
  · rw [h1, ht]
    exact trodAll_cons_mk (shut_bool hb _) trodAll_mk0
  · rw [h2]
    exact trodAll_carry hl hB hr hA fun x hx => hlt x (by simp [hx])
  · rw [h3]
    exact Below.trodVars hl hB hv hV

/-- the call behind a law's tree -/
theorem law_call {E : Env} (ok : EnvOk E) {f : FuncId} {n : Nat} {svs : List SV} (hE : (evF E n f svs).ends fun r => unb r = .v (.bool true)) {W : World} {args : Array Value} (hg : GlobOk E fun b => W.heap[b]?) (hr : RepL (fun b => W.heap[b]?) Th0 svs args.toList) :
    Calls E.P f args W fun e W' => e = .returned (.bool true) ∧ Below W.heap.size W W' :=
  (evF_ok ok hE (h := fun b => W.heap[b]?) (fun b o e => e) hg hr).mono fun en w' ⟨v, r, h', q1, q2, q3, _, _, _, q4⟩ => by
    have : Rep h' Th0 (.v (.bool true)) v := q2 ▸ unb_rep.2 q4
    cases this
    exact ⟨q1, q3⟩

/-! the arguments -/
theorem wf_okI {k : IntKind} {n : Int} (h : (Lit.int k n).wf = true) : okI k n := by
  simpa [Lit.wf, okI] using h
theorem arg_int {W : World} {b0 : Nat} {sp : Nat → Bool} {hd : Bool} {t : TypeId} {k : IntKind} {v : Value} {d : DataW H} {ps : List MemPlace} {base : Nat} (ht : P.underlying t = some (.int k)) (hval : Value.okWide P W .any b0 t v) (h : DataW.Trod enc P W base sp hd t v d ps) :
    ∃ n, v = .int k n ∧ okI k n := by
  obtain ⟨n, rfl, _, _, hw⟩ := open_int ht hval h
  exact ⟨n, rfl, wf_okI hw⟩
theorem rep_int {h : Hp} {θ : Th} {k : IntKind} {n : Int} (hn : okI k n) : Rep h θ (svI k n) (.int k n) := .v _ hn
theorem arg_arr {W : World} {b0 : Nat} {sp : Nat → Bool} {hd : Bool} {t e : TypeId} {m : Nat} {k : IntKind} {v : Value} {d : DataW H} {ps : List MemPlace} {base : Nat} (ht : P.underlying t = some (.array m e)) (he : P.underlying e = some (.int k)) (hc : P.cellsOf e = 1) (hct : P.cellsOf t = m)
    (hval : Value.okWide P W .any b0 t v) (h : DataW.Trod enc P W base sp hd t v d ps) :
    ∃ l : List Int, v = .agg (l.map (Value.int k)).toArray ∧ l.length = m ∧ ∀ x ∈ l, okI k x := by
  unfold Value.okWide at hval
  rw [ht] at hval
  obtain ⟨cs, rfl, hsz, _⟩ := hval
  obtain ⟨fuel, hf⟩ := h
  obtain ⟨xs, m', rfl, hx, hlen, hxs, hall⟩ := DataW.trod_array ht hf
  simp only [Value.cells] at hlen hall
  rw [hct] at hlen
  have key : ∀ i, i < m → ∃ n, cs.toList[i]? = some (.int k n) ∧ okI k n := fun i hi => by
    have := hall i hi
    rw [List.getElem?_eq_getElem (by omega)] at this
    obtain ⟨n, h1, _, hw⟩ := DataW.trod_int he this
    refine ⟨n, ?_, wf_okI hw⟩
    have h2 := congrArg (·[0]?) h1
    simpa [hc, List.getElem?_take, List.getElem?_drop] using h2
  refine ⟨cs.toList.map fun v => match v with | .int _ n => n | _ => 0, ?_, by simpa using hlen, fun x hx => ?_⟩
  · congr 1
    apply Array.ext'
    simp only [List.map_map]
    apply List.ext_getElem?
    intro i
    rcases Nat.lt_or_ge i m with hi | hi
    · obtain ⟨n, h1, _⟩ := key i hi
      rw [List.getElem?_map, h1]; rfl
    · rw [List.getElem?_eq_none (by omega), List.getElem?_eq_none (by simp at hlen ⊢; omega)]
  · obtain ⟨v, hv, rfl⟩ := List.mem_map.1 hx
    obtain ⟨i, hi⟩ := List.getElem?_of_mem hv
    have hlt : i < m := by
      have := (List.getElem?_eq_some_iff.1 hi).1
      omega
    obtain ⟨n, h1, h2⟩ := key i hlt
    rw [hi] at h1
    cases h1
    exact h2
theorem rep_arr {h : Hp} {θ : Th} {k : IntKind} {n : Nat} {l : List Int} (hl : l.length = n) (hk : ∀ x ∈ l, okI k x) : Rep h θ (.agg [.arr k n l]) (.agg (l.map (Value.int k)).toArray) := by
  have := Rep.agg (h := h) (θ := θ) _ _ (.arr k n l [] [] hl hk .nil)
  simpa using this

/-! a table of strings that the row lists -/
theorem glob_strs {W : World} {name : String} {L : List ByteArray} {g : Nat} {t e : TypeId} {n : Nat} (hg : P.globalNamed name = some g) (hty : (P.globals[g]?).map (·.type) = some t) (ht : P.underlying t = some (.array n e)) (he : P.underlying e = some .string)
    (hce : P.cellsOf e = 1) (hct : P.cellsOf t = n) (hL : L.length = n) (h : laidMet P [(name, .agg (L.map fun s => .lit (.string s.data.toList)))] W) :
    ∃ ty fz, W.heap[g]? = some (.cells (L.map Value.string).toArray ty fz) := by
  obtain ⟨ps, ⟨g', t', cs, fuel, p, q, hg', ht', hvar, hd, _, _⟩, _⟩ := h
  obtain rfl := Option.some.inj (hg.symm.trans hg')
  obtain rfl := Option.some.inj (hty.symm.trans ht')
  obtain ⟨xs, m', rfl, hx, hlen, hxs, hall⟩ := DataW.trod_array ht hd
  rw [hct] at hlen
  have hfst : xs.map (·.1) = L.map fun s => (DataW.lit (.string s.data.toList) : DataW Unit) := by
    have := congrArg Prod.fst hx
    simpa using this.symm
  have hcs : cs = (L.map Value.string).toArray := by
    apply Array.ext'
    apply List.ext_getElem?
    intro i
    rcases Nat.lt_or_ge i n with hi | hi
    · have := hall i hi
      rw [List.getElem?_eq_getElem (by omega)] at this
      obtain ⟨s, h1, h2, _⟩ := DataW.trod_string he this
      have h3 := congrArg (·[0]?) h1
      have h4 : cs.toList[i]? = some (.string s) := by simpa [hce, List.getElem?_take, List.getElem?_drop] using h3
      have h5 := congrArg (·[i]?) hfst
      simp only [List.getElem?_map] at h5
      rw [List.getElem?_eq_getElem (by omega), List.getElem?_eq_getElem (show i < L.length by omega)] at h5
      simp only [Option.map_some, Option.some.injEq, h2] at h5
      have h6 : s = L[i] := by
        have : s.data.toList = L[i].data.toList := by simpa using h5
        exact ByteArray.ext (Array.ext' this)
      rw [h4, List.toList_toArray, List.getElem?_map, List.getElem?_eq_getElem (show i < L.length by omega), h6]
      rfl
    · rw [List.getElem?_eq_none (by omega), List.getElem?_eq_none (by simp; omega)]
  unfold World.var? at hvar
  rw [hg] at hvar
  simp only [Option.bind_some] at hvar
  split at hvar
  · rename_i cs' ty fz hh
    cases hvar
    exact ⟨ty, fz, by rw [hh, hcs]⟩
  · cases hvar
theorem repC_strs {h : Hp} {θ : Th} : ∀ {L : List ByteArray}, (∀ s ∈ L, s.size ≤ lim) → RepC h θ (L.map fun s => .v (.string s)) (L.map Value.string)
  | [], _ => .nil
  | s :: L, hL => .cell _ _ _ _ rfl (.v _ (hL s (by simp))) (repC_strs fun x hx => hL x (by simp [hx]))
end row
end Go.Proofs.YtchljgmcempedaaGreatDoor
