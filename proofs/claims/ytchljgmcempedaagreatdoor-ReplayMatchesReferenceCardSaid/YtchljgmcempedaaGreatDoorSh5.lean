/- Each operation of the machine does what the evaluator says: loads, stores, new blocks, structs (nothing is claimed here). -/
import Derived.Test.YtchljgmcempedaaGreatDoorSh4
set_option linter.unusedVariables false
set_option linter.unusedSimpArgs false
namespace Go.Proofs.YtchljgmcempedaaGreatDoor
open Go Go.RowKit

theorem okB_ok {x : Value} (h : okB x = true) : okV x := by
  cases x <;> simp_all [okB, okV, okI, Nat.le_of_ble_eq_true]

inductive Out where
  | val (v : SV) (b : Option Blk)
  | eff (v : SV) (M : Mem)
def Out.v : Out → SV
  | .val v _ => v
  | .eff v _ => v
def Out.mem (M : Mem) (κ : Nat) : Out → Mem
  | .val _ b => M.new κ b
  | .eff _ M' => M'
def OpT.eval : OpT → Option Out
  | .val v b => some (.val v b)
  | .eff v M => some (.eff v M)
  | .need q t => bif q then t.eval else none
  | .split q a b => bif q then a.eval else b.eval
  | .fail => none

/-- What a run of an operation leaves. -/
def StepOk (E : Env) (n0 : Nat) (w0 : World) (h0 h : Hp) (θ : Th) (M : Mem) (Fr : Nat → Prop) (κ : Nat) (w : World) (s : Sem Next) (out : Out) : Prop :=
  ∃ nx u w' h' θ', s.run E.P w = .ok nx w' ∧ (nx = .value u ∨ (nx = .skip ∧ u = undef)) ∧ h.le h' ∧ θ.le θ' ∧
    Inv E n0 w0 h0 h' θ' (out.mem M κ) (fun k => Fr k ∧ k ≠ κ) w' ∧ Rep h' θ' out.v u

section ops
variable {E : Env} {n0 : Nat} {w0 : World} {h0 h : Hp} {θ : Th} {M : Mem} {Fr : Nat → Prop} {κ : Nat} {w : World}

theorem StepOk.pure (I : Inv E n0 w0 h0 h θ M Fr w) {s : Sem Next} {v : SV} {u : Value} (hr : s.run E.P w = .ok (.value u) w) (r : Rep h θ v u) :
    StepOk E n0 w0 h0 h θ M Fr κ w s (.val v none) :=
  ⟨_, u, w, h, θ, hr, .inl rfl, .refl _, .refl _, I.less (fun k b e => e) (fun k f => f.1), r⟩
theorem StepOk.of_value (I : Inv E n0 w0 h0 h θ M Fr w) {s : Sem Value} {v : SV} {u : Value} (hr : s.run E.P w = .ok u w) (r : Rep h θ v u) :
    StepOk E n0 w0 h0 h θ M Fr κ w (do Pure.pure (.value (← s))) (.val v none) :=
  StepOk.pure I (by simp [hr]) r
theorem ofOpt_eval {x : Option SV} {out : Out} (e : (OpT.ofOpt x).eval = some out) : ∃ v, x = some v ∧ out = .val v none := by
  cases x with
  | none => cases e
  | some v => cases e; exact ⟨v, rfl, rfl⟩

/-! types -/
theorem info_of {P : Program} {t : TypeId} {d : TypeDesc} (h : P.underlying t = some d) : ∃ i, P.info? t = some i := by
  unfold Program.underlying at h
  cases hi : P.info? t with
  | none => rw [hi] at h; cases h
  | some i => exact ⟨i, rfl⟩
theorem run_sizeOf' {P : Program} {t : TypeId} {i : TypeInfo} (h : P.info? t = some i) (w : World) : (sizeOf t).run P w = .ok (P.cellsOf t) w := by
  simp [sizeOf, typeInfo, h, Program.cellsOf]
def isAggD : TypeDesc → Bool
  | .struct _ | .array _ _ => true
  | _ => false
theorem run_isAgg' {P : Program} {t : TypeId} {d : TypeDesc} (h : P.underlying t = some d) (w : World) : (isAgg t).run P w = .ok (isAggD d) w := by
  simp only [isAgg, Sem.run_bind, run_underlying h, Result.andThen_ok]
  cases d <;> rfl
theorem aggT_eq {E : Env} {t : TypeId} {d : TypeDesc} (h : E.P.underlying t = some d) : aggT E t = some (isAggD d) := by
  unfold aggT; rw [h]; cases d <;> rfl

/-! loads -/
theorem addr_add (b o n : Nat) : (⟨b, o, none⟩ : Addr).add n = ⟨b, o + n, none⟩ := by unfold Addr.add; split <;> simp_all
theorem run_loadVar_cells {t : TypeId} {cs : List SV} {vs : List Value} {b o off ix n : Nat} {s : SV}
    (hc : ∀ i v, vs[i]? = some v → w.cell? ⟨b, o + i, none⟩ = some v) (r : RepC h θ cs vs) (e : loadC E t cs off ix n = some s) (hi : ix < n) :
    ∃ v, (loadVar t ⟨b, o + (ix + off), none⟩).run E.P w = .ok v w ∧ Rep h θ s v := by
  unfold loadC at e
  cases hu : E.P.underlying t with
  | none => simp [aggT, hu] at e
  | some d =>
    obtain ⟨i, hinfo⟩ := info_of hu
    have hagg := run_isAgg' hu w
    rw [aggT_eq hu] at e
    cases hd : isAggD d with
    | false =>
      rw [hd] at e hagg
      obtain ⟨v, hv, rv⟩ := r.get e hi
      refine ⟨v, ?_, rv⟩
      simp only [loadVar, Sem.run_bind, hagg, Result.andThen_ok, Bool.false_eq_true, if_false, run_load, hc _ _ hv]
    | true =>
      rw [hd] at e hagg
      simp only at e
      cases hn : Nat.beq n 1 with
      | false => rw [hn] at e; cases e
      | true =>
        obtain rfl := Nat.eq_of_beq_eq_true hn
        rw [hn] at e; simp only [cond_true] at e
        cases ht : takeC cs off (sizeT E t) with
        | none => rw [ht] at e; cases e
        | some ns =>
          rw [ht] at e; cases e
          obtain ⟨rn, hl⟩ := r.take ht
          obtain rfl : ix = 0 := by omega
          refine ⟨.agg ((vs.drop off).take (sizeT E t)).toArray, ?_, .agg _ _ rn⟩
          have hcells : ∀ j v, ((vs.drop off).take (sizeT E t))[j]? = some v → w.cell? ((⟨b, o + (0 + off), none⟩ : Addr).add j) = some v := fun j v hj => by
            rw [addr_add]
            have hlt : j < sizeT E t := by have := (List.getElem?_eq_some_iff.1 hj).1; simp at this; omega
            rw [List.getElem?_take_of_lt hlt, List.getElem?_drop] at hj
            have := hc _ _ hj
            rwa [show o + (0 + off) + j = o + (off + j) by omega]
          have hlen : ((vs.drop off).take (sizeT E t)).length = sizeT E t := by simp; omega
          have hrun := run_loadCells_list (P := E.P) w _ _ hcells
          rw [hlen] at hrun
          have hsz := run_sizeOf' hinfo w
          simp only [loadVar, Sem.run_bind, hagg, Result.andThen_ok, if_true, hsz]
          simp only [show E.P.cellsOf t = sizeT E t from rfl, hrun, Result.andThen_ok, Sem.run_pure]

theorem cell_of_heap {id : Nat} {vs : List Value} {ty : TypeId} {fz : Nat × Nat} (e : w.heap[id]? = some (.cells vs.toArray ty fz)) (i : Nat) (v : Value) (hv : vs[i]? = some v) : w.cell? ⟨id, 0 + i, none⟩ = some v := by
  simp [World.cell?, e, hv]
theorem cell_of_hp (I : Inv E n0 w0 h0 h θ M Fr w) {b o : Nat} {v : Value} (e : h.cell b o = some v) : w.cell? ⟨b, o, none⟩ = some v := by
  unfold Hp.cell at e
  cases hb : h b with
  | none => rw [hb] at e; cases e
  | some x =>
    rw [hb] at e
    have := I.agree b x hb
    cases x <;> first | cases e | simp only [World.cell?, this]
    simpa using e
theorem row_cell {id : Nat} {vs rest : List Value} {ty : TypeId} {fz : Nat × Nat} (e : w.heap[id]? = some (.cells (vs ++ rest).toArray ty fz)) (i : Nat) (v : Value) (hv : vs[i]? = some v) : w.cell? ⟨id, i, none⟩ = some v := by
  have hl := (List.getElem?_eq_some_iff.1 hv).1
  simp [World.cell?, e, List.getElem?_append_left hl, hv]
theorem Rep.rd_elem {τ : ETy} {l : List τ.T} {a : Addr} {n c j : Nat} (r : Rep h θ (.rd τ l) (.slice (some a) n c)) (hj : j < l.length) :
    a.spot = none ∧ ∃ vals, RepC h θ (encE τ (l.getD j (dfE τ))) vals ∧ ∀ i v, vals[i]? = some v → h.cell a.block (a.off + (j * szE τ + i)) = some v := by
  cases r with
  | rdnil τ a c => simp at hj
  | rd τ l a c vals h1 h2 h3 h4 h5 =>
    refine ⟨h1, vals j, h3 j _ ?_, fun i v e => h4 j i v hj e⟩
    rw [List.getD_eq_getElem?_getD, List.getElem?_eq_getElem hj]; rfl
/-- a load through a symbolic pointer -/
theorem load_ok (I : Inv E n0 w0 h0 h θ M Fr w) {t : TypeId} {p s : SV} {u : Value} (r : Rep h θ p u) (e : loadS E M t p = some s) :
    ∃ v, (Instr.loadAt t u).run E.P w = .ok v w ∧ Rep h θ s v := by
  cases r <;> simp only [loadS] at e <;> first | (cases e; done) | skip
  · -- loc
    rename_i k off ix n id et hi
    cases hM : M k with
    | none => rw [hM] at e; cases e
    | some b =>
      rw [hM] at e
      cases b with
      | cells cs ty =>
        obtain ⟨hd, e1, r⟩ := I.blk k _ hM
        obtain ⟨id', vs, ty', rfl, _, _, hh, rc⟩ := r
        rw [et] at e1
        simp only [Option.some.injEq, Prod.mk.injEq, Value.pointer.injEq, Addr.mk.injEq] at e1
        obtain ⟨-, rfl⟩ := e1
        obtain ⟨v, hv, rv⟩ := run_loadVar_cells (cell_of_heap hh) rc e hi
        rw [Nat.zero_add] at hv
        exact ⟨v, by simpa [Instr.loadAt, Instr.sureAddr] using hv, rv⟩
      | _ => cases e
  · -- gptr
    rename_i g off ix n hi
    cases hg : E.glob g with
    | none => rw [hg] at e; cases e
    | some cs =>
      rw [hg] at e
      obtain ⟨vs, ty, fz, hh, rc⟩ := I.glob g cs hg
      have hw := I.agree g _ (I.hle _ _ hh)
      obtain ⟨v, hv, rv⟩ := run_loadVar_cells (cell_of_heap hw) (rc.mono I.hle (Th0.le θ)) e hi
      rw [Nat.zero_add] at hv
      exact ⟨v, by simpa [Instr.loadAt, Instr.sureAddr] using hv, rv⟩
  · -- rptr
    rename_i τ l i off a c rl hi
    obtain ⟨hs, vals, rc, hcell⟩ := rl.rd_elem hi
    obtain ⟨v, hv, rv⟩ := run_loadVar_cells (w := w) (b := a.block) (o := a.off + i * szE τ) (fun j v hj => by
      have := cell_of_hp I (hcell j v hj)
      rwa [← Nat.add_assoc] at this) rc e (by omega)
    rw [show a.off + i * szE τ + (0 + off) = a.off + (i * szE τ + off) by omega] at hv
    exact ⟨v, by simpa [Instr.loadAt, Instr.sureAddr] using hv, rv⟩
  · -- optr
    rename_i k sz i off id n c et hi
    cases hM : M k with
    | none => rw [hM] at e; cases e
    | some b =>
      rw [hM] at e
      cases b with
      | row τ l ty =>
        simp only at e
        cases hsz : Nat.beq sz (szE τ) with
        | false => rw [hsz] at e; cases e
        | true =>
          rw [hsz] at e; simp only [cond_true] at e
          obtain rfl := Nat.eq_of_beq_eq_true hsz
          obtain ⟨hd, e1, r⟩ := I.blk k _ hM
          rw [et] at e1
          simp only [Option.some.injEq] at e1; subst e1
          rcases r with ⟨_, a, ea⟩ | ⟨id', c', vs, rest, ty', ea, _, _, hh, rc, _, _⟩
          · simp at ea
          · simp only [Prod.mk.injEq, Value.slice.injEq, Option.some.injEq, Addr.mk.injEq] at ea
            obtain ⟨⟨-, rfl, rfl⟩, rfl⟩ := ea
            obtain ⟨rx, hx⟩ := rc.elem (j := i) τ (by rw [List.getElem?_eq_getElem hi])
            have hgd : l.getD i (dfE τ) = l[i] := by rw [List.getD_eq_getElem?_getD, List.getElem?_eq_getElem hi]; rfl
            rw [hgd] at e
            obtain ⟨v, hv, rv⟩ := run_loadVar_cells (w := w) (b := id) (o := i * szE τ) (fun j v hj => by
              have hlt : j < szE τ := by have := (List.getElem?_eq_some_iff.1 hj).1; simp at this; omega
              rw [List.getElem?_take_of_lt hlt, List.getElem?_drop] at hj
              exact row_cell hh _ _ hj) rx e (by omega)
            rw [Nat.zero_add] at hv
            exact ⟨v, by simpa [Instr.loadAt, Instr.sureAddr] using hv, rv⟩
      | frow τ l =>
        simp only at e
        cases hsz : Nat.beq sz (szE τ) with
        | false => rw [hsz] at e; cases e
        | true =>
          rw [hsz] at e; simp only [cond_true] at e
          obtain rfl := Nat.eq_of_beq_eq_true hsz
          obtain ⟨hd, e1, r⟩ := I.blk k _ hM
          rw [et] at e1
          simp only [Option.some.injEq] at e1; subst e1
          have hn : l.length = n := by
            cases (r : Rep h θ (.rd τ l) (.slice (some ⟨id, 0, none⟩) n c)) <;> rfl
          subst hn
          obtain ⟨hs, vals, rc, hcell⟩ := Rep.rd_elem r hi
          obtain ⟨v, hv, rv⟩ := run_loadVar_cells (w := w) (b := id) (o := i * szE τ) (fun j v hj => by
            have := cell_of_hp I (hcell j v hj)
            rwa [Nat.zero_add] at this) rc e (by omega)
          rw [Nat.zero_add] at hv
          exact ⟨v, by simpa [Instr.loadAt, Instr.sureAddr] using hv, rv⟩
      | _ => cases e
  · -- pp
    rename_i cs off ix n id vs ty fz hh rc hi
    obtain ⟨v, hv, rv⟩ := run_loadVar_cells (cell_of_heap (I.agree _ _ hh)) rc e hi
    rw [Nat.zero_add] at hv
    exact ⟨v, by simpa [Instr.loadAt, Instr.sureAddr] using hv, rv⟩
end ops
end Go.Proofs.YtchljgmcempedaaGreatDoor
