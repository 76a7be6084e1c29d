/- Each operation of the machine does what the evaluator says: all of them in one theorem (nothing is claimed here). -/
import Derived.Test.YtjnigggpijfdeaaGreatDoorSh13
import Derived.MapKept
set_option linter.unusedVariables false
set_option linter.unusedSimpArgs false
namespace Go.Proofs.YtjnigggpijfdeaaGreatDoor
open Go Go.RowKit

def RepT (h : Hp) (θ : Th) (T : Tmps) (a : Array Value) : Prop := ∀ t, Rep h θ (T t) (a.getD t undef)

section ops
variable {E : Env} {n0 : Nat} {w0 : World} {h0 h : Hp} {θ : Th} {M : Mem} {Fr : Nat → Prop} {κ : Nat} {w : World}

theorem constS_rep (v : Value) : Rep h θ (constS v) v := by
  have other : Rep h θ (bif okB v then .v v else .junk) v := by
    cases hb : okB v with
    | true => exact .v v (okB_ok hb)
    | false => exact .junk v
  cases v with
  | bool q => exact .b q
  | _ => exact other
theorem opd_rep {T : Tmps} {a : Act} (hT : RepT h θ T a.tmps) (x : Operand) : Rep h θ (opd T x) (a.eval x) := by
  cases x with
  | tmp t => exact hT t
  | const v =>
    have other : Rep h θ (bif okB v then .v v else .junk) v := by
      cases hb : okB v with
      | true => exact .v v (okB_ok hb)
      | false => exact .junk v
    cases v with
    | bool q => exact .b q
    | _ => exact other
  | global g => exact .gptr g 0 0 1 (by omega)
  | func f => exact .fn (.func f) [] [] [] [] .nil .nil
theorem opds_rep {T : Tmps} {a : Act} (hT : RepT h θ T a.tmps) : ∀ (l : List Operand), RepL h θ (l.map (opd T)) (l.map a.eval)
  | [] => .nil
  | x :: l => .cons _ _ _ _ (opd_rep hT x) (opds_rep hT l)
theorem opdO_rep {T : Tmps} {a : Act} (hT : RepT h θ T a.tmps) (x : Option Operand) : RepO h θ (x.map (opd T)) (x.map a.eval) := by
  cases x with
  | none => trivial
  | some x => exact opd_rep hT x
theorem parts_rep {T : Tmps} {a : Act} (hT : RepT h θ T a.tmps) (l : List (Nat × Operand)) (j : Nat) (p : Nat × SV) (u : Nat × Value) (hp : (l.map fun p => (p.1, opd T p.2))[j]? = some p) (hu : (l.map fun p => (p.1, a.eval p.2))[j]? = some u) : Rep h θ p.2 u.2 := by
  rw [List.getElem?_map] at hp hu
  cases hl : l[j]? with
  | none => rw [hl] at hp; cases hp
  | some q => rw [hl] at hp hu; cases hp; cases hu; exact opd_rep hT q.2
theorem map_pair (ρ : Operand → Value) (parts : Array (Nat × Operand)) : (parts.map fun (x : Nat × Operand) => (x.1, ρ x.2)) = (parts.toList.map fun p => (p.1, ρ p.2)).toArray := by
  apply Array.ext'; simp
theorem map_opds (ρ : Operand → Value) (l : Array Operand) : l.map ρ = (l.toList.map ρ).toArray := by
  apply Array.ext'; simp

theorem builtin_ok (I : Inv E n0 w0 h0 h θ M Fr w) (f : Fr κ) {b : Builtin} {tys : Array TypeId} {ty : TypeId} {consts : Array Bool} {args : List SV} {us : List Value} {out : Out} (r : RepL h θ args us) (e : (builtinS E M κ b tys args).eval = some out) :
    StepOk E n0 w0 h0 h θ M Fr κ w (builtin b tys ty consts us.toArray) out := by
  unfold builtinS at e
  split at e
  · rename_i x t ht
    obtain ⟨u, us', rfl, ru, rn⟩ := r.cons_inv
    cases rn.nil_inv
    split at e
    · rename_i n el hu
      cases hn : Nat.ble n lim with
      | false => rw [hn] at e; cases e
      | true =>
        rw [hn] at e; cases e
        have hn := Nat.le_of_ble_eq_true hn
        refine .of_value I (u := goInt n) ?_ (.v _ ?_)
        · simp [Builtin.len_, ht, run_underlying hu]
        · have := lim_le
          show okI .i64 _
          simp only [okI, show IntKind.i64.min = -9223372036854775808 from rfl, show IntKind.i64.max = 9223372036854775807 from rfl]
          omega
    · rename_i hu
      split at e
      · rename_i s
        cases e
        cases ru with
        | v _ o =>
          have o : s.size ≤ lim := o
          refine .of_value I (u := goInt s.size) ?_ (.v _ ?_)
          · simp [Builtin.len_, ht, run_underlying hu]
          · have := lim_le
            show okI .i64 _
            simp only [okI, show IntKind.i64.min = -9223372036854775808 from rfl, show IntKind.i64.max = 9223372036854775807 from rfl]
            omega
      · cases e
    · rename_i el hu
      split at e
      · rename_i n hn
        cases e
        obtain ⟨⟨a, c, rfl⟩, hl⟩ := lenS_ok I ru hn
        refine .of_value I (u := goInt n) ?_ (.v _ ?_)
        · simp [Builtin.len_, ht, run_underlying hu]
        · have := lim_le
          show okI .i64 _
          simp only [okI, show IntKind.i64.min = -9223372036854775808 from rfl, show IntKind.i64.max = 9223372036854775807 from rfl]
          omega
      · cases e
    · cases e
  · rename_i s x t ht
    obtain ⟨u, us', rfl, ru, rn⟩ := r.cons_inv
    obtain ⟨u2, us2, rfl, ru2, rn2⟩ := rn.cons_inv
    cases rn2.nil_inv
    split at e
    · rename_i el τ t' he ht'
      cases hx : isSliceT E t' with
      | false => rw [hx] at e; cases e
      | true =>
        rw [hx] at e; simp only [cond_true] at e
        split at e
        · rename_i lx hl
          have htys : ∀ (args : Array Value), (Builtin.append_ tys ty args).run E.P = (Builtin.append_ #[t, t'] ty args).run E.P := fun args => by
            unfold Builtin.append_
            simp only [ht, ht', List.getElem?_toArray, List.getElem?_cons_zero, List.getElem?_cons_succ]
          have := appendS_ok (ty := ty) I f he hx ru (listOf_cells I ru2 hl) e
          obtain ⟨nx, u', w', h', θ', q1, q⟩ := this
          refine ⟨nx, u', w', h', θ', ?_, q⟩
          rw [← q1]
          simp only [builtin, Sem.run_bind, htys]
        · cases e
    · cases e
  · obtain ⟨v, u, rfl, hr, rv⟩ := minmax_ok I r e tys ty
    exact .of_value I (by simpa using hr) rv
  · obtain ⟨v, u, rfl, hr, rv⟩ := minmax_ok I r e tys ty
    exact .of_value I (by simpa using hr) rv
  · cases e

/-! maps -/
theorem mapKd_some {t : TypeId} {kd : IntKind} {e : TypeId} (q : mapKd E t = some (kd, e)) : ∃ k, E.P.underlying t = some (.map k e) ∧ E.P.underlying k = some (.int kd) := by
  unfold mapKd at q
  split at q
  · rename_i k e' hu
    split at q
    · rename_i kd' hk
      cases q; exact ⟨k, hu, hk⟩
    · cases q
  · cases q
theorem findNow_notIn {kd : IntKind} {n : Int} : ∀ {es : List (Int × SV)} {ents : List MapEntry} (i : Nat), MapR h θ kd es ents → notIn n es = true → Instr.findNow (.int kd) (.int kd n) ents i = some none
  | [], [], i, _, _ => rfl
  | [], _ :: _, i, r, _ => r.elim
  | _ :: _, [], i, r, _ => r.elim
  | p :: es, e :: ents, i, r, q => by
    simp only [notIn, Bool.and_eq_true, Bool.not_eq_true'] at q
    have hne : (n == p.1) = false := by
      have := q.1
      simp only [beq_eq_false_iff_ne, ne_eq] at this ⊢
      exact fun h => this h.symm
    simp only [Instr.findNow, r.1, Instr.sameNow, if_true, hne]
    exact findNow_notIn (i + 1) r.2.2 q.2
theorem MapR.snoc {kd : IntKind} {n : Int} {x : SV} {v : Value} {b : Nat} (rx : Rep h θ x v) : ∀ {es : List (Int × SV)} {ents : List MapEntry}, MapR h θ kd es ents → MapR h θ kd (es ++ [(n, x)]) (ents ++ [{ key := .int kd n, val := v, born := b }])
  | [], [], _ => ⟨rfl, rx, trivial⟩
  | [], _ :: _, r => r.elim
  | _ :: _, [], r => r.elim
  | p :: es, e :: ents, r => ⟨r.1, r.2.1, MapR.snoc rx r.2.2⟩
theorem set_below {n0 : Nat} {w : World} {id : Nat} {o : Obj} (hid : n0 ≤ id) : Below n0 w { w with heap := w.heap.setIfInBounds id o } where
  os := rfl
  tape := rfl
  output := rfl
  size := by simp
  block := fun i hi => by simp [Array.getElem?_setIfInBounds_ne (show id ≠ i by omega)]
theorem makeMap_ok (I : Inv E n0 w0 h0 h θ M Fr w) (f : Fr κ) {t : TypeId} {r : Option SV} {vr : Option Value} {out : Out} (rr : RepO h θ r vr) (e : (makeMapS E t r κ).eval = some out) :
    StepOk E n0 w0 h0 h θ M Fr κ w (do Pure.pure (.value (← Instr.makeMap t vr))) out := by
  unfold makeMapS at e
  have fin : ∀ kd, (Instr.makeMap t vr).run E.P w = .ok (.map (some w.heap.size)) { w with heap := w.heap.push (.map #[] 0) } → out = .val (.map κ) (some (.map kd [])) → StepOk E n0 w0 h0 h θ M Fr κ w (do Pure.pure (.value (← Instr.makeMap t vr))) out := fun kd hr ho => by
    subst ho
    have tle := Th.le_set (hd := (.map (some w.heap.size), some w.heap.size)) (I.fresh κ f)
    have hnone : h w.heap.size = none := by
      cases hh : h w.heap.size with
      | none => rfl
      | some o => have := I.old_lt hh; omega
    refine ⟨.value (.map (some w.heap.size)), _, { w with heap := w.heap.push (.map #[] 0) }, h, _, by simp [hr], .inl rfl, .refl _, tle, I.new f _ (.map kd []) _ ⟨w.heap.size, #[], 0, rfl, I.size, hnone, by simp, trivial⟩, ?_⟩
    exact .map κ w.heap.size (if_pos rfl)
  split at e
  · rename_i kd el hk
    cases vr with
    | none => exact fin kd (by simp [Instr.makeMap, run_newObj]) (val_eval e)
    | some v => exact rr.elim
  · rename_i kd el k n hk
    obtain ⟨kt, hu, _⟩ := mapKd_some hk
    cases vr with
    | none => exact rr.elim
    | some v =>
      have rr : Rep h θ (.v (.int k n)) v := rr
      cases rr
      exact fin kd (by simp [Instr.makeMap, run_underlying hu, asInt, asIntOf, run_newObj]) (val_eval e)
  · cases e
theorem insert_ok (I : Inv E n0 w0 h0 h θ M Fr w) {t : TypeId} {m k x : SV} {um uk ux : Value} {out : Out} (rm : Rep h θ m um) (rk : Rep h θ k uk) (rx : Rep h θ x ux) (e : (insertS E M t m k x).eval = some out) :
    ∃ w' M', out = .eff .undef M' ∧ (Instr.mapUpdate t um uk ux).run E.P w = .ok () w' ∧ Inv E n0 w0 h0 h θ M' Fr w' := by
  unfold insertS at e
  split at e
  · rename_i kd el key kd' n hk
    obtain ⟨kt, hu, hkt⟩ := mapKd_some hk
    split at e
    · rename_i kd'' es hM
      cases h1 : (kd == kd') with
      | false => rw [h1] at e; cases e
      | true =>
        cases h2 : (kd == kd'') with
        | false => rw [h1, h2] at e; cases e
        | true =>
          cases h3 : notIn n es with
          | false => rw [h1, h2, h3] at e; cases e
          | true =>
            rw [h1, h2, h3] at e; cases e
            obtain rfl : kd = kd' := by simpa using h1
            obtain rfl : kd = kd'' := by simpa using h2
            cases rk
            cases rm with
            | map _ id et =>
              obtain ⟨hd, e1, r⟩ := I.blk key _ hM
              rw [et] at e1; cases e1
              obtain ⟨id', ents, clock, ea, g1, g2, hh, rc⟩ := r
              simp only [Prod.mk.injEq, Option.some.injEq] at ea
              obtain ⟨-, rfl⟩ := ea
              have hf := findNow_notIn 0 rc h3
              have hs := Go.MapKept.heap_set (o' := .map (ents.push { key := .int kd n, val := ux, born := clock }) (clock + 1)) hh
              refine ⟨_, _, rfl, ?_, I.upd hM (fun _ _ => by simp) (fun _ _ => by simp) et (set_below g1) (by simp) hs.2 ⟨id, ents.push { key := .int kd n, val := ux, born := clock }, clock + 1, rfl, g1, g2, hs.1, ?_⟩⟩
              · simp only [Instr.mapUpdate, Sem.run_bind, run_underlying hu, Go.MapKept.run_getObj_map hh, Result.andThen_ok, Go.MapKept.run_checkKey (k := .int kd n) hkt rfl, Go.MapKept.run_findKey hkt hf, Go.MapKept.run_setObj_map _ hh]
              · rw [Array.toList_push]; exact rc.snoc rx
    · cases e
  · cases e
theorem zero1_rep {t : TypeId} {z : SV} (q : zero1 E t = some z) : ∃ i v, E.P.info? t = some i ∧ i.zero = some v ∧ Rep h θ z v := by
  unfold zero1 at q
  cases hi : E.P.info? t with
  | none => rw [hi] at q; cases q
  | some i =>
    rw [hi] at q; simp only [Option.bind_some] at q
    cases hv : i.zero with
    | none => rw [hv] at q; cases q
    | some v =>
      rw [hv] at q; simp only [Option.bind_some] at q
      refine ⟨i, v, rfl, hv, ?_⟩
      split at q
      · rename_i a
        cases hz : zeroC E t with
        | none => rw [hz] at q; cases q
        | some cs =>
          rw [hz] at q; cases q
          obtain ⟨i', v', hi', hv', r⟩ := zeroC_rep (h := h) (θ := θ) hz
          rw [hi] at hi'; cases hi'
          rw [hv] at hv'; cases hv'
          exact .agg cs a.toList r
      · cases q
        exact constS_rep v
theorem lookupM_ok {kd : IntKind} {n : Int} {nn : OpT} {sm : SV → OpT} {out : Out} : ∀ {es : List (Int × SV)} {ents : List MapEntry} (i : Nat), MapR h θ kd es ents → (lookupM n nn sm es).eval = some out →
    (Instr.findNow (.int kd) (.int kd n) ents i = some none ∧ nn.eval = some out) ∨ ∃ j x v, Instr.findNow (.int kd) (.int kd n) ents i = some (some (j, v)) ∧ Rep h θ x v ∧ (sm x).eval = some out
  | [], [], i, _, e => .inl ⟨rfl, e⟩
  | [], _ :: _, i, r, _ => r.elim
  | _ :: _, [], i, r, _ => r.elim
  | p :: es, en :: ents, i, r, e => by
    obtain ⟨k', x⟩ := p
    simp only [lookupM, OpT.eval] at e
    cases hq : (n == k') with
    | true =>
      rw [hq] at e
      exact .inr ⟨i, x, en.val, by simp only [Instr.findNow, r.1, Instr.sameNow, if_true, hq], r.2.1, e⟩
    | false =>
      rw [hq] at e
      have hfn : Instr.findNow (.int kd) (.int kd n) (en :: ents) i = Instr.findNow (.int kd) (.int kd n) ents (i + 1) := by
        simp only [Instr.findNow, r.1, Instr.sameNow, if_true, hq]
      rw [hfn]
      exact lookupM_ok (i + 1) r.2.2 e
theorem lookup_ok (I : Inv E n0 w0 h0 h θ M Fr w) {t : TypeId} {m k : SV} {um uk : Value} {ok : Bool} {out : Out} (rm : Rep h θ m um) (rk : Rep h θ k uk) (e : (lookupS E M t m k ok).eval = some out) :
    PureOk E h θ w (Instr.lookup t um uk ok) out := by
  unfold lookupS at e
  split at e
  · rename_i kd el key kd' n hk
    obtain ⟨kt, hu, hkt⟩ := mapKd_some hk
    split at e
    · rename_i kd'' es z hM hz
      cases h1 : (kd == kd') with
      | false => rw [h1] at e; cases e
      | true =>
        cases h2 : (kd == kd'') with
        | false => rw [h1, h2] at e; cases e
        | true =>
          rw [h1, h2] at e; simp only [Bool.and_self, cond_true] at e
          obtain rfl : kd = kd' := by simpa using h1
          obtain rfl : kd = kd'' := by simpa using h2
          cases rk
          cases rm with
          | map _ id et =>
            obtain ⟨hd, e1, r⟩ := I.blk key _ hM
            rw [et] at e1; cases e1
            obtain ⟨id', ents, clock, ea, g1, g2, hh, rc⟩ := r
            simp only [Prod.mk.injEq, Option.some.injEq] at ea
            obtain ⟨-, rfl⟩ := ea
            obtain ⟨i, zv, hi, hzv, rz⟩ := zero1_rep (h := h) (θ := θ) hz
            have hzr := run_zeroValue' hi hzv w
            have fin : ∀ (s : SV) (v : Value) (q : Bool), Rep h θ s v → out = .val (bif ok then .tup [s, .b q] else s) none → (Instr.lookup t (.map (some id)) (.int kd n) ok).run E.P w = .ok (if ok then .tuple #[v, .bool q] else v) w → PureOk E h θ w (Instr.lookup t (.map (some id)) (.int kd n) ok) out := fun s v q rs ho hr => by
              refine ⟨_, _, ho, hr, ?_⟩
              cases ok with
              | true => exact .tup _ [v, .bool q] (.cons _ _ _ _ rs (.cons _ _ _ _ (.b q) .nil))
              | false => exact rs
            rcases lookupM_ok 0 rc e with ⟨hf, e⟩ | ⟨j, x, v, hf, rx, e⟩
            · refine fin z zv false rz (val_eval e) ?_
              simp only [Instr.lookup, Sem.run_bind, run_underlying hu, Go.MapKept.run_getObj_map hh, Result.andThen_ok, Sem.run_pure, Go.MapKept.run_checkKey (k := .int kd n) hkt rfl, Go.MapKept.run_findKey hkt hf, hzr]
            · refine fin x v true rx (val_eval e) ?_
              simp only [Instr.lookup, Sem.run_bind, run_underlying hu, Go.MapKept.run_getObj_map hh, Result.andThen_ok, Sem.run_pure, Go.MapKept.run_checkKey (k := .int kd n) hkt rfl, Go.MapKept.run_findKey hkt hf]
    · cases e
  · cases e

theorem step_sound (I : Inv E n0 w0 h0 h θ M Fr w) (f : Fr κ) {T : Tmps} {a : Act} (hT : RepT h θ T a.tmps) {o : Oper} {out : Out} (e : (stepOp E T M κ o.op).eval = some out) :
    StepOk E n0 w0 h0 h θ M Fr κ w (execOp a.eval o) out := by
  obtain ⟨dst, op, typ, pos, after, guard⟩ := o
  simp only at e
  have pv : ∀ {s : Sem Value}, PureOk E h θ w s out → StepOk E n0 w0 h0 h θ M Fr κ w (do Pure.pure (.value (← s))) out := fun p => p.step I
  cases op <;> simp only [stepOp] at e <;> first | (cases e; done) | skip
  case move x => cases e; exact .pure I rfl (opd_rep hT x)
  case assign x => cases e; exact .pure I rfl (opd_rep hT x)
  case pick c x y =>
    have rc := opd_rep hT c
    split at e
    · rename_i hc
      rw [hc] at rc
      cases e
      have ec : a.eval c = .bool true := by
        generalize a.eval c = v at rc
        cases rc; rfl
      exact .pure I (by simp [execOp, ec, asBool]) (opd_rep hT x)
    · rename_i hc
      rw [hc] at rc
      cases e
      have ec : a.eval c = .bool false := by
        generalize a.eval c = v at rc
        cases rc; rfl
      exact .pure I (by simp [execOp, ec, asBool]) (opd_rep hT y)
    · rename_i q hc
      rw [hc] at rc
      have ec : a.eval c = .bool q := by
        generalize a.eval c = v at rc
        cases rc; rfl
      simp only [OpT.eval] at e
      cases q with
      | true => cases e; exact .pure I (by simp [execOp, ec, asBool]) (opd_rep hT x)
      | false => cases e; exact .pure I (by simp [execOp, ec, asBool]) (opd_rep hT y)
    · cases e
  case alloc t =>
    split at e
    · cases e; exact alloc_ok I f ‹_›
    · cases e
  case box t x =>
    split at e
    · cases e; exact box_ok I f ‹_› (opd_rep hT x)
    · cases e
  case build t parts =>
    obtain ⟨v, hv, rfl⟩ := ofOpt_eval e
    cases hb : buildC E t (parts.toList.map fun p => (p.1, opd T p.2)) with
    | none => rw [hb] at hv; cases hv
    | some cs =>
      rw [hb] at hv; cases hv
      obtain ⟨v, hr, rv⟩ := build_ok I hb (us := parts.toList.map fun p => (p.1, a.eval p.2)) (by simp) (parts_rep hT parts.toList)
      exact .of_value I (by rw [map_pair]; exact hr) rv
  case buildSlice t len parts =>
    have := buildSlice_ok I f e (us := parts.toList.map fun p => (p.1, a.eval p.2)) (by simp) (parts_rep hT parts.toList)
    simp only [execOp]
    rw [map_pair]; exact this
  case load t x =>
    obtain ⟨v, hv, rfl⟩ := ofOpt_eval e
    obtain ⟨u, hr, ru⟩ := load_ok I (opd_rep hT x) hv
    exact .of_value I hr ru
  case store t x y =>
    split at e
    · rename_i M' hs
      cases e
      obtain ⟨w', h', hr, hle, I'⟩ := store_ok I (opd_rep hT x) (opd_rep hT y) hs
      exact ⟨.skip, undef, w', h', θ, by simp [execOp, hr], .inr ⟨rfl, rfl⟩, hle, .refl _, I'.less (fun _ _ e => e) (fun _ f => f.1), .undef⟩
    · cases e
  case nilCheck x =>
    have rx := opd_rep hT x
    have ptr : ∀ ad, a.eval x = .pointer (some ad) → out = .val (opd T x) none → StepOk E n0 w0 h0 h θ M Fr κ w (execOp a.eval ⟨dst, .nilCheck x, typ, pos, after, guard⟩) out := fun ad ha ho => by
      subst ho
      exact .pure I (by simp [execOp, ha]) rx
    split at e
    · rename_i hx; cases e; rw [hx] at rx
      obtain ⟨id, ha, _⟩ := rx.loc_inv
      exact ptr _ ha rfl
    · rename_i hx; cases e; rw [hx] at rx
      obtain ⟨ha, _⟩ := rx.gptr_inv
      exact ptr _ ha rfl
    · rename_i hx; cases e; rw [hx] at rx
      obtain ⟨id, vs, ty, fz, ha, _⟩ := rx.pp_inv
      exact ptr _ ha rfl
    · rename_i hx; cases e; rw [hx] at rx
      obtain ⟨b, c, ha, _⟩ := rx.rptr_inv
      exact ptr _ ha rfl
    · rename_i hx; cases e; rw [hx] at rx
      obtain ⟨id, n, c, ha, _⟩ := rx.optr_inv
      exact ptr _ ha rfl
    · rename_i g fs cs hx; cases e
      have rx' := rx
      rw [hx] at rx'
      have : ∃ xs ys, a.eval x = .func (.func g) xs ys := by
        generalize a.eval x = v at rx'
        cases rx'; exact ⟨_, _, rfl⟩
      obtain ⟨xs, ys, ha⟩ := this
      exact .pure I (by simp [execOp, ha]) rx
    · cases e
  case binOp op t x y yt => exact pv (binS_ok (opd_rep hT x) (opd_rep hT y) e)
  case unOp op t x => exact pv (unS_ok (opd_rep hT x) e)
  case convert src dst' x => exact pv (convS_ok (opd_rep hT x) e)
  case makeFunc fn first cap =>
    cases e
    refine .pure I (u := .func fn (first.toList.map a.eval).toArray (cap.toList.map a.eval).toArray) ?_ (.fn fn _ _ _ _ (opds_rep hT _) (opds_rep hT _))
    simp only [execOp, Instr.makeFunc, map_opds]
    rfl
  case makeMap t r => exact makeMap_ok I f (opdO_rep hT r) e
  case insert t m k x =>
    obtain ⟨w', M', rfl, hr, I'⟩ := insert_ok I (opd_rep hT m) (opd_rep hT k) (opd_rep hT x) e
    exact ⟨.skip, undef, w', h, θ, by simp [execOp, hr], .inr ⟨rfl, rfl⟩, .refl _, .refl _, I'.less (fun _ _ e => e) (fun _ f => f.1), .undef⟩
  case mapUpdate t m k x =>
    obtain ⟨w', M', rfl, hr, I'⟩ := insert_ok I (opd_rep hT m) (opd_rep hT k) (opd_rep hT x) e
    exact ⟨.skip, undef, w', h, θ, by simp [execOp, hr], .inr ⟨rfl, rfl⟩, .refl _, .refl _, I'.less (fun _ _ e => e) (fun _ f => f.1), .undef⟩
  case lookup t m k ok => exact pv (lookup_ok I (opd_rep hT m) (opd_rep hT k) e)
  case makeSlice t l c => exact makeSlice_ok I f (opd_rep hT l) (opd_rep hT c) e
  case slice t x lo hi mx => exact slice_ok I (opd_rep hT x) (opdO_rep hT lo) (opdO_rep hT hi) (opdO_rep hT mx) e
  case fieldAddr s x g =>
    obtain ⟨v, hv, rfl⟩ := ofOpt_eval e
    obtain ⟨u, hr, ru⟩ := fieldAddr_ok (w := w) (opd_rep hT x) hv
    exact .of_value I hr ru
  case field s x g =>
    obtain ⟨v, hv, rfl⟩ := ofOpt_eval e
    obtain ⟨u, hr, ru⟩ := field_ok (w := w) (opd_rep hT x) hv
    exact .of_value I hr ru
  case indexAddr t x i => exact pv (indexAddr_ok I (opd_rep hT x) (opd_rep hT i) e)
  case index t x i => exact pv (index_ok (opd_rep hT x) (opd_rep hT i) e)
  case extract x i =>
    have rx := opd_rep hT x
    split at e
    · rename_i vs hx
      obtain ⟨v, hv, rfl⟩ := ofOpt_eval e
      rw [hx] at rx
      have : ∃ us, a.eval x = .tuple us.toArray ∧ RepL h θ vs us := by
        generalize a.eval x = v at rx
        cases rx; exact ⟨_, rfl, ‹_›⟩
      obtain ⟨us, ha, ru⟩ := this
      obtain ⟨u, hu, rv⟩ := ru.get hv
      exact .of_value I (by simp [Instr.extract, ha, hu]) rv
    · cases e
  case call c =>
    obtain ⟨callee, args, tys⟩ := c
    simp only at e
    split at e
    · rename_i b
      have := builtin_ok (ty := typ) (consts := args.map fun | .const _ => true | _ => false) I f (opds_rep hT args.toList) e
      simp only [execOp, resolve, pure_bind, invoke]
      rw [map_opds]; exact this
    · cases e
end ops
end Go.Proofs.YtjnigggpijfdeaaGreatDoor
