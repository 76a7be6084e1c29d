/- Each operation of the machine does what the evaluator says: all of them in one theorem (nothing is claimed here). -/
import Derived.Test.YtmbedgfkgonanaaSh13
set_option linter.unusedVariables false
set_option linter.unusedSimpArgs false
namespace Go.Proofs.Ytmbedgfkgonanaa
open Go Go.RowKit

def RepT (h : Hp) (θ : Th) (T : Tmps) (a : Array Value) : Prop := ∀ t, Rep h θ (T t) (a.getD t undef)

section ops
variable {E : Env} {n0 : Nat} {w0 : World} {h0 h : Hp} {θ : Th} {M : Mem} {Fr : Nat → Prop} {κ : Nat} {w : World}

theorem opd_rep {T : Tmps} {a : Act} (hT : RepT h θ T a.tmps) (x : Operand) : Rep h θ (opd T x) (a.eval x) := by
  cases x with
  | tmp t => exact hT t
  | const v =>
    have other : Rep h θ (bif okB v then .v v else .junk) v := by
      cases hb : okB v with
      | true => exact .v v (okB_ok hb)
      | false => exact .junk v
    cases v with
    | bool q => exact .b q
    | _ => exact other
  | global g => exact .gptr g 0 0 1 (by omega)
  | func f => exact .fn (.func f) [] [] [] [] .nil .nil
theorem opds_rep {T : Tmps} {a : Act} (hT : RepT h θ T a.tmps) : ∀ (l : List Operand), RepL h θ (l.map (opd T)) (l.map a.eval)
  | [] => .nil
  | x :: l => .cons _ _ _ _ (opd_rep hT x) (opds_rep hT l)
theorem opdO_rep {T : Tmps} {a : Act} (hT : RepT h θ T a.tmps) (x : Option Operand) : RepO h θ (x.map (opd T)) (x.map a.eval) := by
  cases x with
  | none => trivial
  | some x => exact opd_rep hT x
theorem parts_rep {T : Tmps} {a : Act} (hT : RepT h θ T a.tmps) (l : List (Nat × Operand)) (j : Nat) (p : Nat × SV) (u : Nat × Value) (hp : (l.map fun p => (p.1, opd T p.2))[j]? = some p) (hu : (l.map fun p => (p.1, a.eval p.2))[j]? = some u) : Rep h θ p.2 u.2 := by
  rw [List.getElem?_map] at hp hu
  cases hl : l[j]? with
  | none => rw [hl] at hp; cases hp
  | some q => rw [hl] at hp hu; cases hp; cases hu; exact opd_rep hT q.2
theorem map_pair (ρ : Operand → Value) (parts : Array (Nat × Operand)) : (parts.map fun (x : Nat × Operand) => (x.1, ρ x.2)) = (parts.toList.map fun p => (p.1, ρ p.2)).toArray := by
  apply Array.ext'; simp
theorem map_opds (ρ : Operand → Value) (l : Array Operand) : l.map ρ = (l.toList.map ρ).toArray := by
  apply Array.ext'; simp

theorem builtin_ok (I : Inv E n0 w0 h0 h θ M Fr w) (f : Fr κ) {b : Builtin} {tys : Array TypeId} {ty : TypeId} {consts : Array Bool} {args : List SV} {us : List Value} {out : Out} (r : RepL h θ args us) (e : (builtinS E M κ b tys args).eval = some out) :
    StepOk E n0 w0 h0 h θ M Fr κ w (builtin b tys ty consts us.toArray) out := by
  unfold builtinS at e
  split at e
  · rename_i x t ht
    obtain ⟨u, us', rfl, ru, rn⟩ := r.cons_inv
    cases rn.nil_inv
    split at e
    · rename_i n el hu
      cases hn : Nat.ble n lim with
      | false => rw [hn] at e; cases e
      | true =>
        rw [hn] at e; cases e
        have hn := Nat.le_of_ble_eq_true hn
        refine .of_value I (u := goInt n) ?_ (.v _ ?_)
        · simp [Builtin.len_, ht, run_underlying hu]
        · have := lim_le
          show okI .i64 _
          simp only [okI, show IntKind.i64.min = -9223372036854775808 from rfl, show IntKind.i64.max = 9223372036854775807 from rfl]
          omega
    · rename_i hu
      split at e
      · rename_i s
        cases e
        cases ru with
        | v _ o =>
          have o : s.size ≤ lim := o
          refine .of_value I (u := goInt s.size) ?_ (.v _ ?_)
          · simp [Builtin.len_, ht, run_underlying hu]
          · have := lim_le
            show okI .i64 _
            simp only [okI, show IntKind.i64.min = -9223372036854775808 from rfl, show IntKind.i64.max = 9223372036854775807 from rfl]
            omega
      · cases e
    · rename_i el hu
      split at e
      · rename_i n hn
        cases e
        obtain ⟨⟨a, c, rfl⟩, hl⟩ := lenS_ok I ru hn
        refine .of_value I (u := goInt n) ?_ (.v _ ?_)
        · simp [Builtin.len_, ht, run_underlying hu]
        · have := lim_le
          show okI .i64 _
          simp only [okI, show IntKind.i64.min = -9223372036854775808 from rfl, show IntKind.i64.max = 9223372036854775807 from rfl]
          omega
      · cases e
    · cases e
  · rename_i s x t ht
    obtain ⟨u, us', rfl, ru, rn⟩ := r.cons_inv
    obtain ⟨u2, us2, rfl, ru2, rn2⟩ := rn.cons_inv
    cases rn2.nil_inv
    split at e
    · rename_i el τ t' he ht'
      cases hx : isSliceT E t' with
      | false => rw [hx] at e; cases e
      | true =>
        rw [hx] at e; simp only [cond_true] at e
        split at e
        · rename_i lx hl
          have htys : ∀ (args : Array Value), (Builtin.append_ tys ty args).run E.P = (Builtin.append_ #[t, t'] ty args).run E.P := fun args => by
            unfold Builtin.append_
            simp only [ht, ht', List.getElem?_toArray, List.getElem?_cons_zero, List.getElem?_cons_succ]
          have := appendS_ok (ty := ty) I f he hx ru (listOf_cells I ru2 hl) e
          obtain ⟨nx, u', w', h', θ', q1, q⟩ := this
          refine ⟨nx, u', w', h', θ', ?_, q⟩
          rw [← q1]
          simp only [builtin, Sem.run_bind, htys]
        · cases e
    · cases e
  · obtain ⟨v, u, rfl, hr, rv⟩ := minmax_ok I r e tys ty
    exact .of_value I (by simpa using hr) rv
  · obtain ⟨v, u, rfl, hr, rv⟩ := minmax_ok I r e tys ty
    exact .of_value I (by simpa using hr) rv
  · cases e

theorem step_sound (I : Inv E n0 w0 h0 h θ M Fr w) (f : Fr κ) {T : Tmps} {a : Act} (hT : RepT h θ T a.tmps) {o : Oper} {out : Out} (e : (stepOp E T M κ o.op).eval = some out) :
    StepOk E n0 w0 h0 h θ M Fr κ w (execOp a.eval o) out := by
  obtain ⟨dst, op, typ, pos, after, guard⟩ := o
  simp only at e
  have pv : ∀ {s : Sem Value}, PureOk E h θ w s out → StepOk E n0 w0 h0 h θ M Fr κ w (do Pure.pure (.value (← s))) out := fun p => p.step I
  cases op <;> simp only [stepOp] at e <;> first | (cases e; done) | skip
  case move x => cases e; exact .pure I rfl (opd_rep hT x)
  case assign x => cases e; exact .pure I rfl (opd_rep hT x)
  case pick c x y =>
    have rc := opd_rep hT c
    split at e
    · rename_i hc
      rw [hc] at rc
      cases e
      have ec : a.eval c = .bool true := by
        generalize a.eval c = v at rc
        cases rc; rfl
      exact .pure I (by simp [execOp, ec, asBool]) (opd_rep hT x)
    · rename_i hc
      rw [hc] at rc
      cases e
      have ec : a.eval c = .bool false := by
        generalize a.eval c = v at rc
        cases rc; rfl
      exact .pure I (by simp [execOp, ec, asBool]) (opd_rep hT y)
    · rename_i q hc
      rw [hc] at rc
      have ec : a.eval c = .bool q := by
        generalize a.eval c = v at rc
        cases rc; rfl
      simp only [OpT.eval] at e
      cases q with
      | true => cases e; exact .pure I (by simp [execOp, ec, asBool]) (opd_rep hT x)
      | false => cases e; exact .pure I (by simp [execOp, ec, asBool]) (opd_rep hT y)
    · cases e
  case alloc t =>
    split at e
    · cases e; exact alloc_ok I f ‹_›
    · cases e
  case box t x =>
    split at e
    · cases e; exact box_ok I f ‹_› (opd_rep hT x)
    · cases e
  case build t parts =>
    obtain ⟨v, hv, rfl⟩ := ofOpt_eval e
    cases hb : buildC E t (parts.toList.map fun p => (p.1, opd T p.2)) with
    | none => rw [hb] at hv; cases hv
    | some cs =>
      rw [hb] at hv; cases hv
      obtain ⟨v, hr, rv⟩ := build_ok I hb (us := parts.toList.map fun p => (p.1, a.eval p.2)) (by simp) (parts_rep hT parts.toList)
      exact .of_value I (by rw [map_pair]; exact hr) rv
  case buildSlice t len parts =>
    have := buildSlice_ok I f e (us := parts.toList.map fun p => (p.1, a.eval p.2)) (by simp) (parts_rep hT parts.toList)
    simp only [execOp]
    rw [map_pair]; exact this
  case load t x =>
    obtain ⟨v, hv, rfl⟩ := ofOpt_eval e
    obtain ⟨u, hr, ru⟩ := load_ok I (opd_rep hT x) hv
    exact .of_value I hr ru
  case store t x y =>
    split at e
    · rename_i M' hs
      cases e
      obtain ⟨w', h', hr, hle, I'⟩ := store_ok I (opd_rep hT x) (opd_rep hT y) hs
      exact ⟨.skip, undef, w', h', θ, by simp [execOp, hr], .inr ⟨rfl, rfl⟩, hle, .refl _, I'.less (fun _ _ e => e) (fun _ f => f.1), .undef⟩
    · cases e
  case nilCheck x =>
    have rx := opd_rep hT x
    have ptr : ∀ ad, a.eval x = .pointer (some ad) → out = .val (opd T x) none → StepOk E n0 w0 h0 h θ M Fr κ w (execOp a.eval ⟨dst, .nilCheck x, typ, pos, after, guard⟩) out := fun ad ha ho => by
      subst ho
      exact .pure I (by simp [execOp, ha]) rx
    split at e
    · rename_i hx; cases e; rw [hx] at rx
      obtain ⟨id, ha, _⟩ := rx.loc_inv
      exact ptr _ ha rfl
    · rename_i hx; cases e; rw [hx] at rx
      obtain ⟨ha, _⟩ := rx.gptr_inv
      exact ptr _ ha rfl
    · rename_i hx; cases e; rw [hx] at rx
      obtain ⟨b, c, ha, _⟩ := rx.rptr_inv
      exact ptr _ ha rfl
    · rename_i hx; cases e; rw [hx] at rx
      obtain ⟨id, n, c, ha, _⟩ := rx.optr_inv
      exact ptr _ ha rfl
    · rename_i g fs cs hx; cases e
      have rx' := rx
      rw [hx] at rx'
      have : ∃ xs ys, a.eval x = .func (.func g) xs ys := by
        generalize a.eval x = v at rx'
        cases rx'; exact ⟨_, _, rfl⟩
      obtain ⟨xs, ys, ha⟩ := this
      exact .pure I (by simp [execOp, ha]) rx
    · cases e
  case binOp op t x y yt => exact pv (binS_ok (opd_rep hT x) (opd_rep hT y) e)
  case unOp op t x => exact pv (unS_ok (opd_rep hT x) e)
  case convert src dst' x => exact pv (convS_ok (opd_rep hT x) e)
  case makeFunc fn first cap =>
    cases e
    refine .pure I (u := .func fn (first.toList.map a.eval).toArray (cap.toList.map a.eval).toArray) ?_ (.fn fn _ _ _ _ (opds_rep hT _) (opds_rep hT _))
    simp only [execOp, Instr.makeFunc, map_opds]
    rfl
  case makeSlice t l c => exact makeSlice_ok I f (opd_rep hT l) (opd_rep hT c) e
  case slice t x lo hi mx => exact slice_ok I (opd_rep hT x) (opdO_rep hT lo) (opdO_rep hT hi) (opdO_rep hT mx) e
  case fieldAddr s x g =>
    obtain ⟨v, hv, rfl⟩ := ofOpt_eval e
    obtain ⟨u, hr, ru⟩ := fieldAddr_ok (w := w) (opd_rep hT x) hv
    exact .of_value I hr ru
  case field s x g =>
    obtain ⟨v, hv, rfl⟩ := ofOpt_eval e
    obtain ⟨u, hr, ru⟩ := field_ok (w := w) (opd_rep hT x) hv
    exact .of_value I hr ru
  case indexAddr t x i => exact pv (indexAddr_ok I (opd_rep hT x) (opd_rep hT i) e)
  case index t x i => exact pv (index_ok (opd_rep hT x) (opd_rep hT i) e)
  case extract x i =>
    have rx := opd_rep hT x
    split at e
    · rename_i vs hx
      obtain ⟨v, hv, rfl⟩ := ofOpt_eval e
      rw [hx] at rx
      have : ∃ us, a.eval x = .tuple us.toArray ∧ RepL h θ vs us := by
        generalize a.eval x = v at rx
        cases rx; exact ⟨_, rfl, ‹_›⟩
      obtain ⟨us, ha, ru⟩ := this
      obtain ⟨u, hu, rv⟩ := ru.get hv
      exact .of_value I (by simp [Instr.extract, ha, hu]) rv
    · cases e
  case call c =>
    obtain ⟨callee, args, tys⟩ := c
    simp only at e
    split at e
    · rename_i b
      have := builtin_ok (ty := typ) (consts := args.map fun | .const _ => true | _ => false) I f (opds_rep hT args.toList) e
      simp only [execOp, resolve, pure_bind, invoke]
      rw [map_opds]; exact this
    · cases e
end ops
end Go.Proofs.Ytmbedgfkgonanaa
