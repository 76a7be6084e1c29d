/- Regions in the order of the text do what the evaluator says (nothing is claimed here). -/
import Derived.Test.YtnhokcnnhmkbhaaDoorSh15
set_option linter.unusedVariables false
set_option linter.unusedSimpArgs false
namespace Go.Proofs.YtnhokcnnhmkbhaaDoor
open Go Go.RowKit

section seq
variable {E : Env} {n0 : Nat} {w0 : World} {h0 h : Hp} {θ : Th} {M : Mem} {Fr : Nat → Prop} {κ : Nat} {w : World} {Q' : Goal}

theorem guard_ok {ops : Array Oper} {T : Tmps} {a : Act} (hT : RepT h θ T a.tmps) {o : Oper} {g : Bool} (e : guardS ops T o.guard = some g) : Region.wanted o (yielded ops a.tmps) = g := by
  unfold guardS at e
  unfold Region.wanted
  cases hg : o.guard with
  | none => rw [hg] at e; cases e; rfl
  | some p =>
    obtain ⟨j, want⟩ := p
    rw [hg] at e
    simp only at e ⊢
    unfold yielded
    cases hd : (ops[j]?).bind (·.dst) with
    | none => rw [hd] at e; cases e
    | some d =>
      rw [hd] at e
      simp only [Option.bind_some] at e ⊢
      have r := hT d
      split at e
      · rename_i q hq
        cases e
        rw [hq] at r
        rw [Array.getD_eq_getD_getElem?] at r
        cases hx : a.tmps[d]? with
        | none => rw [hx] at r; cases r
        | some v =>
          rw [hx] at r
          simp only [Option.getD_some] at r
          cases r
          cases q <;> cases want <;> rfl
      · rename_i hq
        cases e
        rw [hq] at r
        rw [Array.getD_eq_getD_getElem?] at r
        cases hx : a.tmps[d]? with
        | none => rfl
        | some v =>
          rw [hx] at r
          simp only [Option.getD_some] at r
          generalize hu : v = u at r
          cases r
          rfl
      · cases e

theorem callee_run (ok : EnvOk E) {T : Tmps} {a : Act} (hT : RepT h θ T a.tmps) {f : Operand} {c : Call} {args : List SV} {g : FuncId} (hc : c.callee = .value f) (e : calleeS (opd T f) (c.args.toList.map (opd T)) = some (g, args)) (hg : E.callee g = true) (ty : TypeId) :
    ∃ us : List Value, RepL h θ args us ∧ ∀ w, (do let d ← resolve a.eval c ty; invoke d.target d.args : Sem Next).run E.P w = .ok (.enter g us.toArray) w := by
  unfold calleeS at e
  split at e
  · rename_i g' first cap hf
    cases e
    have rf := opd_rep hT f
    rw [hf] at rf
    have : ∃ xs ys, a.eval f = .func (.func g) xs.toArray ys.toArray ∧ RepL h θ first xs ∧ RepL h θ cap ys := by
      generalize a.eval f = v at rf
      cases rf; exact ⟨_, _, rfl, ‹_›, ‹_›⟩
    obtain ⟨xs, ys, hv, r1, r2⟩ := this
    refine ⟨xs ++ (c.args.toList.map a.eval ++ ys), r1.append (tt := c.args.toList.map (opd T) ++ cap) (ss := first) (vs := xs) ((opds_rep hT _).append (ss := c.args.toList.map (opd T)) (vs := c.args.toList.map a.eval) r2), fun w => ?_⟩
    have harr : (xs.toArray ++ c.args.map a.eval) ++ ys.toArray = (xs ++ (c.args.toList.map a.eval ++ ys)).toArray := by
      apply Array.ext'; simp
    have := ok.callee g hg ((xs.toArray ++ c.args.map a.eval) ++ ys.toArray) w
    rw [harr] at this
    simp only [resolve, hc, hv, Deferred.ofValue, Sem.run_bind, Sem.run_pure, Result.andThen_ok, invoke]
    rw [← harr] at this ⊢
    exact this
  · cases e

theorem listS_slice (I : Inv E n0 w0 h0 h θ M Fr w) {x : SV} {u : Value} {p : (τ : ETy) × List τ.T} (r : Rep h θ x u) (hl : listS M x = some p) : ∃ ad n c, u = .slice ad n c ∧ (p.2 ≠ [] → ad ≠ none) := by
  have rd : ∀ (τ : ETy) (l : List τ.T), Rep h θ (.rd τ l) u → ∃ ad n c, u = .slice ad n c ∧ (l ≠ [] → ad ≠ none) := fun τ l r => by
    obtain ⟨b, c, rfl, _, _, hx⟩ := r.rd_inv
    exact ⟨b, _, c, rfl, fun h => by obtain ⟨x, rfl, _⟩ := hx h; simp⟩
  unfold listS at hl
  split at hl
  · cases hl; exact rd _ _ r
  · cases hl
    obtain ⟨b, rfl, r'⟩ := r.rdx_inv
    exact rd _ _ r'
  · rename_i k
    obtain ⟨b, m, c, o, rfl, et⟩ := r.own_inv
    split at hl
    · rename_i τ' l' ty' hM
      cases hl
      obtain ⟨hd', e1, r1⟩ := I.blk k _ hM
      rw [et] at e1; cases e1
      rcases r1 with ⟨rfl, a, ea⟩ | ⟨id', c', vs, rest, ty', ea, _⟩
      · cases ea; exact ⟨_, _, _, rfl, fun h => absurd rfl h⟩
      · cases ea; exact ⟨_, _, _, rfl, fun _ => by simp⟩
    · rename_i τ' l' hM
      cases hl
      obtain ⟨hd', e1, r1⟩ := I.blk k _ hM
      rw [et] at e1; cases e1
      exact rd _ _ r1
    · cases hl
  · cases hl
theorem run_equal_slice {P : Program} {t e : TypeId} (w : World) (hu : P.underlying t = some (.slice e)) {ad : Option Addr} {n c : Nat} : (Op.equal t (.slice ad n c) (.slice none 0 0)).run P w = .ok ad.isNone w := by
  have : ∀ d, (Op.equalIn (d + 1) t (.slice ad n c) (.slice none 0 0)).run P w = .ok ad.isNone w := fun d => by
    cases ad with
    | none => simp only [Op.equalIn, Sem.run_bind, run_underlying hu, Result.andThen_ok, Sem.run_pure]
    | some a => simp only [Op.equalIn, Sem.run_bind, run_underlying hu, Result.andThen_ok, Sem.run_pure]; rfl
  exact this 9999
theorem nilCmp_ok (I : Inv E n0 w0 h0 h θ M Fr w) {op : BinOp} {t : TypeId} {x y : Operand} {sx sy : SV} {a b : Value} {q : Bool} (ra : Rep h θ sx a) (rb : Rep h θ sy b) (e : nilCmp E M op t sx sy = some q) :
    ∃ r : Bool, (do eqGuard op t x y a b; binOp op t a b : Sem Value).run E.P w = .ok (.bool r) w ∧ (q = false → r = neqB op) := by
  have key : ∀ el, E.P.underlying t = some (.slice el) → sy = .v (.slice none 0 0) → (listS M sx).map (fun p => Nat.beq p.2.length 0) = some q → ∃ r : Bool, (Op.equal t a b).run E.P w = .ok r w ∧ (q = false → r = false) ∧ ∃ ad n c, a = .slice ad n c ∧ b = .slice none 0 0 := fun el hu hy hl => by
    subst hy
    obtain ⟨p, h1, h2⟩ := Option.map_eq_some_iff.1 hl
    obtain ⟨ad, n, c, rfl, hne⟩ := listS_slice I ra h1
    cases rb
    refine ⟨_, run_equal_slice w hu, fun hq => ?_, _, _, _, rfl, rfl⟩
    rw [hq] at h2
    have : ad ≠ none := hne fun hn => by rw [hn] at h2; cases h2
    cases ad with
    | none => exact absurd rfl this
    | some _ => rfl
  unfold nilCmp at e
  split at e
  · rename_i el hu
    obtain ⟨r, h1, h2, ad, n, c, rfl, rfl⟩ := key _ hu rfl e
    exact ⟨r, by simp only [Sem.run_bind, run_guard_plain _ t x y (a := .slice ad n c) (fun _ => by simp) (by simp), Result.andThen_ok]; simp [binOp, h1], h2⟩
  · rename_i el hu
    obtain ⟨r, h1, h2, ad, n, c, rfl, rfl⟩ := key _ hu rfl e
    exact ⟨!r, by simp only [Sem.run_bind, run_guard_plain _ t x y (a := .slice ad n c) (fun _ => by simp) (by simp), Result.andThen_ok]; simp [binOp, h1], fun hq => by rw [h2 hq]; rfl⟩
  · cases e
/-- one operation, its effects let -/
theorem evOp_ok (ok : EnvOk E) {call : CallF} (hc : CallOk E n0 w0 h0 Q' call) {ops : Array Oper} {o : Oper} {s : St} {K : St → Tree} {a : Act} (R : SRel E n0 w0 h0 h θ s a w) (e : (evOp E call true ops o s.M s K).holds Q')
    {next : Act → World → Prop} {Q : Exit → Act → World → Prop}
    (hn : ∀ s' a' w' h' θ', SRel E n0 w0 h0 h' θ' s' a' w' → h.le h' → θ.le θ' → s.κ ≤ s'.κ → s'.n = s.n → a'.defers = a.defers → (K s').holds Q' → next a' w') :
    (Region.wanted o (yielded ops a.tmps) = true ∧ o.wp E.P a w next Q) ∨ (Region.wanted o (yielded ops a.tmps) = false ∧ next (a.put o.dst undef) w) := by
  unfold evOp at e
  -- what is put
  have put : ∀ {v : SV} {u : Value} {M' : Mem} {κ' : Nat} {h' : Hp} {θ' : Th} {w' : World}, s.κ ≤ κ' → Inv E n0 w0 h0 h' θ' M' (fun k => κ' ≤ k) w' → h.le h' → θ.le θ' → Rep h' θ' v u →
      (putK s.n s.T o.dst v fun T => K ⟨T, M', κ', s.n⟩).holds Q' → next (a.put o.dst u) w' := fun {v u M' κ' h' θ' w'} hκ I' hh ht ru e => by
    obtain ⟨e, hd⟩ := putK_holds e
    exact hn ⟨putT s.T o.dst v, M', κ', s.n⟩ _ w' h' θ' ⟨I', put_rep (R.tmps.mono hh ht) ru (by rw [R.size]; exact hd), by rw [put_size]; exact R.size⟩ hh ht hκ rfl (put_defers _ _ _) e
  have step : ((stepOp E s.T s.M s.κ o.op).cps true s.M s.κ fun v M => putK s.n s.T o.dst v fun T => K ⟨T, M, s.κ + 1, s.n⟩).holds Q' → o.wp E.P a w next Q := fun e => by
    obtain ⟨out, he, e, _⟩ := cps_holds e
    obtain ⟨nx, u, w', h', θ', hr, hnx, hh, ht, I', ru⟩ := step_sound R.inv (Nat.le_refl _) R.tmps he
    have I2 : Inv E n0 w0 h0 h' θ' (out.mem s.M s.κ) (fun k => s.κ + 1 ≤ k) w' := I'.less (fun _ _ e => e) (fun k hk => ⟨by omega, by omega⟩)
    have := put (by omega) I2 hh ht ru e
    unfold Oper.wp
    rw [hr]
    rcases hnx with rfl | ⟨rfl, rfl⟩
    · exact this
    · exact this
  split at e
  · exact e.elim
  · rename_i hg
    refine .inr ⟨guard_ok R.tmps hg, ?_⟩
    exact put (κ' := s.κ + 1) (by omega) (R.inv.less (fun _ _ e => e) (fun k hk => by omega)) (.refl _) (.refl _) .undef e
  · rename_i hg
    refine .inl ⟨guard_ok R.tmps hg, ?_⟩
    split at e
    · rename_i c hop
      split at e
      · rename_i f hcal
        split at e
        · rename_i g args hca
          obtain ⟨hgc, e⟩ := holds_need e
          obtain ⟨us, ru, hrun⟩ := callee_run ok R.tmps hcal hca hgc o.type
          have hex : (execOp a.eval o).run E.P w = .ok (.enter g us.toArray) w := by
            obtain ⟨dst, op, typ, pos, after, guard⟩ := o
            simp only at hop; subst hop
            exact hrun w
          unfold Oper.wp
          rw [hex]
          show Calls E.P g us.toArray w _
          unfold evCallOp at e
          split at e
          · rename_i S hS
            split at e
            · rename_i args' hl
              split at e
              · rename_i pre x hr
                obtain ⟨rfl, e⟩ := holds_need e
                refine (spec_ok ok R.inv hS hl hr ru).mono fun en w' ⟨v, he, wf, ⟨h1, q1, q2, q3⟩, hflat⟩ => ?_
                subst he
                split at e
                · rename_i hk
                  have e := e x rfl wf
                  rw [hk] at q2
                  exact put (κ' := s.κ + 1) (by omega) (q2.less (fun _ _ e => e) (fun k hk => by omega)) q1 (.refl _) q3 e
                · have e := e x rfl wf
                  rcases holds_bif e with ⟨hf, e⟩ | ⟨_, e⟩
                  · obtain ⟨h2, q4, q5, q6⟩ := hflat hf
                    exact put (κ' := s.κ + 1) (by omega) (q5.less (fun _ _ e => e) (fun k hk => by omega)) q4 (.refl _) q6 e
                  · exact put (κ' := s.κ + 1) (by omega) (q2.less (fun _ _ e => e) (fun k hk => by omega)) q1 (.refl _) q3 e
              · exact e.elim
            · split at e
              · rename_i args' hl
                split at e
                · rename_i pre x hr
                  obtain ⟨rfl, e⟩ := holds_need e
                  refine (spec_look ok R.inv hS hl hr ru).mono fun en w' ⟨v, he, wf, hflat⟩ => ?_
                  subst he
                  have e := e x rfl wf
                  obtain ⟨hf, e⟩ := holds_need e
                  obtain ⟨h2, q4, q5, q6⟩ := hflat hf
                  exact put (κ' := s.κ + 1) (by omega) (q5.less (fun _ _ e => e) (fun k hk => by omega)) q4 (.refl _) q6 e
                · exact e.elim
              · exact e.elim
          · refine (hc g args s.M s.κ _ e h θ w us R.inv ru).mono fun en w' ⟨v, r, M', κ', h', θ', he, e, hh, ht, hκ, I', rv⟩ => ?_
            subst he
            exact put hκ I' hh ht rv e
        · exact e.elim
      · exact step e
    · rename_i op t x y ty hop
      split at e
      · rename_i q hq
        simp only [cond_true] at e
        obtain ⟨r, hr, hqr⟩ := nilCmp_ok (w := w) (x := x) (y := y) R.inv (opd_rep R.tmps x) (opd_rep R.tmps y) hq
        have hex : (execOp a.eval o).run E.P w = .ok (.value (.bool r)) w := by
          obtain ⟨dst, op', typ, pos, after, guard⟩ := o
          simp only at hop; subst hop
          simp only [execOp]
          simp only [Sem.run_bind] at hr ⊢
          rw [hr]; rfl
        have I2 : Inv E n0 w0 h0 h θ s.M (fun k => s.κ + 1 ≤ k) w := R.inv.less (fun _ _ e => e) (fun k hk => by omega)
        unfold Oper.wp
        rw [hex]
        show next (a.put o.dst (.bool r)) w
        cases q with
        | true =>
          simp only [cond_true] at e
          obtain ⟨e1, e2⟩ := e
          cases r with
          | true => exact put (by omega) I2 (.refl _) (.refl _) (.b true) e1
          | false => exact put (by omega) I2 (.refl _) (.refl _) (.b false) e2
        | false =>
          simp only [cond_false] at e
          rw [hqr rfl]
          exact put (by omega) I2 (.refl _) (.refl _) (.b _) e
      · exact step e
    · exact step e

/-- a region in the order of the text -/
theorem evOps_ok (ok : EnvOk E) {call : CallF} (hc : CallOk E n0 w0 h0 Q' call) {ops : Array Oper} {Q : Exit → Act → World → Prop} : ∀ (rest : List Oper) (j : Nat), ops.toList.drop j = rest →
    ∀ {s : St} {K : St → Tree} {a : Act} {w : World} {h : Hp} {θ : Th}, SRel E n0 w0 h0 h θ s a w → (evOps E call ops rest s K).holds Q' →
      (∀ s' a' w' h' θ', SRel E n0 w0 h0 h' θ' s' a' w' → h.le h' → θ.le θ' → s.κ ≤ s'.κ → s'.n = s.n → a'.defers = a.defers → (K s').holds Q' → Q .normal a' w') →
      wpOps E.P ops Q (List.range' j rest.length) a w
  | [], j, hj, s, K, a, w, h, θ, R, e, hn => hn s a w h θ R (.refl _) (.refl _) (Nat.le_refl _) rfl rfl e
  | o :: rest, j, hj, s, K, a, w, h, θ, R, e, hn => by
    have hlen : j < ops.toList.length := by
      rcases Nat.lt_or_ge j ops.toList.length with h | h
      · exact h
      · rw [List.drop_of_length_le h] at hj; cases hj
    rw [List.drop_eq_getElem_cons hlen] at hj
    injection hj with ho hrest
    have hoj : ops[j]? = some o := by
      rw [← ho, Array.getElem?_eq_getElem (by simpa using hlen)]; simp
    rw [List.length_cons, List.range'_succ]
    simp only [wpOps, hoj]
    have := evOp_ok ok hc (Q := Q) R e (next := wpOps E.P ops Q (List.range' (j + 1) rest.length)) fun s' a' w' h' θ' R' hh ht hκ hsn hd e' =>
      evOps_ok ok hc rest (j + 1) hrest R' e' fun s2 a2 w2 h2 θ2 R2 hh2 ht2 hκ2 hsn2 hd2 e2 =>
        hn s2 a2 w2 h2 θ2 R2 (hh.trans hh2) (ht.trans ht2) (Nat.le_trans hκ hκ2) (hsn2.trans hsn) (hd2.trans hd) e2
    rcases this with ⟨hw, hwp⟩ | ⟨hw, hnx⟩
    · rw [if_pos hw]; exact .inl hwp
    · rw [if_neg (by rw [hw]; simp)]; exact hnx
end seq
end Go.Proofs.YtnhokcnnhmkbhaaDoor
