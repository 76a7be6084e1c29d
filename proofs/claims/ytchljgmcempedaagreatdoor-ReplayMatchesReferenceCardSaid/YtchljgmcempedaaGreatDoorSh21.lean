/- A function does what the evaluator says (nothing is claimed here). -/
import Derived.Test.YtchljgmcempedaaGreatDoorSh20
import Derived.Scope
import Derived.LoopN
set_option linter.unusedVariables false
set_option linter.unusedSimpArgs false
namespace Go.Proofs.YtchljgmcempedaaGreatDoor
open Go Go.RowKit

def exT : Ex → Exit
  | .normal => .normal
  | .exit i => .exit i
  | .ret => .ret
theorem repL_length {h : Hp} {θ : Th} : ∀ {ss : List SV} {vs : List Value}, RepL h θ ss vs → vs.length = ss.length
  | [], vs, r => by rw [r.nil_inv]; rfl
  | s :: ss, vs, r => by
    obtain ⟨v, vs', rfl, r1, r2⟩ := r.cons_inv
    simp [repL_length r2]
section code
variable {E : Env} {n0 : Nat} {w0 : World} {h0 : Hp} {Q' : Goal}

theorem results_ok {h : Hp} {θ : Th} {Fr : Nat → Prop} {w : World} {s : St} (I : Inv E n0 w0 h0 h θ s.M Fr w) {tmps : Array Value} (hT : RepT h θ s.T tmps) : ∀ (rs : List ResultVar) {vs : List SV}, resL E s rs = some vs →
    ∃ us : List Value, (rs.mapM fun (r : ResultVar) => (match r with | .tmp t => (pure (tmps.getD t undef) : Sem Value) | .cell a t => (do loadVar t (← asAddr (tmps.getD a undef))))).run E.P w = .ok us w ∧ RepL h θ vs us
  | [], vs, e => by cases e; exact ⟨[], by simp, .nil⟩
  | r :: rs, vs, e => by
    simp only [resL] at e
    cases h1 : resS E s r with
    | none => rw [h1] at e; cases e
    | some v =>
      rw [h1] at e; simp only [Option.bind_some] at e
      cases h2 : resL E s rs with
      | none => rw [h2] at e; cases e
      | some vs' =>
        rw [h2] at e; cases e
        obtain ⟨us, e2, r2⟩ := results_ok I hT rs h2
        have key : ∃ u, ((match r with | .tmp t => (pure (tmps.getD t undef) : Sem Value) | .cell a t => (do loadVar t (← asAddr (tmps.getD a undef)))) : Sem Value).run E.P w = .ok u w ∧ Rep h θ v u := by
          cases r with
          | tmp t => cases h1; exact ⟨_, by simp, hT t⟩
          | cell a t =>
            obtain ⟨u, hu, ru⟩ := load_ok I (hT a) h1
            refine ⟨u, ?_, ru⟩
            simp only [Instr.loadAt] at hu
            simp only
            generalize tmps.getD a undef = x at hu
            cases x <;> first | (simp [Instr.sureAddr] at hu; done) | skip
            rename_i p
            cases p with
            | none => simp [Instr.sureAddr] at hu
            | some p => simpa [Instr.sureAddr, asAddr] using hu
        obtain ⟨u, hu, ru⟩ := key
        refine ⟨u :: us, ?_, .cons _ _ _ _ ru r2⟩
        rw [List.mapM_cons]
        simp only [Sem.run_bind, hu, Result.andThen_ok, e2, Sem.run_pure]
theorem result_ok {h : Hp} {θ : Th} {Fr : Nat → Prop} {w : World} {s : St} (I : Inv E n0 w0 h0 h θ s.M Fr w) {tmps : Array Value} (hT : RepT h θ s.T tmps) {fn : Func} {vs : List SV} (e : resL E s fn.results.toList = some vs) :
    ∃ u, (results fn tmps).run E.P w = .ok u w ∧ Rep h θ (oneS vs) u := by
  obtain ⟨us, h1, r⟩ := results_ok I hT _ e
  have h2 : (results fn tmps).run E.P w = .ok (if h : us.toArray.size = 1 then us.toArray[0] else .tuple us.toArray) w := by
    unfold results
    rw [Array.mapM_eq_mapM_toList]
    simp only [Sem.run_bind, Sem.run_map, Sem.run_pure]
    exact congrArg (fun r => (r.andThen fun a w' => Result.ok a.toArray w').andThen fun a w' => Result.ok (if h : a.size = 1 then a[0] else Value.tuple a) w') h1
  refine ⟨_, h2, ?_⟩
  cases r with
  | nil => exact .tup _ _ .nil
  | cons s v ss vs r rs =>
    cases rs with
    | nil => exact r
    | cons s' v' ss' vs' r' rs' =>
      have : ¬ (v :: v' :: vs').toArray.size = 1 := by simp
      rw [dif_neg this]
      exact .tup _ _ (.cons _ _ _ _ r (.cons _ _ _ _ r' rs'))

theorem initT_rep {h : Hp} {θ : Th} : ∀ {args : List SV} {us : List Value} (n : Nat), RepL h θ args us → RepT h θ (initT args) (us.toArray ++ Array.replicate n undef)
  | args, us, n, r => fun t => by
    rw [Array.getD_eq_getD_getElem?]
    have key : ∀ {args : List SV} {us : List Value}, RepL h θ args us → ∀ t, Rep h θ (initT args t) (((us ++ List.replicate n undef)[t]?).getD undef) := by
      intro args us r
      induction args generalizing us with
      | nil =>
        intro t
        rw [r.nil_inv]
        simp only [initT, List.nil_append]
        rcases Nat.lt_or_ge t n with h | h
        · rw [List.getElem?_replicate, if_pos h]; exact .undef
        · rw [List.getElem?_eq_none (by simpa using h)]; exact .undef
      | cons a args ih =>
        intro t
        obtain ⟨v, vs, rfl, r1, r2⟩ := r.cons_inv
        cases t with
        | zero => exact r1
        | succ t => simpa [initT] using ih r2 t
    have := key r t
    rw [← Array.getElem?_toList]
    simpa using this

/-- what a piece of code comes to -/
def CodeOk (E : Env) (n0 : Nat) (w0 : World) (h0 : Hp) (Q' : Goal) (n : Nat) : Prop :=
  ∀ (c : Code) (s : St) (K : Ex → St → Tree) (a : Act) (w : World) (h : Hp) (θ : Th) (Q : Exit → Act → World → Prop), SRel E n0 w0 h0 h θ s a w → (evCode E n c s K).holds Q' →
    (∀ e s' a' w' h' θ', SRel E n0 w0 h0 h' θ' s' a' w' → Later h θ s a h' θ' s' a' → (K e s').holds Q' → Q (exT e) a' w') → c.wp E.P Q a w ∧ ∀ b, c = .loop b → Code.rounds E.P b Q n a w

theorem body_ok {n : Nat} (hc : CodeOk E n0 w0 h0 Q' n) {f : FuncId} {fn : Func} (hf : E.P.funcs[f]? = some fn) {args : List SV} {M : Mem} {κ : Nat} {K : SV → St → Tree} (e : (evBody E fn (evCode E n) args M κ K).holds Q')
    {h : Hp} {θ : Th} {w : World} {us : List Value} (I : Inv E n0 w0 h0 h θ M (fun k => κ ≤ k) w) (ru : RepL h θ args us) :
    Calls E.P f us.toArray w fun en w' => ∃ v r s' h' θ', en = .returned v ∧ (K r s').holds Q' ∧ h.le h' ∧ θ.le θ' ∧ κ ≤ s'.κ ∧ Inv E n0 w0 h0 h' θ' s'.M (fun k => s'.κ ≤ k) w' ∧ Rep h' θ' r v := by
  unfold evBody at e
  split at e
  · rename_i body hbody
    obtain ⟨hle, e⟩ := holds_need (Closed.holds Q') e
    have hle : args.length ≤ fn.ntmps := Nat.le_of_ble_eq_true hle
    have hlen : us.length = args.length := (repL_length ru)
    refine calls_of_wp hf hbody ?_
    refine (hc body ⟨initT args, M, κ, fn.ntmps⟩ _ { tmps := us.toArray ++ Array.replicate (fn.ntmps - us.toArray.size) undef, defers := [] } w h θ _ ⟨I, initT_rep _ ru, by simp; omega⟩ e fun ex s' a' w' h' θ' R L eK => ?_).1
    have fin : (match resL E s' fn.results.toList with | some vs => K (oneS vs) s' | none => .fail : Tree).holds Q' → a'.defers = [] ∧ ∃ v, (results fn a'.tmps).run E.P w' = .ok v w' ∧ (∃ v1 r s' h' θ', Ending.returned v = .returned v1 ∧ (K r s').holds Q' ∧ h.le h' ∧ θ.le θ' ∧ κ ≤ s'.κ ∧ Inv E n0 w0 h0 h' θ' s'.M (fun k => s'.κ ≤ k) w' ∧ Rep h' θ' r v1) := fun eK => by
      split at eK
      · rename_i vs hr
        obtain ⟨u, h1, h2⟩ := result_ok R.inv R.tmps hr
        exact ⟨L.d, u, h1, u, _, s', h', θ', rfl, eK, L.hh, L.ht, L.κ, R.inv, h2⟩
      · exact eK.elim
    cases ex with
    | normal => exact fin eK
    | ret => exact fin eK
    | exit i => exact eK.elim
  · exact e.elim

/-- how functions without contracts are called -/
abbrev hooks1 (E : Env) (n : Nat) : Hooks := ⟨fun f args M κ K _ => match E.P.funcs[f]? with
    | some fn => evBody E fn (evCode E n) args M κ fun v s => K v s.M s.κ
    | none => .fail, fun _ _ _ _ _ _ => .fail⟩
theorem call_ok {n : Nat} (hc : CodeOk E n0 w0 h0 Q' n) : HooksOk E n0 w0 h0 (fun t => t.holds Q') (hooks1 E n) :=
  ⟨fun f args M κ K Kp e h θ w us I ru => by
    cases hf : E.P.funcs[f]? with
    | none => simp only [hf] at e; exact e.elim
    | some fn =>
      simp only [hf] at e
      exact (body_ok hc hf e I ru).mono fun en w' ⟨v, r, s', h', θ', q1, q2, q3, q4, q5, q6, q7⟩ => ⟨v, r, s'.M, s'.κ, h', θ', .inl ⟨q1, q2⟩, q3, q4, q5, q6, q7⟩,
   fun key args M κ K Kp e => e.elim⟩

theorem code_ok (ok : EnvOk E) : ∀ n, CodeOk E n0 w0 h0 Q' n
  | 0 => fun c s K a w h θ Q R e hk => e.elim
  | n + 1 => fun c s K a w h θ Q R e hk => by
    have ih := code_ok ok n
    have plain : c.wp E.P Q a w → (∀ b, c ≠ .loop b) → c.wp E.P Q a w ∧ ∀ b, c = .loop b → Code.rounds E.P b Q (n + 1) a w := fun h1 h2 => ⟨h1, fun b hb => absurd hb (h2 b)⟩
    cases c <;> simp only [evCode] at e <;> first | exact e.elim | skip
    case skip => exact plain (wp_skip (hk .normal s a w h θ R (.refl _ _ _ _) e)) (fun b hb => by cases hb)
    case label l => exact plain (wp_label (hk .normal s a w h θ R (.refl _ _ _ _) e)) (fun b hb => by cases hb)
    case exit id => exact plain (wp_exit (hk (.exit id) s a w h θ R (.refl _ _ _ _) e)) (fun b hb => by cases hb)
    case ret => exact plain (wp_ret (hk .ret s a w h θ R (.refl _ _ _ _) e)) (fun b hb => by cases hb)
    case region id ops draw =>
      refine plain ?_ (fun b hb => by cases hb)
      unfold evRegion at e
      rcases holds_bif (H := fun t => t.holds Q') e with ⟨rfl, e⟩ | ⟨rfl, e⟩
      · obtain ⟨hd, e⟩ := holds_need (Closed.holds Q') e
        refine wpIn_wide.1 (wpIn_region_any (F := FW none) (n := 0) ok.mixed ?_)
        obtain ⟨h2, hle2, I2⟩ := R.inv.freezeM (frzL ops.toList (beforeL [] ops.toList) s.T s.M 0 ops.toList)
        refine outer (r := none) ok (Closed.holds Q') (call_ok ih) hd (h1 := h) (θ1 := θ) (s1 := s) (a1 := a) (fun s' a' w' h' θ' R' L' e' => hk .normal s' a' w' h' θ' R' L' e') (Kp := noK) (fun v u M' κ' s' a' w' h' θ' _ _ _ _ e' => False.elim e') ops.size 0 _ (s.pre ops.toList (beforeL [] ops.toList) 0 ops.toList) a _ h2 θ (Nat.zero_le _) (Lst.init ops) (Nat.le_refl _) ⟨I2.drawn _, R.tmps.mono hle2 (.refl _), R.size⟩ ⟨hle2, .refl _, Nat.le_refl _, rfl, rfl⟩ (storesL ops.toList (beforeL [] ops.toList) s.T 0 s.κ 0 ops.toList) ?_
        exact e
      · refine wpIn_wide.1 (wpIn_region (F := FW none) (n := 0) ?_)
        have := evOps_ok (r := none) ok (Closed.holds Q') (call_ok ih) (Q := Q) ops.toList 0 (by simp) R e (fun s' a' w' h' θ' R' hh ht hκ hn hd e' => hk .normal s' a' w' h' θ' R' ⟨hh, ht, hκ, hn, hd⟩ e') (Kp := noK) (fun v u M' κ' a' w' h' θ' _ _ _ _ _ _ e' => False.elim e')
        rw [List.range_eq_range']
        simpa using this
    case seq x y =>
      refine plain (wp_seq (ih x s _ a w h θ _ R e fun ex s' a' w' h' θ' R' L' e' => ?_).1) (fun b hb => by cases hb)
      cases ex with
      | normal => exact (ih y s' K a' w' h' θ' Q R' e' fun e2 s2 a2 w2 h2 θ2 R2 L2 e2' => hk e2 s2 a2 w2 h2 θ2 R2 (L'.trans L2) e2').1
      | exit i => exact hk (.exit i) s' a' w' h' θ' R' L' e'
      | ret => exact hk .ret s' a' w' h' θ' R' L' e'
    case cond c x y =>
      refine plain ?_ (fun b hb => by cases hb)
      have r := opd_rep R.tmps c
      split at e
      · rename_i hq
        rw [hq] at r
        have hv : a.eval c = .bool true := by generalize a.eval c = u at r; cases r; rfl
        exact wp_cond_true hv (ih x s K a w h θ Q R e hk).1
      · rename_i hq
        rw [hq] at r
        have hv : a.eval c = .bool false := by generalize a.eval c = u at r; cases r; rfl
        exact wp_cond_false hv (ih y s K a w h θ Q R e hk).1
      · rename_i q hq
        rw [hq] at r
        have hv : a.eval c = .bool q := by generalize a.eval c = u at r; cases r; rfl
        refine wp_cond hv ?_
        rcases holds_bif (H := fun t => t.holds Q') e with ⟨rfl, e⟩ | ⟨rfl, e⟩
        · exact (ih x s K a w h θ Q R e hk).1
        · exact (ih y s K a w h θ Q R e hk).1
      · exact e.elim
    case block id body =>
      refine plain (wp_block (ih body s _ a w h θ _ R e fun ex s' a' w' h' θ' R' L' e' => ?_).1) (fun b hb => by cases hb)
      cases ex with
      | normal => exact hk .normal s' a' w' h' θ' R' L' e'
      | exit i =>
        simp only [exT, Exit.inBlock]
        rcases holds_bif (H := fun t => t.holds Q') e' with ⟨hi, e'⟩ | ⟨hi, e'⟩
        · rw [if_pos (Nat.eq_of_beq_eq_true hi)]
          exact hk .normal s' a' w' h' θ' R' L' e'
        · rw [if_neg (fun h => by subst h; rw [Nat.beq_refl] at hi; cases hi)]
          exact hk (.exit i) s' a' w' h' θ' R' L' e'
      | ret => exact hk .ret s' a' w' h' θ' R' L' e'
    case loop body =>
      have hr : Code.rounds E.P body Q (n + 1) a w := by
        rw [rounds_succ]
        refine (ih body s _ a w h θ _ R e fun ex s' a' w' h' θ' R' L' e' => ?_).1
        cases ex with
        | normal => exact (ih (.loop body) s' K a' w' h' θ' Q R' e' fun e2 s2 a2 w2 h2 θ2 R2 L2 e2' => hk e2 s2 a2 w2 h2 θ2 R2 (L'.trans L2) e2').2 body rfl
        | exit i => exact hk (.exit i) s' a' w' h' θ' R' L' e'
        | ret => exact hk .ret s' a' w' h' θ' R' L' e'
      exact ⟨wp_loop_rounds (n + 1) hr, fun b hb => by cases hb; exact hr⟩
    case scope body =>
      refine plain (wp_scope_straight (ih body s K a w h θ _ R e fun ex s' a' w' h' θ' R' L' e' => ?_).1) (fun b hb => by cases hb)
      cases ex <;> exact hk _ s' a' w' h' θ' R' L' e'

theorem liftS_rep {M : Mem} {h : Hp} {θ : Th} {s s' : SV} {v : Value} (e : liftS M s = some s') (r : Rep h θ s v) (L : Lies h θ M (keysS s)) : Rep h Th0 s' v := by
  cases s with
  | tup vs =>
    simp only [liftS] at e
    cases hl : liftL M vs with
    | none => rw [hl] at e; cases e
    | some vs' =>
      rw [hl] at e; cases e
      cases r
      exact .tup _ _ ((liftL_rep hl ‹_› L).kf (liftL_kf hl))
  | _ => exact (liftA_rep (by simpa only [liftS] using e) r (by simpa only [keysS] using L)).kfA (liftA_kf (by simpa only [liftS] using e))

/-- A function's call comes to what the tree says. -/
theorem evF_ok (ok : EnvOk E) {n : Nat} {f : FuncId} {args : List SV} {Q : SV → Prop} (e : (evF E n f args).ends Q) {h : Hp} {w : World} {us : List Value} (hag : ∀ b o, h b = some o → w.heap[b]? = some o) (hg : GlobOk E h) (ru : RepL h Th0 args us) :
    Calls E.P f us.toArray w fun en w' => ∃ v r h', en = .returned v ∧ Q r ∧ Below w.heap.size w w' ∧ h.le h' ∧ (∀ b o, h' b = some o → w'.heap[b]? = some o) ∧ (∀ b, b < w.heap.size → h' b = h b) ∧ Rep h' Th0 r v := by
  unfold evF at e
  split at e
  · rename_i fn hf
    have I : Inv E w.heap.size w h h Th0 (fun _ => none) (fun k => 0 ≤ k) w :=
      ⟨hag, (fun k b e => by cases e), (fun k k' b b' id v v' e => by cases e), fun _ _ => rfl, .refl _ _, rfl, .refl _, fun _ _ => rfl, hg⟩
    refine (body_ok (code_ok ok n) hf e I ru).mono fun en w' ⟨v, r, s', h', θ', q1, q2, q3, q4, q5, q6, q7⟩ => ?_
    split at q2
    · rename_i r' hl
      obtain ⟨h2, hle, I2⟩ := q6.freezeM (keysS r)
      exact ⟨v, r', h2, q1, q2, I2.below, I2.hle, I2.agree, I2.hold, liftS_rep hl (q7.mono hle (.refl _)) I2.lies⟩
    · exact q2.elim
  · exact e.elim
theorem spec_of (ok : EnvOk E) {n : Nat} {f : FuncId} {S : Spec} (e : ∀ svs x, S.run svs = some (true, x) → (evF E n f svs).ends fun r => r = S.enc x ∧ S.wf x) : SpecOk E f S :=
  fun svs x hx h w us hag hg ru => (evF_ok ok (e svs x hx) hag hg ru).mono fun en w' ⟨v, r, h', q1, ⟨q2, q3⟩, q4, q5, q6, q7, q8⟩ => ⟨v, h', q1, q4, q5, q6, q7, q2 ▸ q8, q3⟩
end code
end Go.Proofs.YtchljgmcempedaaGreatDoor
